/- The contract of a disk's Crash. -/
import Derived.Test.YtbaaoldcecefcaaDkE
namespace Go.Proofs.Ytbaaoldcecefcaa
open Go.RowKit

/-- What lasts behind a crash that keeps k bytes of those that wait. -/
def crashB : List UInt8 → Nat → List (Nat × List UInt8) → List UInt8
  | l, _, [] => l
  | l, k, p :: r => crashB (splice l p.1 (p.2.take (min k p.2.length))) (k - min k p.2.length) r
def Dp.crash (d : Dp) (keep : Int) : Dp := ⟨crashB d.lasts keep.toNat d.waits, crashB d.lasts keep.toNat d.waits, [], false, 0⟩
theorem crashB_len (ps : List (Nat × List UInt8)) (n : Nat) (h : ∀ p ∈ ps, p.1 + p.2.length ≤ n) : ∀ (l : List UInt8) (k : Nat), l.length = n → (crashB l k ps).length = n := by
  induction ps with
  | nil => intro l k hl; exact hl
  | cons p r ih =>
    intro l k hl
    have hp := h p (by simp)
    exact ih (fun q hq => h q (by simp [hq])) _ _ (by rw [splice_len _ _ _ (by rw [List.length_take]; omega)]; exact hl)
theorem crashB_step (l : List UInt8) (k j : Nat) (ps : List (Nat × List UInt8)) (p : Nat × List UInt8) (h : ps[j]? = some p) :
    crashB l k (ps.drop j) = crashB (splice l p.1 (p.2.take (min k p.2.length))) (k - min k p.2.length) (ps.drop (j + 1)) := by
  have hj : j < ps.length := by
    rcases Nat.lt_or_ge j ps.length with h1 | h1
    · exact h1
    · rw [List.getElem?_eq_none h1] at h; cases h
  rw [List.drop_eq_getElem_cons hj]
  rw [List.getElem?_eq_getElem hj] at h
  have := Option.some.inj h
  rw [this]
  rfl

theorem DkAt.set43 {w : World} {g : Nat} {M R : Nat → Prop} {d : Dp} {nv lv wv : Value} {ws : List (Nat × Value)} (h : DkAt w g M R d nv lv wv ws) (x : Int) (b : Bool) (s : Nat) (hx : x = (s : Int)) (hs : s ≤ 9223372036854775807) :
    Chg (· = g) w ((w.setCell ⟨g, 3, none⟩ (.bool b)).setCell ⟨g, 4, none⟩ (.int .i64 x)) ∧ Dk ((w.setCell ⟨g, 3, none⟩ (.bool b)).setCell ⟨g, 4, none⟩ (.int .i64 x)) g M R { d with dead := b, stop := s } := by
  subst hx
  have hch : Chg (· = g) w ((w.setCell ⟨g, 3, none⟩ (.bool b)).setCell ⟨g, 4, none⟩ (.int .i64 (s : Int))) :=
    ((Chg.refl (· = g) w).setCell (p := ⟨g, 3, none⟩) (fun _ => rfl) _).setCell (p := ⟨g, 4, none⟩) (fun _ => rfl) _
  exact ⟨hch, nv, lv, wv, ws, h.turn hch ((h.bk.set 3 (.bool b)).set 4 (.int .i64 (s : Int))) hs⟩

set_option maxHeartbeats 1000000 in
set_option maxRecDepth 100000 in
theorem dcrash_any {g : Nat} {M R : Nat → Prop} {d : Dp} {w : World} (h : Dk w g M R d) (keep : Int) (hk1 : -9223372036854775808 ≤ keep) (hk2 : keep ≤ 9223372036854775807) (hlong : d.waits.length ≤ 1000000) :
    Calls Try.prog 13 #[.pointer (some ⟨g, 0, none⟩), .int .i64 keep] w fun e w' => (∃ v, e = .returned v) ∧ Chg M w w' ∧ Dk w' g M R (d.crash keep) := by
  obtain ⟨nv, lv, wv, ws, h⟩ := h
  obtain ⟨F, c, rfl, hnc, hcm⟩ := h.row.form
  obtain ⟨B, bc, rfl, hbc, hbm⟩ := h.lasts.form
  have hc1 : w.cell? ⟨g, 1, none⟩ = some (.slice B d.now.length bc) := h.bk.cell 1 rfl
  have hc2 : w.cell? ⟨g, 2, none⟩ = some (.slice F d.waits.length c) := h.bk.cell 2 rfl
  have hat := waits_at h.row h.ats h.vals rfl F c rfl
  have hmost := h.ok.most
  have HH := Hid.mk (And.intro h hat)
  clear h hat
  generalize hn : d.waits.length = n at *
  generalize hL : d.now.length = L at *
  go_enter Try.func13, Try.ntmps13
  go_wp2_with fail
  go_loopw [1, 12] (fun kp i wr => ∃ (k : Nat) (kk : Int) (cur : List UInt8), k ≤ n ∧ i = .int .i64 (k : Int) ∧ kp = .int .i64 kk ∧ (kk = keep ∨ (0 ≤ kk ∧ kk ≤ keep)) ∧ cur.length = L ∧
    crashB cur kk.toNat (d.waits.drop k) = crashB d.lasts keep.toNat d.waits ∧ Chg (Own (.slice B L bc)) w wr ∧ Row wr 5 1 (.slice B L bc) L (cur.map bv)) (fun _ i _ => n - (intOf i).toNat)
  case atStart => exact ⟨0, keep, d.lasts, Nat.zero_le _, rfl, rfl, .inl rfl, by rw [← hL]; exact HH.out.1.ok.same, by simp, Chg.refl _ _, by rw [← hL]; have := HH.out.1.lasts; rw [hL] at this ⊢; exact this⟩
  case round =>
    obtain ⟨k, kk, cur, hk, rfl, rfl, hkk, hcl, hcb, hch, hrow⟩ := hrel
    by_cases hlt : k < n
    · obtain ⟨b, rfl, hat⟩ := HH.out.2 (by omega)
      obtain ⟨p, E, m, hp, h1, h2, h3, h4, h5⟩ := hat k hlt
      have hne : ¬ Own (.slice B L bc) b := fun hk => (HH.out.1.mw b (by rw [← hn]; rfl)).2.2.2 hk
      have h1' := hch.cell h1 hne
      have h2' := hch.cell h2 hne
      have hngl : ¬ Own (.slice B L bc) g := fun hk => (HH.out.1.ml g hk).2.1 rfl
      have hc1' := hch.cell hc1 hngl
      have hc1'' : (wr.alloc (.cells #[.int .i64 (p.1 : Int), .slice E p.2.length m] 61)).cell? ⟨g, 1, none⟩ = some (.slice B L bc) := ((Chg.refl Nil wr).alloc _).cell hc1' (fun h => h)
      have hr' := h5.keep hch (fun i hr hl => HH.out.1.apart i (HH.out.1.ml i hl).1 hr)
      have hpf := HH.out.1.ok.fits p (List.mem_of_getElem? hp)
      rw [hL] at hpf
      have HK := Hid.mk (And.intro hch (And.intro hat (And.intro hp (And.intro hrow (And.intro hr' (And.intro hcb hkk))))))
      clear hch hat h1 h2 h5 hrow hr' hcb hkk
      generalize hpl : p.2.length = pl at *
      go_wp2_with fail
      have hA : Chg Nil wr (wr.alloc (.cells #[.int .i64 (p.1 : Int), .slice E pl m] 61)) := (Chg.refl Nil wr).alloc _
      refine (into_any p.1 E pl m p.2 R B L bc cur kk _ (by rw [← hpl]; rw [hpl]; exact HK.out.2.2.2.2.1.keep hA (fun _ _ h => h)) h3 h4 (HK.out.2.2.2.1.keep hA (fun _ _ h => h)) hmost hpf).mono ?_
      rintro e w2 ⟨rfl, hrow2, hc2'⟩
      have H2 := Hid.mk (And.intro hrow2 (HK.out.1.trans ((hA.wider (T := Own (.slice B L bc)) (fun _ _ h => h.elim)).trans hc2' (fun _ _ h => h)) (fun _ _ h => h)))
      clear hrow2 hc2' hA
      go_wp2_with fail
      have hkk := HK.out.2.2.2.2.2.2
      have hw : wrap64 (kk - ((min kk.toNat pl : Nat) : Int)) = kk - ((min kk.toNat pl : Nat) : Int) := by
        unfold wrap64
        omega
      go_roundw
      case rel =>
        refine ⟨k + 1, kk - ((min kk.toNat pl : Nat) : Int), splice cur p.1 (p.2.take (min kk.toNat pl)), by omega, by go_num, by rw [hw], by omega, ?_, ?_, H2.out.2, H2.out.1⟩
        · rw [splice_len _ _ _ (by rw [List.length_take]; omega)]; exact hcl
        · rw [← HK.out.2.2.2.2.2.1, crashB_step _ _ _ _ _ HK.out.2.2.1, hpl]
          congr 1
          omega
      case measure => simp [intOf]; omega
    · have : k = n := by omega
      subst this
      rw [List.drop_of_length_le (by omega), crashB] at hcb
      have hgM := HH.out.1.mg
      have h1 := HH.out.1.lasted (by rw [hL]; exact hrow) hch (by rw [hL]; exact hcl)
      have H1 := Hid.mk (And.intro h1 (And.intro (hch.wider (T := M) (fun k _ hk => (HH.out.1.ml k hk).1)) hcb))
      clear h1 hch hcb hrow hkk hcl
      go_wp2_with fail
      refine wp_region_tail 8 (by kernel_rfl) (by kernel_rfl) fun W hW => ?_
      simp only [List.take_succ_cons, List.take_zero, List.drop_succ_cons, List.drop_zero]
      have hch : Chg Nil wr W := by subst hW; exact (Chg.refl Nil wr).drew
      have hW1 := H1.out.1.keep hch (fun _ _ h => h) (fun _ _ h => h)
      clear hW
      obtain ⟨A, ac, rfl, hnc, hcm⟩ := hW1.now.form
      rw [show ({ d with lasts := cur } : Dp).now.length = L from hL] at hnc
      have hc0' : W.cell? ⟨g, 0, none⟩ = some (.slice A L ac) := by rw [← hL]; exact hW1.bk.cell 0 rfl
      have hc1' : W.cell? ⟨g, 1, none⟩ = some (.slice B L bc) := hW1.bk.cell 1 rfl
      have HW := Hid.mk (And.intro hW1 (H1.out.2.1.trans (hch.wider (T := M) (fun _ _ h => h.elim)) (fun _ _ h => h)))
      clear hW1 hch
      repeat (go_big_quiet_step (fail))
      refine wpQuiet_nil ?_
      have hrn : Row W 5 1 (.slice A L ac) L (d.now.map bv) := by
        have := HW.out.1.now
        rw [show ({ d with lasts := cur } : Dp).now.length = L from hL] at this
        exact this
      have hrl : Row W 5 1 (.slice B L bc) L (cur.map bv) := by
        have := HW.out.1.lasts
        rw [show ({ d with lasts := cur } : Dp).now.length = L from hL] at this
        exact this
      have hcl := hrl.1
      rw [List.length_map, Nat.mul_one] at hcl
      refine wpl_copy rfl (.tmp 31) (.tmp 35) 22 22 rfl 5 5 Try.underlying22 Try.sizeU8 A L ac 0 ac _ hrn A (fun g hg _ => hg) (by omega) _ B L bc _ hrl.rd (bv_one _) rfl rfl ?_
      intro w2 hr2 hc2
      rw [Nat.sub_zero, Nat.min_self, List.take_of_length_le (by rw [List.length_map, hcl]; exact Nat.le_refl _), splice_map, splice_all _ _ (by rw [hL, hcl])] at hr2
      have hnl : Value.slice A ({ d with lasts := cur } : Dp).now.length ac = .slice A L ac := by rw [show ({ d with lasts := cur } : Dp).now.length = L from hL]
      have hW' := HW.out.1
      rw [hnl] at hW'
      have h2 := hW'.nowed (x := cur) (by rw [show ({ d with lasts := cur } : Dp).now.length = L from hL]; exact hr2) hc2 (by rw [hcl]; exact hL.symm)
      have hM2 := HW.out.2.trans hc2 (fun k _ hk => (hW'.mn k hk).1)
      obtain ⟨hch3, h3⟩ := h2.waitless
      obtain ⟨hch4, h4⟩ := h3.set43 0 false 0 rfl (by omega)
      have hf2 := h2.bk.free 2
      have hf3 := h3.bk.free 3
      have hf4 := (h2.bk.free 4)
      have hd2 : w2.cell? ⟨g, 2, none⟩ = some (.slice F k c) := h2.bk.cell 2 rfl
      have hd3 : w2.cell? ⟨g, 3, none⟩ = some (.bool d.dead) := h2.bk.cell 3 rfl
      have hd4 : w2.cell? ⟨g, 4, none⟩ = some (.int .i64 (d.stop : Int)) := h2.bk.cell 4 rfl
      have hf3' := h2.bk.free 3
      have H3 := Hid.mk (And.intro ((hM2.trans hch3 (fun k _ hk => hk ▸ hgM)).trans hch4 (fun k _ hk => hk ▸ hgM)) h4)
      clear hch3 h3 hch4 h4 h2 hM2 hW' hr2 hc2 hrn hrl hf3
      go_wp2
      go_end0
      refine ⟨⟨_, rfl⟩, H3.out.1, ?_⟩
      have hcb := H1.out.2.2
      rw [Dp.crash, ← hcb]
      exact H3.out.2
end Go.Proofs.Ytbaaoldcecefcaa
