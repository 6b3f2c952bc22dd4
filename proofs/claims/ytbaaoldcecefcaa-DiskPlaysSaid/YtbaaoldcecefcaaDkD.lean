/- The contracts of a disk's Sync and Waits. -/
import Derived.Test.YtbaaoldcecefcaaDkC
namespace Go.Proofs.Ytbaaoldcecefcaa
open Go.RowKit

section
variable {w w' : World} {g : Nat} {M R S : Nat → Prop} {d : Dp} {nv lv wv : Value} {ws : List (Nat × Value)}
/-- The row of what lasts has changed. -/
theorem DkAt.lasted (h : DkAt w g M R d nv lv wv ws) {x : List UInt8} (hrow : Row w' 5 1 lv d.now.length (x.map bv)) (hc : Chg (Own lv) w w') (hx : x.length = d.now.length) : DkAt w' g M R { d with lasts := x } nv lv wv ws :=
  { bk := h.bk.keep hc (fun hg => (h.ml g hg).2.1 rfl), now := h.now.keep hc (fun k hk hs => (h.ml k hs).2.2 hk), lasts := hrow,
    row := h.row.keep hc (fun k hk hs => (h.mw k hk).2.2.2 hs), ats := h.ats, vals := h.vals.keep hc (fun k hk hs => h.apart k (h.ml k hs).1 hk),
    mg := h.mg, mn := h.mn, ml := h.ml, mw := h.mw, apart := h.apart, lt := fun k hk => Nat.lt_of_lt_of_le (h.lt k hk) hc.size, ok := ⟨hx, h.ok.most, h.ok.fits, h.ok.stop⟩ }
/-- The row of what is written has changed. -/
theorem DkAt.nowed (h : DkAt w g M R d nv lv wv ws) {x : List UInt8} (hrow : Row w' 5 1 nv d.now.length (x.map bv)) (hc : Chg (Own nv) w w') (hx : x.length = d.now.length) : DkAt w' g M R { d with now := x } nv lv wv ws :=
  { bk := h.bk.keep hc (fun hg => (h.mn g hg).2 rfl), now := by rw [← hx] at hrow; exact hrow, lasts := by
      have := h.lasts.keep hc (fun k hk hs => (h.ml k hk).2.2 hs)
      rw [← hx] at this
      exact this
    row := h.row.keep hc (fun k hk hs => (h.mw k hk).2.2.1 hs), ats := h.ats, vals := h.vals.keep hc (fun k hk hs => h.apart k (h.mn k hs).1 hk),
    mg := h.mg, mn := h.mn, ml := h.ml, mw := h.mw, apart := h.apart, lt := fun k hk => Nat.lt_of_lt_of_le (h.lt k hk) hc.size,
    ok := ⟨by rw [hx]; exact h.ok.same, by rw [hx]; exact h.ok.most, fun p hp => by rw [hx]; exact h.ok.fits p hp, h.ok.stop⟩ }
/-- Nothing waits any more. -/
theorem DkAt.waitless (h : DkAt w g M R d nv lv wv ws) :
    Chg (· = g) w (w.setCell ⟨g, 2, none⟩ (.slice none 0 0)) ∧ DkAt (w.setCell ⟨g, 2, none⟩ (.slice none 0 0)) g M R { d with waits := [] } nv lv (.slice none 0 0) [] := by
  have hch : Chg (· = g) w (w.setCell ⟨g, 2, none⟩ (.slice none 0 0)) := (Chg.refl (· = g) w).setCell (p := ⟨g, 2, none⟩) (fun _ => rfl) _
  refine ⟨hch, ?_⟩
  exact
    { bk := h.bk.set 2 (.slice none 0 0), now := h.now.keep hch (fun k hk hs => (h.mn k hk).2 hs), lasts := h.lasts.keep hch (fun k hk hs => (h.ml k hk).2.1 hs),
      row := ⟨rfl, .inl ⟨rfl, rfl⟩⟩, ats := rfl, vals := RdL.nil, mg := h.mg, mn := h.mn, ml := h.ml, mw := fun k hk => by simp [Own, Value.ownBlock] at hk
      apart := h.apart, lt := fun k hk => Nat.lt_of_lt_of_le (h.lt k hk) hch.size, ok := ⟨h.ok.same, h.ok.most, fun p hp => by simp at hp, h.ok.stop⟩ }
end

def Dp.sync (d : Dp) : Dp := { d.called with lasts := d.now, waits := [] }
theorem Dp.called_now (d : Dp) : d.called.now = d.now := by unfold Dp.called; split <;> rfl
theorem Dp.called_waits (d : Dp) : d.called.waits = d.waits := by unfold Dp.called; split <;> rfl
theorem Dp.called_lasts (d : Dp) : d.called.lasts = d.lasts := by unfold Dp.called; split <;> rfl

theorem dsync_dead {g : Nat} {M R : Nat → Prop} {d : Dp} {w : World} (h : Dk w g M R d) (hd : d.dead = true) :
    Calls Try.prog 16 #[.pointer (some ⟨g, 0, none⟩)] w fun e w' => e = .returned (.int .i64 9) ∧ w' = w := by
  go_enter Try.func16, Try.ntmps16
  go_wp2_with fail
  refine (call_dead h hd).mono ?_
  rintro e w1 ⟨rfl, rfl⟩
  go_wp2_with fail
  go_ret
  exact ⟨rfl, rfl⟩

theorem splice_all {α : Type} (l x : List α) (h : l.length = x.length) : splice l 0 x = x := by
  simp [splice, ← h]
theorem Try.sizeU8 : (Try.prog.info? 5).map (·.size) = some 1 := by
  obtain ⟨i0, hi, hz0, hz1, hz2⟩ := info_parts Try.infoU8
  rw [hi]
  exact congrArg some hz1

set_option maxHeartbeats 1000000 in
set_option maxRecDepth 100000 in
theorem dsync_ok {g : Nat} {M R : Nat → Prop} {d : Dp} {w : World} (h : Dk w g M R d) (hd : d.dead = false) :
    Calls Try.prog 16 #[.pointer (some ⟨g, 0, none⟩)] w fun e w' => e = .returned (.int .i64 0) ∧ Chg M w w' ∧ Dk w' g M R d.sync := by
  have hsync : d.sync = { d.called with lasts := d.called.now, waits := [] } := by rw [Dp.called_now]; rfl
  rw [hsync]
  have hgM : M g := by obtain ⟨_, _, _, _, h⟩ := h; exact h.mg
  have hcall := call_ok h hd
  clear hsync
  generalize d.called = d1 at *
  go_enter Try.func16, Try.ntmps16
  go_wp2_with fail
  refine hcall.mono ?_
  rintro e w1 ⟨rfl, hc, h1⟩
  have HC := Hid.mk (hc.wider (T := M) (fun k _ hk => hk ▸ hgM))
  clear hc h hd hcall
  obtain ⟨nv, lv, wv, ws, h1⟩ := h1
  go_wp2_with fail
  refine wp_region_tail 8 (by kernel_rfl) (by kernel_rfl) fun W hW => ?_
  simp only [List.take_succ_cons, List.take_zero, List.drop_succ_cons, List.drop_zero]
  have hch : Chg Nil w1 W := by subst hW; exact (Chg.refl Nil w1).drew
  have hW1 := h1.keep hch (fun _ _ h => h) (fun _ _ h => h)
  clear h1 hW
  obtain ⟨A, c, rfl, hnc, hcm⟩ := hW1.now.form
  obtain ⟨B, m, rfl, hnm, hmm⟩ := hW1.lasts.form
  have hc0 : W.cell? ⟨g, 0, none⟩ = some (.slice A d1.now.length c) := hW1.bk.cell 0 rfl
  have hc1 : W.cell? ⟨g, 1, none⟩ = some (.slice B d1.now.length m) := hW1.bk.cell 1 rfl
  have HW := Hid.mk (And.intro hW1 (HC.out.trans hch (fun _ _ h => h.elim)))
  clear hW1 hch
  repeat (go_big_quiet_step (fail))
  refine wpQuiet_nil ?_
  refine wpl_copy rfl (.tmp 12) (.tmp 16) 22 22 rfl 5 5 Try.underlying22 Try.sizeU8 B d1.now.length m 0 m _ HW.out.1.lasts B (fun g hg _ => hg) (by omega) _ A d1.now.length c _ HW.out.1.now.rd (bv_one _) rfl rfl ?_
  intro w2 hr2 hc2
  rw [Nat.sub_zero, Nat.min_self, List.take_of_length_le (by simp), splice_map, splice_all _ _ HW.out.1.ok.same] at hr2
  have h2 := HW.out.1.lasted hr2 hc2 rfl
  have hf2 := h2.bk.free 2
  have hc2' : w2.cell? ⟨g, 2, none⟩ = some wv := h2.bk.cell 2 rfl
  have H2 := Hid.mk (And.intro h2 (HW.out.2.trans hc2 (fun k _ hk => (HW.out.1.ml k hk).1)))
  clear h2 hc2 hr2
  go_wp2
  go_ret
  obtain ⟨hch, h3⟩ := H2.out.1.waitless
  exact ⟨rfl, H2.out.2.trans hch (fun k _ hk => hk ▸ hgM), _, _, _, _, h3⟩

/-- How many bytes wait. -/
def sumW : List (Nat × List UInt8) → Nat
  | [] => 0
  | p :: r => p.2.length + sumW r
theorem sumW_append (a b : List (Nat × List UInt8)) : sumW (a ++ b) = sumW a + sumW b := by
  induction a with
  | nil => simp [sumW]
  | cons p t ih => simp [sumW, ih]; omega
theorem sumW_le (l : List (Nat × List UInt8)) (n : Nat) (h : ∀ p ∈ l, p.2.length ≤ n) : sumW l ≤ l.length * n := by
  induction l with
  | nil => simp [sumW]
  | cons p t ih =>
    have h1 := h p (by simp)
    have h2 := ih (fun q hq => h q (by simp [hq]))
    simp only [sumW, List.length_cons, Nat.add_mul]
    omega

/-- The cells of the writes, one by one. -/
theorem waits_at {w : World} {R : Nat → Prop} {wv : Value} {n : Nat} {ws : List (Nat × Value)} {ps : List (Nat × List UInt8)} (hrow : Row w 61 2 wv n (wCells ws)) (hats : ws.map (·.1) = ps.map (·.1)) (hv : RdL w R (ws.map (·.2)) (ps.map (·.2))) (hn : ps.length = n) :
    ∀ A c, wv = .slice A n c → 0 < n → ∃ b, A = some ⟨b, 0, none⟩ ∧ ∀ k, k < n → ∃ p B m, ps[k]? = some p ∧ w.cell? ⟨b, k * 2, none⟩ = some (.int .i64 (p.1 : Int)) ∧ w.cell? ⟨b, k * 2 + 1, none⟩ = some (.slice B p.2.length m) ∧
      p.2.length ≤ m ∧ m ≤ maxLen ∧ RdB w R B p.2.length p.2 := by
  rintro A c rfl hpos
  have hl : ws.length = n := by have := congrArg List.length hats; simp at this; omega
  rcases hrow.2 with ⟨he, h0⟩ | ⟨g, cap, cur, lo, hi, he, hg, hf, hc, hm, hs, ht⟩
  · omega
  · injection he with h1 _ h3
    subst h1 h3
    refine ⟨g, rfl, fun k hk => ?_⟩
    have hq : ws[k]? = some (ws[k]'(by omega)) := List.getElem?_eq_getElem (by omega)
    have hp : ps[k]? = some (ps[k]'(by omega)) := List.getElem?_eq_getElem (by omega)
    obtain ⟨c1, c2⟩ := wCells_get ws k _ hq
    have cellOf : ∀ j u, (wCells ws)[j]? = some u → w.cell? ⟨g, j, none⟩ = some u := by
      intro j u hu
      rw [cell_of_list hg]
      rw [← ht, List.getElem?_take] at hu
      split at hu
      · exact hu
      · cases hu
    have ha : (ws[k]'(by omega)).1 = (ps[k]'(by omega)).1 := by
      have := congrArg (fun l => l[k]?) hats
      simp only [List.getElem?_map, hq, hp, Option.map_some] at this
      exact Option.some.inj this
    obtain ⟨B, m, hB, h2, h3, h4⟩ := hv.2 k (ps[k]'(by omega)).2 (by rw [List.getElem?_map, hp]; rfl)
    rw [List.getElem?_map, hq] at hB
    have hB' : (ws[k]'(by omega)).2 = .slice B (ps[k]'(by omega)).2.length m := Option.some.inj hB
    refine ⟨_, B, m, hp, ?_, ?_, h2, h3, h4⟩
    · rw [← ha]; exact cellOf _ _ c1
    · rw [← hB']; exact cellOf _ _ c2
theorem sumW_take (l : List (Nat × List UInt8)) (k : Nat) (p : Nat × List UInt8) (h : l[k]? = some p) : sumW (l.take (k + 1)) = sumW (l.take k) + p.2.length := by
  rw [List.take_add_one, h, sumW_append]
  rfl

set_option maxHeartbeats 1000000 in
set_option maxRecDepth 100000 in
theorem dwaits_any {g : Nat} {M R : Nat → Prop} {d : Dp} {w : World} (h : Dk w g M R d) (hlong : d.waits.length ≤ 1000000) :
    Calls Try.prog 14 #[.pointer (some ⟨g, 0, none⟩)] w fun e w' => e = .returned (.int .i64 (sumW d.waits : Int)) ∧ Chg Nil w w' := by
  obtain ⟨nv, lv, wv, ws, h⟩ := h
  obtain ⟨A, c, rfl, hnc, hcm⟩ := h.row.form
  have hc2 : w.cell? ⟨g, 2, none⟩ = some (.slice A d.waits.length c) := h.bk.cell 2 rfl
  have hsum : ∀ k, sumW (d.waits.take k) ≤ 1000000 * 1000000 := fun k => by
    refine Nat.le_trans (sumW_le _ 1000000 fun p hp => ?_) (Nat.mul_le_mul_right _ ?_)
    · have := h.ok.fits p (List.mem_of_mem_take hp)
      have := h.ok.most
      omega
    · rw [List.length_take]; omega
  have hat := waits_at h.row h.ats h.vals rfl A c rfl
  have HH := Hid.mk (And.intro h (And.intro hat hsum))
  clear h hat hsum
  generalize hps : d.waits = ps at *
  generalize hn : ps.length = n at *
  go_enter Try.func14, Try.ntmps14
  go_wp2_with fail
  go_loopw [3, 11] (fun s i wr => ∃ k : Nat, k ≤ n ∧ i = .int .i64 (k : Int) ∧ s = .int .i64 (sumW (ps.take k) : Int) ∧ Chg Nil w wr) (fun _ i _ => n - (intOf i).toNat)
  case atStart => exact ⟨0, Nat.zero_le _, rfl, rfl, Chg.refl _ _⟩
  case round =>
    obtain ⟨k, hk, rfl, rfl, hch⟩ := hrel
    by_cases hlt : k < n
    · obtain ⟨b, rfl, hat⟩ := HH.out.2.1 (by omega)
      obtain ⟨p, B, m, hp, h1, h2, h3, h4, h5⟩ := hat k hlt
      have h1' := hch.cell h1 (fun h => h)
      have h2' := hch.cell h2 (fun h => h)
      have hs1 := HH.out.2.2 (k + 1)
      rw [sumW_take _ _ _ hp] at hs1
      have HK := Hid.mk (And.intro hch (And.intro hat hp))
      clear hch hat h1 h2 h3 h4 h5
      generalize hq : sumW (ps.take k) = q at *
      generalize hpl : p.2.length = pl at *
      go_wp2_with fail
      go_roundw
      case rel => exact ⟨k + 1, by omega, by go_num, by rw [sumW_take _ _ _ HK.out.2.2, hq, hpl]; go_num, HK.out.1.alloc _⟩
      case measure => simp [intOf]; omega
    · have : k = n := by omega
      subst this
      have hall : sumW (ps.take k) = sumW ps := by rw [List.take_of_length_le (by omega)]
      have HK := Hid.mk (And.intro hch hall)
      clear hch hall
      go_wp2
      go_ret
      exact ⟨by rw [← HK.out.2]; rfl, HK.out.1⟩
end Go.Proofs.Ytbaaoldcecefcaa
