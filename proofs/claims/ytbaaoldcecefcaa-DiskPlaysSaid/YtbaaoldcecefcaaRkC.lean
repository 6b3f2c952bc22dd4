/- The contract of the document's disk: Crash; the plain law: it keeps what the disk keeps. -/
import Derived.Test.YtbaaoldcecefcaaRkB
namespace Go.Proofs.Ytbaaoldcecefcaa
open Go.RowKit

def applyW : List UInt8 → List (Nat × UInt8) → List UInt8
  | l, [] => l
  | l, p :: r => applyW (l.set p.1 p.2) r
theorem applyW_len (ps : List (Nat × UInt8)) : ∀ l, (applyW l ps).length = l.length := by
  induction ps with
  | nil => intro l; rfl
  | cons p r ih => intro l; simp only [applyW, ih, List.length_set]
theorem applyW_app (ps qs : List (Nat × UInt8)) : ∀ l, applyW l (ps ++ qs) = applyW (applyW l ps) qs := by
  induction ps with
  | nil => intro l; rfl
  | cons p r ih => intro l; simp only [List.cons_append, applyW, ih]
theorem applyW_take (l : List UInt8) (ps : List (Nat × UInt8)) (k : Nat) (p : Nat × UInt8) (h : ps[k]? = some p) : applyW l (ps.take (k + 1)) = (applyW l (ps.take k)).set p.1 p.2 := by
  rw [List.take_add_one, h, applyW_app]
  rfl
def Rp.crash (r : Rp) (keep : Int) : Rp := ⟨applyW r.lasts (r.waits.take keep.toNat), applyW r.lasts (r.waits.take keep.toNat), [], -1, false⟩

theorem rwaits_at {w : World} {A : Option Addr} {n c : Nat} {l : List (Nat × UInt8)} (hrow : Row w 66 2 (.slice A n c) n (rCells l)) (hpos : 0 < n) :
    ∃ b, A = some ⟨b, 0, none⟩ ∧ Own (.slice A n c) b ∧ ∀ k p, l[k]? = some p → w.cell? ⟨b, k * 2, none⟩ = some (.int .i64 (p.1 : Int)) ∧ w.cell? ⟨b, k * 2 + 1, none⟩ = some (bv p.2) := by
  rcases hrow.2 with ⟨he, h0⟩ | ⟨g, cap, cur, lo, hi, he, hg, hf, hc, hm, hs, ht⟩
  · omega
  · injection he with h1 _ h3
    subst h1 h3
    refine ⟨g, rfl, rfl, fun k p hp => ?_⟩
    obtain ⟨c1, c2⟩ := wCells_get (l.map fun p => (p.1, bv p.2)) k (p.1, bv p.2) (by rw [List.getElem?_map, hp]; rfl)
    have cellOf : ∀ j u, (rCells l)[j]? = some u → w.cell? ⟨g, j, none⟩ = some u := by
      intro j u hu
      rw [cell_of_list hg]
      rw [← ht, List.getElem?_take] at hu
      split at hu
      · exact hu
      · cases hu
    exact ⟨cellOf _ _ c1, cellOf _ _ c2⟩

set_option maxHeartbeats 2000000 in
set_option maxRecDepth 100000 in
theorem rcrash_any {g : Nat} {M : Nat → Prop} {r : Rp} {w : World} (h : Rk w g M r) (keep : Int) (hlong : r.waits.length ≤ 1000000000) :
    Calls Try.prog 32 #[.pointer (some ⟨g, 0, none⟩), .int .i64 keep] w fun e w' => (∃ v, e = .returned v) ∧ Chg M w w' ∧ Rk w' g M (r.crash keep) := by
  obtain ⟨nv, lv, wv, h⟩ := h
  obtain ⟨F, c, rfl, hnc, hcm⟩ := h.row.form
  obtain ⟨B, bc, rfl, hbc, hbm⟩ := h.lasts.form
  have hmost := h.ok.most
  have HH := Hid.mk h
  clear h
  generalize hn : r.waits.length = n at *
  generalize hL : r.now.length = L at *
  have hg1 : w.cell? ⟨g, 1, none⟩ = some (.slice B L bc) := HH.out.bk.cell 1 rfl
  have hg2 : w.cell? ⟨g, 2, none⟩ = some (.slice F n c) := HH.out.bk.cell 2 rfl
  have hngl : ¬ Own (.slice B L bc) g := fun hk => (HH.out.ml g hk).2.1 rfl
  have hlr : Row w 5 1 (.slice B L bc) L (r.lasts.map bv) := by have := HH.out.lasts; rw [hL] at this; exact this
  have HL := Hid.mk hlr
  clear hlr
  go_enter Try.func32, Try.ntmps32
  go_wp2_with fail
  go_loopw [4] (fun i wr => ∃ k : Nat, k ≤ n ∧ k ≤ keep.toNat ∧ i = .int .i64 (k : Int) ∧ Chg (Own (.slice B L bc)) w wr ∧ Row wr 5 1 (.slice B L bc) L ((applyW r.lasts (r.waits.take k)).map bv)) (fun i _ => n - (intOf i).toNat)
  case atStart => exact ⟨0, Nat.zero_le _, Nat.zero_le _, rfl, Chg.refl _ _, HL.out⟩
  case round =>
    obtain ⟨k, hk, hkk, rfl, hch, hrow⟩ := hrel
    have hg1' := hch.cell hg1 hngl
    have hg2' := hch.cell hg2 hngl
    by_cases hlt : k < n
    · by_cases hltk : (k : Int) < keep
      · have dk : decide ((k : Int) < keep) = true := by rw [decide_eq_true_iff]; exact hltk
        have hp : r.waits[k]? = some (r.waits[k]'(by omega)) := List.getElem?_eq_getElem (by omega)
        have hpf := HH.out.ok.fits _ (List.mem_of_getElem? hp)
        rw [hL] at hpf
        have hrw : Row w 66 2 (.slice F n c) n (rCells r.waits) := by have := HH.out.row; rw [hn] at this; exact this
        obtain ⟨b, rfl, hob, hat⟩ := rwaits_at hrw (by omega)
        obtain ⟨c1, c2⟩ := hat k _ hp
        have hne : ¬ Own (.slice B L bc) b := fun hk => (HH.out.mw b (by rw [← hn] at hob ⊢; exact hob)).2.2.2 hk
        have hstep := applyW_take r.lasts r.waits k _ hp
        generalize r.waits[k]'(by omega) = p at *
        obtain ⟨lb, rfl⟩ := hrow.head (by omega)
        have HR := Hid.mk (And.intro hch (And.intro hrow hstep))
        go_wp2_with fail
        refine wp_region_tail 21 (by kernel_rfl) (by kernel_rfl) fun W hW => ?_
        simp only [List.take_succ_cons, List.take_zero, List.drop_succ_cons, List.drop_zero]
        have hcW : Chg Nil wr W := by subst hW; exact (Chg.refl Nil wr).drew
        have e1 := hcW.cell hg1' (fun h => h)
        have e2 := hcW.cell hg2' (fun h => h)
        have e3 := hcW.cell (hch.cell c1 hne) (fun h => h)
        have e4 := hcW.cell (hch.cell c2 hne) (fun h => h)
        rw [bv] at e4
        have hrW := hrow.keep hcW (fun _ _ h => h)
        have hal := applyW_len (r.waits.take k) r.lasts
        have hll : r.lasts.length = L := by rw [HH.out.ok.same, hL]
        have hce := hrW.cellAt (j := p.1) hpf
        rw [List.getElem?_map, List.getElem?_eq_getElem (by omega), Option.map_some, bv] at hce
        have hfr := hrW.freeAt (j := p.1) hpf
        have HW := Hid.mk (And.intro hcW hrW)
        generalize ((applyW r.lasts (r.waits.take k))[p.1]'(by omega)).toNat = oldb at hce
        clear hW hcW hg1' hg2' hrW hstep hat c1 c2 hrow hal
        repeat (go_big_quiet_step (fail))
        refine wpQuiet_nil ?_
        go_wp2_with fail
        go_roundw
        case rel =>
          have hset : Chg (Own (.slice (some ⟨lb, 0, none⟩) L bc)) W (W.setCell ⟨lb, p.1, none⟩ (.int .u8 (p.2.toNat : Int))) := (Chg.refl (Own (.slice (some ⟨lb, 0, none⟩) L bc)) W).setCell (p := ⟨lb, p.1, none⟩) (fun _ => rfl) _
          refine ⟨k + 1, by omega, by omega, by go_num, (HR.out.1.trans (HW.out.1.wider (T := Own (.slice (some ⟨lb, 0, none⟩) L bc)) (fun _ _ h => h.elim)) (fun _ _ h => h)).trans hset (fun _ _ h => h), ?_⟩
          have := HW.out.2.stored p.1 (bv p.2)
          rw [set_map_bv, ← HR.out.2.2] at this
          exact this
        case measure => simp [intOf]; omega
      · have dk : decide ((k : Int) < keep) = false := by rw [decide_eq_false_iff_not]; exact hltk
        have hkk' : k = keep.toNat := by omega
        have hX : applyW r.lasts (r.waits.take k) = applyW r.lasts (r.waits.take keep.toNat) := by rw [hkk']
        rw [hX] at hrow
        have hxl : (applyW r.lasts (r.waits.take keep.toNat)).length = L := by rw [applyW_len, HH.out.ok.same, hL]
        have hcrash : r.crash keep = ⟨applyW r.lasts (r.waits.take keep.toNat), applyW r.lasts (r.waits.take keep.toNat), [], -1, false⟩ := rfl
        generalize applyW r.lasts (r.waits.take keep.toNat) = X at *
        have hgM := HH.out.mg
        have h1 := HH.out.lasted (by rw [hL]; exact hrow) hch (by rw [hL]; exact hxl)
        have H1 := Hid.mk (And.intro h1 (hch.wider (T := M) (fun i _ hi => (HH.out.ml i hi).1)))
        clear h1 hch hrow hX
        go_wp2_with fail
        refine wp_region_tail 8 (by kernel_rfl) (by kernel_rfl) fun W hW => ?_
        simp only [List.take_succ_cons, List.take_zero, List.drop_succ_cons, List.drop_zero]
        have hcW : Chg Nil wr W := by subst hW; exact (Chg.refl Nil wr).drew
        have hW1 := H1.out.1.keep hcW (fun _ _ h => h)
        clear hW hg1' hg2'
        obtain ⟨A, ac, rfl, hac, ham⟩ := hW1.now.form
        rw [show ({ r with lasts := X } : Rp).now.length = L from hL] at hac
        have hc0' : W.cell? ⟨g, 0, none⟩ = some (.slice A L ac) := by rw [← hL]; exact hW1.bk.cell 0 rfl
        have hc1' : W.cell? ⟨g, 1, none⟩ = some (.slice B L bc) := hW1.bk.cell 1 rfl
        have HW := Hid.mk (And.intro hW1 (H1.out.2.trans (hcW.wider (T := M) (fun _ _ h => h.elim)) (fun _ _ h => h)))
        clear hW1 hcW
        repeat (go_big_quiet_step (fail))
        refine wpQuiet_nil ?_
        have hrn : Row W 5 1 (.slice A L ac) L (r.now.map bv) := by
          have := HW.out.1.now
          rw [show ({ r with lasts := X } : Rp).now.length = L from hL] at this
          exact this
        have hrl : Row W 5 1 (.slice B L bc) L (X.map bv) := by
          have := HW.out.1.lasts
          rw [show ({ r with lasts := X } : Rp).now.length = L from hL] at this
          exact this
        refine wpl_copy rfl (.tmp 43) (.tmp 47) 22 22 rfl 5 5 Try.underlying22 Try.sizeU8 A L ac 0 ac _ hrn A (fun g hg _ => hg) (by omega) _ B L bc _ hrl.rd (bv_one _) rfl rfl ?_
        intro w2 hr2 hc2
        rw [Nat.sub_zero, Nat.min_self, List.take_of_length_le (by rw [List.length_map, hxl]; exact Nat.le_refl _), splice_map, splice_all _ _ (by rw [hL, hxl])] at hr2
        have hnl : Value.slice A ({ r with lasts := X } : Rp).now.length ac = .slice A L ac := by rw [show ({ r with lasts := X } : Rp).now.length = L from hL]
        have hW' := HW.out.1
        rw [hnl] at hW'
        have h2 := hW'.nowed (x := X) (by rw [show ({ r with lasts := X } : Rp).now.length = L from hL]; exact hr2) hc2 (by rw [hxl]; exact hL.symm)
        have hM2 := HW.out.2.trans hc2 (fun i _ hi => (hW'.mn i hi).1)
        obtain ⟨hch3, h3⟩ := h2.waitless
        obtain ⟨hch4, h4⟩ := h3.set34 (-1) false (by omega) (by omega)
        have hf2 := h2.bk.free 2
        have hf3 := h2.bk.free 3
        have hf4 := h2.bk.free 4
        have hd2 : w2.cell? ⟨g, 2, none⟩ = some (.slice F n c) := h2.bk.cell 2 rfl
        have hd3 : w2.cell? ⟨g, 3, none⟩ = some (.int .i64 r.left) := h2.bk.cell 3 rfl
        have hd4 : w2.cell? ⟨g, 4, none⟩ = some (.bool r.dead) := h2.bk.cell 4 rfl
        have H3 := Hid.mk (And.intro ((hM2.trans hch3 (fun i _ hi => hi ▸ hgM)).trans hch4 (fun i _ hi => hi ▸ hgM)) h4)
        clear hch3 h3 hch4 h4 h2 hM2 hW' hr2 hc2 hrn hrl
        go_wp2
        go_end0
        refine ⟨⟨_, rfl⟩, H3.out.1, ?_⟩
        first
          | exact ⟨_, _, _, H3.out.2⟩
          | (rw [hcrash]; exact ⟨_, _, _, H3.out.2⟩)
    · have hkn : k = n := by omega
      have hX : applyW r.lasts (r.waits.take k) = applyW r.lasts (r.waits.take keep.toNat) := by rw [List.take_of_length_le (by omega), List.take_of_length_le (by omega)]
      rw [hX] at hrow
      have hxl : (applyW r.lasts (r.waits.take keep.toNat)).length = L := by rw [applyW_len, HH.out.ok.same, hL]
      have hcrash : r.crash keep = ⟨applyW r.lasts (r.waits.take keep.toNat), applyW r.lasts (r.waits.take keep.toNat), [], -1, false⟩ := rfl
      generalize applyW r.lasts (r.waits.take keep.toNat) = X at *
      have hgM := HH.out.mg
      have h1 := HH.out.lasted (by rw [hL]; exact hrow) hch (by rw [hL]; exact hxl)
      have H1 := Hid.mk (And.intro h1 (hch.wider (T := M) (fun i _ hi => (HH.out.ml i hi).1)))
      clear h1 hch hrow hX
      go_wp2_with fail
      refine wp_region_tail 8 (by kernel_rfl) (by kernel_rfl) fun W hW => ?_
      simp only [List.take_succ_cons, List.take_zero, List.drop_succ_cons, List.drop_zero]
      have hcW : Chg Nil wr W := by subst hW; exact (Chg.refl Nil wr).drew
      have hW1 := H1.out.1.keep hcW (fun _ _ h => h)
      clear hW hg1' hg2'
      obtain ⟨A, ac, rfl, hac, ham⟩ := hW1.now.form
      rw [show ({ r with lasts := X } : Rp).now.length = L from hL] at hac
      have hc0' : W.cell? ⟨g, 0, none⟩ = some (.slice A L ac) := by rw [← hL]; exact hW1.bk.cell 0 rfl
      have hc1' : W.cell? ⟨g, 1, none⟩ = some (.slice B L bc) := hW1.bk.cell 1 rfl
      have HW := Hid.mk (And.intro hW1 (H1.out.2.trans (hcW.wider (T := M) (fun _ _ h => h.elim)) (fun _ _ h => h)))
      clear hW1 hcW
      repeat (go_big_quiet_step (fail))
      refine wpQuiet_nil ?_
      have hrn : Row W 5 1 (.slice A L ac) L (r.now.map bv) := by
        have := HW.out.1.now
        rw [show ({ r with lasts := X } : Rp).now.length = L from hL] at this
        exact this
      have hrl : Row W 5 1 (.slice B L bc) L (X.map bv) := by
        have := HW.out.1.lasts
        rw [show ({ r with lasts := X } : Rp).now.length = L from hL] at this
        exact this
      refine wpl_copy rfl (.tmp 43) (.tmp 47) 22 22 rfl 5 5 Try.underlying22 Try.sizeU8 A L ac 0 ac _ hrn A (fun g hg _ => hg) (by omega) _ B L bc _ hrl.rd (bv_one _) rfl rfl ?_
      intro w2 hr2 hc2
      rw [Nat.sub_zero, Nat.min_self, List.take_of_length_le (by rw [List.length_map, hxl]; exact Nat.le_refl _), splice_map, splice_all _ _ (by rw [hL, hxl])] at hr2
      have hnl : Value.slice A ({ r with lasts := X } : Rp).now.length ac = .slice A L ac := by rw [show ({ r with lasts := X } : Rp).now.length = L from hL]
      have hW' := HW.out.1
      rw [hnl] at hW'
      have h2 := hW'.nowed (x := X) (by rw [show ({ r with lasts := X } : Rp).now.length = L from hL]; exact hr2) hc2 (by rw [hxl]; exact hL.symm)
      have hM2 := HW.out.2.trans hc2 (fun i _ hi => (hW'.mn i hi).1)
      obtain ⟨hch3, h3⟩ := h2.waitless
      obtain ⟨hch4, h4⟩ := h3.set34 (-1) false (by omega) (by omega)
      have hf2 := h2.bk.free 2
      have hf3 := h2.bk.free 3
      have hf4 := h2.bk.free 4
      have hd2 : w2.cell? ⟨g, 2, none⟩ = some (.slice F n c) := h2.bk.cell 2 rfl
      have hd3 : w2.cell? ⟨g, 3, none⟩ = some (.int .i64 r.left) := h2.bk.cell 3 rfl
      have hd4 : w2.cell? ⟨g, 4, none⟩ = some (.bool r.dead) := h2.bk.cell 4 rfl
      have H3 := Hid.mk (And.intro ((hM2.trans hch3 (fun i _ hi => hi ▸ hgM)).trans hch4 (fun i _ hi => hi ▸ hgM)) h4)
      clear hch3 h3 hch4 h4 h2 hM2 hW' hr2 hc2 hrn hrl
      go_wp2
      go_end0
      refine ⟨⟨_, rfl⟩, H3.out.1, ?_⟩
      first
        | exact ⟨_, _, _, H3.out.2⟩
        | (rw [hcrash]; exact ⟨_, _, _, H3.out.2⟩)

/-! ### both are the same -/
def flat : List (Nat × List UInt8) → List (Nat × UInt8)
  | [] => []
  | p :: r => bytesAt p.1 p.2 ++ flat r
theorem flat_app (a b : List (Nat × List UInt8)) : flat (a ++ b) = flat a ++ flat b := by
  induction a with
  | nil => rfl
  | cons p r ih => simp only [List.cons_append, flat, ih, List.append_assoc]
theorem flat_len (a : List (Nat × List UInt8)) : (flat a).length = sumW a := by
  induction a with
  | nil => rfl
  | cons p r ih => simp only [flat, List.length_append, bytesAt_len, ih, sumW]
theorem bytesAt_take (b : List UInt8) : ∀ (p k : Nat), (bytesAt p b).take k = bytesAt p (b.take k) := by
  induction b with
  | nil => intro p k; simp [bytesAt]
  | cons x r ih =>
    intro p k
    cases k with
    | zero => rfl
    | succ k => simp only [bytesAt, List.take_succ_cons, ih]
theorem applyW_bytes (b : List UInt8) : ∀ (l : List UInt8) (p : Nat), p + b.length ≤ l.length → applyW l (bytesAt p b) = splice l p b := by
  induction b with
  | nil => intro l p _; simp [bytesAt, applyW, splice_nil]
  | cons x r ih =>
    intro l p h
    simp only [List.length_cons] at h
    simp only [bytesAt, applyW]
    rw [ih _ _ (by rw [List.length_set]; omega), ← splice_one _ _ _ (by omega), splice_cons _ _ _ _ (by omega)]
theorem crash_flat (ws : List (Nat × List UInt8)) (n : Nat) (hw : ∀ p ∈ ws, p.1 + p.2.length ≤ n) : ∀ (l : List UInt8) (k : Nat), l.length = n → crashB l k ws = applyW l ((flat ws).take k) := by
  induction ws with
  | nil => intro l k _; simp [crashB, flat, applyW]
  | cons p r ih =>
    intro l k hl
    have hp := hw p (by simp)
    have hb : applyW l ((bytesAt p.1 p.2).take k) = splice l p.1 (p.2.take (min k p.2.length)) := by
      rw [bytesAt_take, applyW_bytes _ _ _ (by rw [List.length_take]; omega)]
      congr 1
      rcases Nat.le_total k p.2.length with h | h
      · rw [Nat.min_eq_left h]
      · rw [Nat.min_eq_right h, List.take_length, List.take_of_length_le h]
    simp only [crashB, flat]
    rw [List.take_append, bytesAt_len, applyW_app, hb, ih (fun q hq => hw q (by simp [hq])) _ _ (by rw [splice_len _ _ _ (by rw [List.length_take]; omega)]; exact hl)]
    congr 2
    omega
structure Same (d : Dp) (r : Rp) : Prop where
  now : r.now = d.now
  lasts : r.lasts = d.lasts
  waits : r.waits = flat d.waits
  dead : r.dead = d.dead
  stop : d.stop = r.left.toNat
theorem same_out {d : Dp} {r : Rp} (h : Same d r) (p n : Int) : r.out p n = !(d.fits p n) := by
  unfold Rp.out Dp.fits
  rw [h.now]
  by_cases h1 : p < 0 <;> by_cases h2 : n < 0 <;> by_cases h3 : p > d.now.length <;> by_cases h4 : n > (d.now.length : Int) - p <;> simp [h1, h2, h3, h4] <;> omega
theorem same_opE {d : Dp} {r : Rp} (h : Same d r) (p n : Int) : r.opE p n = d.opE p n := by
  unfold Rp.opE Dp.opE
  rw [same_out h, h.dead]
  cases d.fits p n <;> simp
theorem same_count {d : Dp} {r : Rp} (h : Same d r) : Same d.called r.count := by
  have hs := h.stop
  unfold Dp.called Rp.count
  by_cases h0 : 0 < r.left
  · rw [if_pos h0, if_pos (by omega)]
    refine ⟨h.now, h.lasts, h.waits, ?_, ?_⟩
    · show decide (r.left - 1 = 0) = decide (d.stop - 1 = 0)
      rw [decide_eq_decide]
      omega
    · show d.stop - 1 = (r.left - 1).toNat
      omega
  · rw [if_neg h0, if_neg (by omega)]
    exact h
theorem same_write {d : Dp} {r : Rp} (h : Same d r) (p : Int) (ys : List UInt8) : Same (d.writeA p ys) (r.write p ys) := by
  unfold Dp.writeA Rp.write
  rw [same_opE h]
  split
  · have hc := same_count h
    have hb : Same { d with now := splice d.now p.toNat ys, waits := d.waits ++ [(p.toNat, ys)] } (r.bits p.toNat ys) :=
      ⟨by show splice r.now _ _ = _; rw [h.now], h.lasts, by show r.waits ++ _ = _; rw [h.waits, flat_app]; simp [flat], h.dead, h.stop⟩
    have hq := same_count hb
    have he : d.write p.toNat ys = ({ d with now := splice d.now p.toNat ys, waits := d.waits ++ [(p.toNat, ys)] } : Dp).called := by
      unfold Dp.write Dp.called
      by_cases h0 : 0 < d.stop
      · simp only [if_pos h0]
      · simp only [if_neg h0]
    rw [he]
    exact hq
  · exact h
theorem same_sync {d : Dp} {r : Rp} (h : Same d r) : Same d.syncA r.sync := by
  by_cases hdd : d.dead = true
  · rw [Dp.syncA, Rp.sync, if_pos hdd, if_pos (h.dead.trans hdd)]
    exact h
  · rw [Dp.syncA, Rp.sync, if_neg hdd, if_neg (by rw [h.dead]; exact hdd)]
    have hb : Same { d with lasts := d.now, waits := [] } { r with lasts := r.now, waits := [] } := ⟨h.now, h.now, rfl, h.dead, h.stop⟩
    have hq := same_count hb
    have he : d.sync = ({ d with lasts := d.now, waits := [] } : Dp).called := by
      unfold Dp.sync Dp.called
      by_cases h0 : 0 < d.stop
      · simp only [if_pos h0]
      · simp only [if_neg h0]
    rw [he]
    exact hq
theorem same_stop {d : Dp} {r : Rp} (h : Same d r) (n : Int) : Same { d with stop := n.toNat, dead := d.dead || n == 0 } { r with left := max n (-1), dead := r.dead || n == 0 } :=
  ⟨h.now, h.lasts, h.waits, by show (r.dead || _) = _; rw [h.dead], by show n.toNat = (max n (-1)).toNat; omega⟩
theorem same_crash {d : Dp} {r : Rp} (h : Same d r) (hok : d.ok) (k : Int) : Same (d.crash k) (r.crash k) := by
  have he : applyW r.lasts (r.waits.take k.toNat) = crashB d.lasts k.toNat d.waits := by
    rw [h.lasts, h.waits, ← crash_flat _ _ hok.fits _ _ hok.same]
  exact ⟨he, he, rfl, rfl, rfl⟩
theorem same_new (n : Int) : Same (Dp.new n) (Rp.new n) := ⟨rfl, rfl, rfl, rfl, rfl⟩
end Go.Proofs.Ytbaaoldcecefcaa
