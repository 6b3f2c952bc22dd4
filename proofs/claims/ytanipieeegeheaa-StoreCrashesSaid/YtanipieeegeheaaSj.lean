/- Joined for this seat from: XSlF. -/
import Derived.Test.YtanipieeegeheaaSi
namespace Go.Proofs.Ytanipieeegeheaa
open Go.RowKit

theorem neq_pt (a b c d a' b' c' d' : Int) (h : (⟨a, b, c, d⟩ : Pt) ≠ ⟨a', b', c', d'⟩) (W : World) : (binOp .neq 30 (.agg #[.int .i64 a, .int .i64 b, .int .i64 c, .int .i64 d]) (.agg #[.int .i64 a', .int .i64 b', .int .i64 c', .int .i64 d'])).run Try.prog W = .ok (.bool true) W := by
  go_simp
  rintro rfl rfl rfl rfl
  exact h rfl
theorem same_step {l1 l2 : List Pt} {k : Nat} {o : Pt} (ht : l1.take k = l2.take k) (h1 : l1[k]? = some o) (h2 : l2[k]? = some o) : l1.take (k + 1) = l2.take (k + 1) := by
  rw [List.take_add_one, List.take_add_one, ht, h1, h2]
set_option maxHeartbeats 1000000 in
set_option maxRecDepth 100000 in
theorem samePts_gen (A1 A2 : Option Addr) (n1 n2 c1 c2 : Nat) (l1 l2 : List Pt) (S1 S2 : Nat → Prop) (w : World) (h1 : RdP w S1 A1 n1 l1) (h2 : RdP w S2 A2 n2 l2) (hn1 : n1 ≤ 9223372036854775807) (hn2 : n2 ≤ 9223372036854775807) (hne : l1 ≠ l2) :
    Calls Try.prog 21 #[.slice A1 n1 c1, .slice A2 n2 c2] w fun e w' => e = .returned (.bool false) ∧ Chg Nil w w' := by
  have hl1 := h1.len
  have hl2 := h2.len
  by_cases hlen : n1 = n2
  rotate_left
  · have hd : ((n1 : Int) != n2) = true := by rw [bne_iff_ne]; omega
    clear h1 h2 hne
    go_enter Try.func21, Try.ntmps21
    go_wp2_with fail
    go_ret
    exact ⟨rfl, Chg.refl _ _⟩
  subst hlen
  have HR := Hid.mk (And.intro h1 (And.intro h2 hne))
  clear h1 h2 hne
  go_enter Try.func21, Try.ntmps21
  go_wp2_with fail
  go_loopw [5] (fun i wr => ∃ k : Nat, k ≤ n1 ∧ i = .int .i64 (k : Int) ∧ Chg Nil w wr ∧ l1.take k = l2.take k) (fun i _ => n1 - (intOf i).toNat)
  case atStart => exact ⟨0, Nat.zero_le _, rfl, Chg.refl _ _, rfl⟩
  case round =>
    obtain ⟨k, hk, rfl, hch, htk⟩ := hrel
    by_cases hlt : k < n1
    · obtain ⟨b, off, rfl, _, hat⟩ := HR.out.1.at4 (by omega)
      obtain ⟨b', off', rfl, _, hat'⟩ := HR.out.2.1.at4 (by omega)
      have ho : l1[k]? = some (l1[k]'(by omega)) := List.getElem?_eq_getElem (by omega)
      generalize l1[k]'(by omega) = o at ho
      have ho' : l2[k]? = some (l2[k]'(by omega)) := List.getElem?_eq_getElem (by omega)
      generalize l2[k]'(by omega) = o' at ho'
      by_cases hoo : o = o'
      · subst hoo
        obtain ⟨ky, x, y, v⟩ := o
        have x0 := fun nq => (hat (wr.drewN nq) (hch.drewN nq) k ky x y v ho).1
        have x1 := fun nq => (hat (wr.drewN nq) (hch.drewN nq) k ky x y v ho).2.1
        have x2 := fun nq => (hat (wr.drewN nq) (hch.drewN nq) k ky x y v ho).2.2.1
        have x3 := fun nq => (hat (wr.drewN nq) (hch.drewN nq) k ky x y v ho).2.2.2
        have y0 := fun nq => (hat' (wr.drewN nq) (hch.drewN nq) k ky x y v ho').1
        have y1 := fun nq => (hat' (wr.drewN nq) (hch.drewN nq) k ky x y v ho').2.1
        have y2 := fun nq => (hat' (wr.drewN nq) (hch.drewN nq) k ky x y v ho').2.2.1
        have y3 := fun nq => (hat' (wr.drewN nq) (hch.drewN nq) k ky x y v ho').2.2.2
        have HK := Hid.mk (And.intro hch (same_step htk ho ho'))
        clear hch hat hat' ho htk ho'
        go_wp2_with fail
        go_quiet (fail)
        go_wp2_with fail
        go_roundw
        case rel => exact ⟨k + 1, by omega, by go_num, HK.out.1.drewN _, HK.out.2⟩
        case measure => simp [intOf]; omega
      · obtain ⟨ky, x, y, v⟩ := o
        obtain ⟨ky', x', y', v'⟩ := o'
        have hq := neq_pt ky x y v ky' x' y' v' hoo
        have x0 := fun nq => (hat (wr.drewN nq) (hch.drewN nq) k ky x y v ho).1
        have x1 := fun nq => (hat (wr.drewN nq) (hch.drewN nq) k ky x y v ho).2.1
        have x2 := fun nq => (hat (wr.drewN nq) (hch.drewN nq) k ky x y v ho).2.2.1
        have x3 := fun nq => (hat (wr.drewN nq) (hch.drewN nq) k ky x y v ho).2.2.2
        have y0 := fun nq => (hat' (wr.drewN nq) (hch.drewN nq) k ky' x' y' v' ho').1
        have y1 := fun nq => (hat' (wr.drewN nq) (hch.drewN nq) k ky' x' y' v' ho').2.1
        have y2 := fun nq => (hat' (wr.drewN nq) (hch.drewN nq) k ky' x' y' v' ho').2.2.1
        have y3 := fun nq => (hat' (wr.drewN nq) (hch.drewN nq) k ky' x' y' v' ho').2.2.2
        have HK := Hid.mk hch
        clear hch hat hat' ho htk ho' hoo
        go_wp2_with fail
        go_quiet (fail)
        go_wp2_with fail
        go_ret
        exact ⟨rfl, HK.out.drewN _⟩
    · have hkn : k = n1 := by omega
      subst hkn
      exact absurd (by rw [List.take_of_length_le (by omega), List.take_of_length_le (by omega)] at htk; exact htk) HR.out.2.2

/-- A proposition as a Bool. -/
noncomputable def eqB (p : Prop) : Bool := @decide p (Classical.propDecidable p)
theorem eqB_true {p : Prop} (h : p) : eqB p = true := by unfold eqB; exact @decide_eq_true p (Classical.propDecidable p) h
theorem eqB_false {p : Prop} (h : ¬ p) : eqB p = false := by unfold eqB; exact @decide_eq_false p (Classical.propDecidable p) h
theorem samePts_eqB (A1 A2 : Option Addr) (n1 n2 c1 c2 : Nat) (l1 l2 : List Pt) (S1 S2 : Nat → Prop) (w : World) (h1 : RdP w S1 A1 n1 l1) (h2 : RdP w S2 A2 n2 l2) (hn1 : n1 ≤ 9223372036854775807) (hn2 : n2 ≤ 9223372036854775807) :
    Calls Try.prog 21 #[.slice A1 n1 c1, .slice A2 n2 c2] w fun e w' => e = .returned (.bool (eqB (l1 = l2))) ∧ Chg Nil w w' := by
  by_cases h : l1 = l2
  · rw [eqB_true h]
    subst h
    obtain rfl : n1 = n2 := by rw [← h1.len, ← h2.len]
    exact samePts_any A1 A2 n1 c1 c2 l1 S1 S2 w h1 h2 hn1
  · rw [eqB_false h]
    exact samePts_gen A1 A2 n1 n2 c1 c2 l1 l2 S1 S2 w h1 h2 hn1 hn2 h
set_option maxHeartbeats 1000000 in
set_option maxRecDepth 100000 in
theorem snapOk_any (gen u : Nat) (A : Option Addr) (n c : Nat) (l : List Pt) (S : Nat → Prop) (w : World) (hr : RdP w S A n l) (hn : n ≤ 9223372036854775807) :
    Calls Try.prog 87 #[.agg #[.int .u64 (gen : Int), .int .u64 (u : Int), .slice A n c]] w fun e w' => e = .returned (.bool (Sn.ok ⟨gen, u, l⟩)) ∧ Chg Nil w w' := by
  have hA : ∀ o1, Chg Nil w (w.alloc o1) := fun o1 => (Chg.refl _ _).alloc _
  have hM := fun o1 => pointsMay_any A n c l S _ (Rds.keep hr (hA o1) (fun _ _ h => h)) hn
  have HM := Hid.mk (And.intro hM hA)
  clear hM hr hA
  by_cases h1 : 1 ≤ gen
  · have d1 : decide (1 ≤ gen) = true := decide_eq_true h1
    have d1' : decide ((gen : Int) ≥ 1) = true := decide_eq_true (by omega)
    by_cases h2 : gen ≤ 4611686018427387904
    · have d2 : decide (gen ≤ 4611686018427387904) = true := decide_eq_true h2
      have d2' : decide ((gen : Int) ≤ 4611686018427387904) = true := decide_eq_true (by omega)
      by_cases h3 : u ≤ 4611686018427387904
      · have d3 : decide (u ≤ 4611686018427387904) = true := decide_eq_true h3
        have d3' : decide ((u : Int) ≤ 4611686018427387904) = true := decide_eq_true (by omega)
        have he : Sn.ok ⟨gen, u, l⟩ = (((mayP l : Nat) : Int) == 0) := by
          rw [Bool.eq_iff_iff, Sn.ok_iff, beq_iff_eq]
          constructor
          · intro h; have := h.2.2.2; simp only at this; omega
          · intro h; exact ⟨h1, h2, h3, by simp only; omega⟩
        rw [he]
        generalize mayP l = M at *
        clear he d1 d2 d3
        go_enter Try.func87, Try.ntmps87
        go_wp2_with fail
        refine (HM.out.1 _).mono ?_
        rintro e w1 ⟨rfl, c1⟩
        have H1 := Hid.mk ((HM.out.2 _).trans c1 (fun _ _ h => h))
        clear c1
        go_wp2_with fail
        go_ret
        exact ⟨rfl, H1.out⟩
      · have d3' : decide ((u : Int) ≤ 4611686018427387904) = false := decide_eq_false (by omega)
        have he : Sn.ok ⟨gen, u, l⟩ = false := by
          cases hc : Sn.ok ⟨gen, u, l⟩ with
          | false => rfl
          | true => exact absurd ((Sn.ok_iff _).1 hc).2.2.1 h3
        rw [he]
        clear he d1 d2
        go_enter Try.func87, Try.ntmps87
        go_wp2_with fail
        go_ret
        exact ⟨rfl, HM.out.2 _⟩
    · have d2' : decide ((gen : Int) ≤ 4611686018427387904) = false := decide_eq_false (by omega)
      have he : Sn.ok ⟨gen, u, l⟩ = false := by
        cases hc : Sn.ok ⟨gen, u, l⟩ with
        | false => rfl
        | true => exact absurd ((Sn.ok_iff _).1 hc).2.1 h2
      rw [he]
      clear he d1
      go_enter Try.func87, Try.ntmps87
      go_wp2_with fail
      go_ret
      exact ⟨rfl, HM.out.2 _⟩
  · have d1' : decide ((gen : Int) ≥ 1) = false := decide_eq_false (by omega)
    have he : Sn.ok ⟨gen, u, l⟩ = false := by
      cases hc : Sn.ok ⟨gen, u, l⟩ with
      | false => rfl
      | true => exact absurd ((Sn.ok_iff _).1 hc).1 h1
    rw [he]
    clear he
    go_enter Try.func87, Try.ntmps87
    go_wp2_with fail
    go_ret
    exact ⟨rfl, HM.out.2 _⟩
theorem u64_and_65535 (n : Nat) : bits .and .u64 (n : Int) 65535 = ((n % 65536 : Nat) : Int) := by
  have h : (BitVec.ofInt 64 65535).toNat = 2 ^ 16 - 1 := by decide
  have key : (BitVec.ofInt 64 (n : Int) &&& BitVec.ofInt 64 65535).toNat = n % 2 ^ 16 := by
    rw [BitVec.toNat_and, BitVec.toNat_ofInt, h, Nat.and_two_pow_sub_one_eq_mod]
    omega
  show IntKind.u64.wrap ((BitVec.ofInt 64 (n : Int) &&& BitVec.ofInt 64 65535).toNat : Nat) = _
  rw [key, IntKind.wrap_u64]
  omega

/-- What Snap of the statements makes. -/
def snapP (gen u : Nat) (l : List Oq) : Sn := ⟨gen % 65536 + 1, u % 65536, doP [] (goodL (l.take 30))⟩
/-- No death is set. -/
structure Dp.free (d : Dp) : Prop where
  dead : d.dead = false
  stop : d.stop = 0
theorem Dp.free_new (n : Int) : (Dp.new n).free := ⟨rfl, rfl⟩
theorem Dp.free_crash (d : Dp) (k : Int) : (d.crash k).free := ⟨rfl, rfl⟩
theorem Dp.called_free {d : Dp} (h : d.free) : d.called = d := by unfold Dp.called; rw [h.stop, if_neg (by omega)]
theorem Dp.free_write {d : Dp} (h : d.free) (p : Nat) (ys : List UInt8) : (d.write p ys).free := by
  unfold Dp.write; rw [Dp.called_free h]; exact ⟨h.dead, h.stop⟩
theorem Dp.free_sync {d : Dp} (h : d.free) : d.sync.free := by
  unfold Dp.sync; rw [Dp.called_free h]; exact ⟨h.dead, h.stop⟩
theorem step_free {d : Dp} (h : d.free) (p : Nat) (ys : List UInt8) : (stepW d p ys).2 = 0 ∧ (stepW d p ys).1.free := by
  rw [stepW_go h.dead (Dp.free_write h p ys).dead]
  exact ⟨rfl, Dp.free_sync (Dp.free_write h p ys)⟩
theorem slot_free {d : Dp} (h : d.free) (p : Nat) (b : List UInt8) : (slotW d p b).2 = 0 ∧ (slotW d p b).1.free := by
  obtain ⟨a1, a2⟩ := step_free h p [0]
  obtain ⟨b1, b2⟩ := step_free a2 (p + 1) b
  unfold slotW
  rw [if_neg (by rw [a1]; decide), if_neg (by rw [b1]; decide)]
  exact step_free b2 p [197]
theorem slot_free_all {d : Dp} (hc : d.clean) (h : d.free) (p : Nat) (b : List UInt8) (hl : p + 1 + b.length ≤ d.now.length) :
    (slotW d p b).2 = 0 ∧ (slotW d p b).1.free ∧ (slotW d p b).1.clean ∧ (slotW d p b).1.now = splice d.now p (197 :: b) := by
  obtain ⟨a1, a2⟩ := slot_free h p b
  rcases slot_cases hc p b hl with ⟨_, c, n, _⟩ | ⟨e, _⟩
  · exact ⟨a1, a2, c, n⟩
  · rw [a1] at e; cases e
theorem new_len {n : Nat} (h : n ≤ 1000000) : (Dp.new n).now.length = n := by
  show (List.replicate (newN n) (0 : UInt8)).length = n
  rw [List.length_replicate]
  unfold newN
  omega
theorem new_get {n j : Nat} (h : n ≤ 1000000) (hj : j < n) : (Dp.new n).now[j]? = some 0 := by
  have hl := new_len h
  have : (Dp.new n).now = List.replicate (newN n) 0 := rfl
  rw [this] at hl ⊢
  rw [List.length_replicate] at hl
  rw [List.getElem?_replicate, if_pos (by omega)]
theorem new_none {n p k : Nat} (h : n ≤ 1000000) (hp : p < n) (hk : 0 < k) : readS (winS (Dp.new n).now p k) = none := by
  apply readS_zero
  rw [winS_get, if_pos hk]
  exact new_get h (by omega)
theorem chg_sub {M : Nat → Prop} {w0 w w' : World} (h : Chg Nil w0 w) (hc : Chg M w w') (hm : ∀ k, M k → w0.heap.size ≤ k) : Chg Nil w0 w' := h.trans hc (fun i hi hM => absurd (hm i hM) (by omega))
theorem rdp_nilB (w : World) (B : Nat) : RdP w (fun k => B ≤ k) none 0 [] := rdp_nil w _
end Go.Proofs.Ytanipieeegeheaa
