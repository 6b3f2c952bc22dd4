/- Joined for this seat from: XPF. -/
import Derived.Test.YtkemmffdiclloaaGreatDoorAx
set_option linter.unusedVariables false
set_option linter.unusedSimpArgs false
namespace Go.Proofs.YtkemmffdiclloaaGreatDoor
def NearC (c x y : Int) (z : Int × Int) (m : Nat) : Prop :=
  -(c * errN m) ≤ 2340 * (mulZ (betaN m) z).1 - (axial x y).1 ∧ 2340 * (mulZ (betaN m) z).1 - (axial x y).1 ≤ c * errN m ∧
  -(c * errN m) ≤ 2340 * (mulZ (betaN m) z).2 - (axial x y).2 ∧ 2340 * (mulZ (betaN m) z).2 - (axial x y).2 ≤ c * errN m
theorem nearc_of (x y : Int) (z : Int × Int) (m : Nat) (h : NearBy x y z m) : NearC 2 x y z m := by
  unfold NearBy at h
  unfold NearC
  have : 0 ≤ errN m := by unfold errN; split <;> decide
  omega
theorem nearc_wide (x y : Int) (z : Int × Int) (m : Nat) (h : NearC 2 x y z m) : NearC 4 x y z m := by
  unfold NearC at *
  have : 0 ≤ errN m := by unfold errN; split <;> decide
  omega
theorem nearc_up (x y : Int) (z : Int × Int) (m : Nat) (hm : m < 12) (h : NearC 2 x y z m) : NearC 2 x y (upZ z) (m + 1) := by
  have hl := left_ok z
  unfold leftZ at hl
  generalize upZ z = q at *
  unfold Hex7 at hl
  simp only [Prod.mk.injEq, mulZ] at hl
  unfold NearC at *
  have h12 : m = 0 ∨ m = 1 ∨ m = 2 ∨ m = 3 ∨ m = 4 ∨ m = 5 ∨ m = 6 ∨ m = 7 ∨ m = 8 ∨ m = 9 ∨ m = 10 ∨ m = 11 := by omega
  rcases h12 with rfl | rfl | rfl | rfl | rfl | rfl | rfl | rfl | rfl | rfl | rfl | rfl
  all_goals
    simp only [mulZ, axial, betaN, errN] at h ⊢
    rcases hl with hl | hl | hl | hl | hl | hl | hl
    all_goals
      refine ⟨?_, ?_, ?_, ?_⟩ <;> omega
theorem nearc_upI (x y : Int) (z : Int × Int) (m n : Nat) (hm : m + n ≤ 12) (h : NearC 2 x y z m) : NearC 2 x y (upI n z) (m + n) := by
  induction n with
  | zero => exact h
  | succ n ih => exact nearc_up x y (upI n z) (m + n) (by omega) (ih (by omega))
theorem nearc_base (x y : Int) (z : Int × Int) (R : Nat) (hR : R ≤ 12) (hw : World_ x y) (h : NearC 2 x y z (12 - R)) : Based z R := by
  have h1 := nearc_upI x y z (12 - R) R (by omega) h
  rw [show 12 - R + R = 12 by omega] at h1
  unfold NearC at h1
  unfold Based
  unfold World_ at hw
  generalize upI R z = q at *
  simp only [mulZ, axial, betaN, errN] at h1
  omega
theorem nearc_small (x y : Int) (z : Int × Int) (m : Nat) (hm : m ≤ 12) (hw : World_ x y) (h : NearC 4 x y z m) : -134217728 ≤ z.1 ∧ z.1 ≤ 134217728 ∧ -134217728 ≤ z.2 ∧ z.2 ≤ 134217728 := by
  unfold NearC at h
  unfold World_ at hw
  rcases thirteen hm with rfl | rfl | rfl | rfl | rfl | rfl | rfl | rfl | rfl | rfl | rfl | rfl | rfl
  all_goals
    simp only [mulZ, axial, betaN, errN] at h
    omega
theorem nearc_nb (x y : Int) (z : Int × Int) (m j : Nat) (hm : m ≤ 12) (hj : j < 6) (h : NearC 2 x y z m) : NearC 4 x y (nb z j) m := by
  unfold NearC at *
  unfold nb
  rcases thirteen hm with rfl | rfl | rfl | rfl | rfl | rfl | rfl | rfl | rfl | rfl | rfl | rfl | rfl
  all_goals
    simp only [mulZ, axial, betaN, errN] at h ⊢
    rcases six hj with rfl | rfl | rfl | rfl | rfl | rfl
    all_goals
      simp only [undig]
      refine ⟨?_, ?_, ?_, ?_⟩ <;> omega
/-- What touches a box is near one of its points. -/
theorem touch_near (l0 l1 h0 h1 : Int) (z : Int × Int) (k : Nat) (hk : k ≤ 12) (hb0 : l0 ≤ h0) (hb1 : l1 ≤ h1) (ht : touchP (3 * l0, 3 * l1) (3 * h0, 3 * h1) (hexL z k) = true) :
    ∃ x y, l0 ≤ x ∧ x ≤ h0 ∧ l1 ≤ y ∧ y ≤ h1 ∧ NearC 2 x y z k := by
  unfold touchP at ht
  rw [Bool.and_eq_true] at ht
  have hb := ht.1
  clear ht
  simp only [besideP, Bool.not_eq_true', Bool.or_eq_false_iff, decide_eq_false_iff_not] at hb
  obtain ⟨p1, m1, b1⟩ := high_ex (f := (·.1)) (l := hexL z k) (m := 3 * l0) (Nat.zero_lt_succ _) (by omega)
  obtain ⟨p2, m2, b2⟩ := low_ex (f := (·.1)) (l := hexL z k) (m := 3 * h0) (Nat.zero_lt_succ _) (by omega)
  obtain ⟨p3, m3, b3⟩ := high_ex (f := (·.2)) (l := hexL z k) (m := 3 * l1) (Nat.zero_lt_succ _) (by omega)
  obtain ⟨p4, m4, b4⟩ := low_ex (f := (·.2)) (l := hexL z k) (m := 3 * h1) (Nat.zero_lt_succ _) (by omega)
  have r1 := (hex_rad z k hk p1 m1).2.1
  have r2 := (hex_rad z k hk p2 m2).1
  have r3 := (hex_rad z k hk p3 m3).2.2.2
  have r4 := (hex_rad z k hk p4 m4).2.2.1
  clear hb m1 m2 m3 m4
  have s1 : 3 * l0 - radX k ≤ 3 * (spotZ (mulZ (betaN k) z)).1 := by omega
  have s2 : 3 * (spotZ (mulZ (betaN k) z)).1 ≤ 3 * h0 + radX k := by omega
  have s3 : 3 * l1 - radY k ≤ 3 * (spotZ (mulZ (betaN k) z)).2 := by omega
  have s4 : 3 * (spotZ (mulZ (betaN k) z)).2 ≤ 3 * h1 + radY k := by omega
  clear b1 b2 b3 b4 r1 r2 r3 r4
  unfold NearC
  generalize mulZ (betaN k) z = E at *
  obtain ⟨e1, e2⟩ := E
  simp only [spotZ, axial] at *
  obtain ⟨x, hx0, hx1, hx2, hx3⟩ : ∃ x, l0 ≤ x ∧ x ≤ h0 ∧ 3 * x - 3 * (52 * e1 + 26 * e2) ≤ radX k ∧ 3 * (52 * e1 + 26 * e2) - 3 * x ≤ radX k := by
    have hp : 0 ≤ radX k := by unfold radX; split <;> decide
    rcases Int.lt_or_le (52 * e1 + 26 * e2) l0 with h | h
    · exact ⟨l0, by omega, by omega, by omega, by omega⟩
    · rcases Int.lt_or_le h0 (52 * e1 + 26 * e2) with h' | h'
      · exact ⟨h0, by omega, by omega, by omega, by omega⟩
      · exact ⟨52 * e1 + 26 * e2, by omega, by omega, by omega, by omega⟩
  obtain ⟨y, hy0, hy1, hy2, hy3⟩ : ∃ y, l1 ≤ y ∧ y ≤ h1 ∧ 3 * y - 3 * (45 * e2) ≤ radY k ∧ 3 * (45 * e2) - 3 * y ≤ radY k := by
    have hp : 0 ≤ radY k := by unfold radY; split <;> decide
    rcases Int.lt_or_le (45 * e2) l1 with h | h
    · exact ⟨l1, by omega, by omega, by omega, by omega⟩
    · rcases Int.lt_or_le h1 (45 * e2) with h' | h'
      · exact ⟨h1, by omega, by omega, by omega, by omega⟩
      · exact ⟨45 * e2, by omega, by omega, by omega, by omega⟩
  refine ⟨x, y, hx0, hx1, hy0, hy1, ?_⟩
  clear s1 s2 s3 s4 hx0 hx1 hy0 hy1
  rcases thirteen hk with rfl | rfl | rfl | rfl | rfl | rfl | rfl | rfl | rfl | rfl | rfl | rfl | rfl
  all_goals
    simp only [radX, radY, errN] at *
    refine ⟨?_, ?_, ?_, ?_⟩ <;> omega
/-- The ring of a cell near the world is small. -/
theorem ring_ok (x y : Int) (z : Int × Int) (k : Nat) (hk : k ≤ 12) (hw : World_ x y) (h : NearC 4 x y z k) : RingOk (hexL z k) := by
  have hr : radX k ≤ 10403595 ∧ radY k ≤ 10403595 := by unfold radX radY; rcases thirteen hk with rfl | rfl | rfl | rfl | rfl | rfl | rfl | rfl | rfl | rfl | rfl | rfl | rfl <;> decide
  have he : errN k ≤ 189251530 := by unfold errN; rcases thirteen hk with rfl | rfl | rfl | rfl | rfl | rfl | rfl | rfl | rfl | rfl | rfl | rfl | rfl <;> decide
  have hb := fun p hp => hex_rad z k hk p hp
  unfold NearC at h
  unfold World_ at hw
  generalize mulZ (betaN k) z = E at *
  obtain ⟨e1, e2⟩ := E
  simp only [spotZ, axial] at h hb
  refine ⟨rfl, fun j p hp => ?_, fun j p q _ hp hq => ?_⟩
  · have := hb p (List.mem_of_getElem? hp)
    unfold Small34
    omega
  · have h1 := hb p (List.mem_of_getElem? hp)
    have h2 := hb q (List.mem_of_getElem? hq)
    omega

end Go.Proofs.YtkemmffdiclloaaGreatDoor
