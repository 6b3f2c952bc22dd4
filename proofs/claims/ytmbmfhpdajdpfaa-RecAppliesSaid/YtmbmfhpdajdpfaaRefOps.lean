/- The document's side of batches: World, PointOk, OpOk, BatchMay; Few. -/
import Derived.Test.YtmbmfhpdajdpfaaBatchOk
namespace Go.Proofs.Ytmbmfhpdajdpfaa
open Go.RowKit

set_option maxHeartbeats 1000000 in
set_option maxRecDepth 100000 in
theorem world_any (x y : Int) (w : World) : Calls Try.prog 61 #[.int .i64 x, .int .i64 y] w fun e w' => e = .returned (.bool (inOk x && inOk y)) ∧ w' = w := by
  go_enter Try.func61, Try.ntmps61
  unfold inOk
  by_cases h1 : x ≥ 0
  · have d1 : decide (x ≥ 0) = true := decide_eq_true h1
    by_cases h2 : x < 1073741824
    · have d2 : decide (x < 1073741824) = true := decide_eq_true h2
      by_cases h3 : y ≥ 0
      · have d3 : decide (y ≥ 0) = true := decide_eq_true h3
        generalize hd4 : decide (y < 1073741824) = d4
        go_wp2
        go_ret
        simp_all
      · have d3 : decide (y ≥ 0) = false := decide_eq_false h3
        go_wp2
        go_ret
        simp_all
    · have d2 : decide (x < 1073741824) = false := decide_eq_false h2
      go_wp2
      go_ret
      simp_all
  · have d1 : decide (x ≥ 0) = false := decide_eq_false h1
    go_wp2
    go_ret
    simp_all

set_option maxHeartbeats 1000000 in
set_option maxRecDepth 100000 in
theorem rpointOk_any (p : Pt) (w : World) : Calls Try.prog 53 #[.agg p.cs.toArray] w fun e w' => e = .returned (.bool p.ok) ∧ Chg Nil w w' := by
  obtain ⟨k, x, y, v⟩ := p
  have hv : decide (v ≤ 2147483647) = decide (v < 2147483648) := by rw [decide_eq_decide]; omega
  simp only [Pt.cs, Pt.ok, hv]
  generalize hxy : (inOk x && inOk y) = bxy
  have hall : (keyOk k && inOk x && inOk y && decide (v ≥ -2147483648) && decide (v < 2147483648)) = (keyOk k && bxy && decide (v ≥ -2147483648) && decide (v < 2147483648)) := by rw [← hxy, Bool.and_assoc (keyOk k)]
  rw [hall]
  have HX := Hid.mk hxy
  clear hall hxy hv
  unfold keyOk
  go_enter Try.func53, Try.ntmps53
  by_cases h1 : k ≥ 1
  · have d1 : decide (k ≥ 1) = true := decide_eq_true h1
    by_cases h2 : k ≤ 2147483648
    · have d2 : decide (k ≤ 2147483648) = true := decide_eq_true h2
      rw [d1, d2]
      go_wp2_with fail
      refine (world_any x y _).mono ?_
      rintro e w1 ⟨rfl, rfl⟩
      rw [HX.out]
      cases bxy
      · go_wp2_with fail
        all_goals (go_ret; exact ⟨rfl, (Chg.refl _ _).alloc _⟩)
      · by_cases h3 : v ≥ -2147483648
        · have d3 : decide (v ≥ -2147483648) = true := decide_eq_true h3
          generalize hd4 : decide (v < 2147483648) = d4
          go_wp2_with fail
          all_goals (go_ret; exact ⟨by first | rfl | simp [*] | simp_all, (Chg.refl _ _).alloc _⟩)
        · have d3 : decide (v ≥ -2147483648) = false := decide_eq_false h3
          go_wp2_with fail
          all_goals (go_ret; exact ⟨by first | rfl | simp [*] | simp_all, (Chg.refl _ _).alloc _⟩)
    · have d2 : decide (k ≤ 2147483648) = false := decide_eq_false h2
      rw [d1, d2]
      go_wp2_with fail
      all_goals (go_ret; exact ⟨by first | rfl | simp [*] | simp_all, (Chg.refl _ _).alloc _⟩)
  · have d1 : decide (k ≥ 1) = false := decide_eq_false h1
    rw [d1]
    go_wp2_with fail
    all_goals (go_ret; exact ⟨by first | rfl | simp [*] | simp_all, (Chg.refl _ _).alloc _⟩)

set_option maxHeartbeats 1000000 in
set_option maxRecDepth 100000 in
theorem ropOk_any (o : Oq) (w : World) : Calls Try.prog 43 #[.agg o.cs.toArray] w fun e w' => e = .returned (.bool o.ok) ∧ Chg Nil w w' := by
  obtain ⟨kd, p⟩ := o
  by_cases h1 : kd = 1
  · subst h1
    have hok : Oq.ok ⟨1, p⟩ = p.ok := rfl
    rw [hok]
    have HP := Hid.mk (fun W => rpointOk_any p W)
    generalize hb : p.ok = b at *
    obtain ⟨k, x, y, v⟩ := p
    simp only [Oq.cs, Pt.cs]
    go_enter Try.func43, Try.ntmps43
    go_wp2_with fail
    refine (HP.out _).mono ?_
    rintro e w1 ⟨rfl, hc⟩
    have HC := Hid.mk hc
    clear hc
    go_wp2_with fail
    all_goals (go_ret; exact ⟨rfl, ((Chg.refl _ _).alloc _).trans HC.out fun _ _ h => h⟩)
  · have e1 : ((kd : Int) == 1) = false := by simpa using h1
    by_cases h2 : kd = 2
    · subst h2
      have hok : Oq.ok ⟨2, p⟩ = (keyOk p.key && p.only) := rfl
      rw [hok]
      obtain ⟨k, x, y, v⟩ := p
      simp only [Oq.cs, Pt.cs, Pt.only]
      unfold keyOk
      go_enter Try.func43, Try.ntmps43
      by_cases h3 : k ≥ 1
      · have d1 : decide (k ≥ 1) = true := decide_eq_true h3
        by_cases h4 : k ≤ 2147483648
        · have d2 : decide (k ≤ 2147483648) = true := decide_eq_true h4
          go_wp2_with fail
          all_goals (go_ret; exact ⟨by simp_all, (Chg.refl _ _).alloc _⟩)
        · have d2 : decide (k ≤ 2147483648) = false := decide_eq_false h4
          go_wp2_with fail
          all_goals (go_ret; exact ⟨by simp_all, (Chg.refl _ _).alloc _⟩)
      · have d1 : decide (k ≥ 1) = false := decide_eq_false h3
        go_wp2_with fail
        all_goals (go_ret; exact ⟨by simp_all, (Chg.refl _ _).alloc _⟩)
    · have hok : Oq.ok ⟨kd, p⟩ = false := by simp [Oq.ok, h1, h2]
      rw [hok]
      obtain ⟨k, x, y, v⟩ := p
      simp only [Oq.cs, Pt.cs]
      have e2 : ((kd : Int) == 2) = false := by simpa using h2
      go_enter Try.func43, Try.ntmps43
      go_wp2_with fail
      all_goals (go_ret; exact ⟨rfl, (Chg.refl _ _).alloc _⟩)
theorem few_any (A : Option Addr) (n c : Nat) (w : World) : Calls Try.prog 20 #[.slice A n c] w fun e w' => e = .returned (.bool (decide ((n : Int) ≤ 100))) ∧ w' = w := by
  go_enter Try.func20, Try.ntmps20
  go_wp2
  go_ret
  first
    | exact ⟨rfl, rfl⟩
    | (refine ⟨?_, rfl⟩; show Ending.returned (Value.bool (decide (n ≤ 100))) = _; congr 2; rw [decide_eq_decide]; omega)
end Go.Proofs.Ytmbmfhpdajdpfaa
