/- Joined for this seat from: XPH. -/
import Derived.Test.YtkemmffdiclloaaGreatDoorBk
set_option linter.unusedVariables false
set_option linter.unusedSimpArgs false
namespace Go.Proofs.YtkemmffdiclloaaGreatDoor
theorem near_pair (x y x' y' : Int) (z z' : Int × Int) (m : Nat) (hm : m ≤ 12) (h : NearC 2 x y z m) (h' : NearC 2 x' y' z' m) (hx : -511 ≤ x - x' ∧ x - x' ≤ 511) (hy : -511 ≤ y - y' ∧ y - y' ≤ 511) :
    -60 ≤ z.1 - z'.1 ∧ z.1 - z'.1 ≤ 60 ∧ -60 ≤ z.2 - z'.2 ∧ z.2 - z'.2 ≤ 60 := by
  unfold NearC at h h'
  obtain ⟨a, b⟩ := z
  obtain ⟨c, d⟩ := z'
  rcases thirteen hm with rfl | rfl | rfl | rfl | rfl | rfl | rfl | rfl | rfl | rfl | rfl | rfl | rfl
  all_goals
    simp only [mulZ, axial, betaN, errN] at h h' ⊢
    obtain ⟨u, hu⟩ : ∃ u, a - c = u := ⟨_, rfl⟩
    obtain ⟨v, hv⟩ : ∃ v, b - d = v := ⟨_, rfl⟩
    obtain rfl : a = c + u := by omega
    obtain rfl : b = d + v := by omega
    omega
theorem flood_few (l0 l1 h0 h1 : Int) (k : Nat) (hk : k ≤ 12) (hb0 : l0 ≤ h0 ∧ h0 ≤ l0 + 511) (hb1 : l1 ≤ h1 ∧ h1 ≤ l1 + 511) (L : List (Int × Int)) (hn : L.Nodup) (hg : ∀ z ∈ L, touchP (3 * l0, 3 * l1) (3 * h0, 3 * h1) (hexL z k) = true) : L.length ≤ 14641 := by
  cases hL : L with
  | nil => simp
  | cons z0 L' =>
    rw [← hL]
    obtain ⟨x0, y0, a1, a2, a3, a4, a5⟩ := touch_near l0 l1 h0 h1 z0 k hk hb0.1 hb1.1 (hg z0 (by rw [hL]; exact List.mem_cons_self ..))
    refine few_pairs L z0 hn fun z hz => ?_
    obtain ⟨x, y, b1, b2, b3, b4, b5⟩ := touch_near l0 l1 h0 h1 z k hk hb0.1 hb1.1 (hg z hz)
    exact near_pair x y x0 y0 z z0 k hk b5 a5 (by omega) (by omega)

end Go.Proofs.YtkemmffdiclloaaGreatDoor
