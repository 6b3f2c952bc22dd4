/- An argument opened: a slice of ints. -/
import Derived.Test.YtmbmfhpdajdpfaaOpen
namespace Go.Proofs.Ytmbmfhpdajdpfaa
open Go.ChangeShapes Go.WideShapes Go.ChangeAt Go.RowKit Go.Deep

section
variable {H : Type} {enc : TypeId × Value → H} {P : Program} {w : World} {base : Nat} {spare : Nat → Bool} {held : Bool}
theorem open_intsl {t e : TypeId} {fuel : Nat} {v : Value} {x : DataW H × List MemPlace} (ht : P.underlying t = some (.slice e)) (he : P.underlying e = some (.int .i64)) (hc : P.cellsOf e = 1)
    (h : DataW.trod enc P w base spare held fuel t [v] = some x) :
    ∃ A c zs, v = .slice A (List.length zs) c ∧ zs.length ≤ c ∧ c ≤ maxLen ∧ Rds w (fun k => k < w.heap.size) 1 A zs.length (zs.map (Value.int .i64)) ∧ ∀ z ∈ zs, -9223372036854775808 ≤ z ∧ z ≤ 9223372036854775807 := by
  rcases open_ints ht he hc h with ⟨hcs, _⟩ | ⟨a, len, cap, zs, hcs, _, hl, hm, hz, _, hcell, hwz⟩
  · injection hcs with hv
    exact ⟨none, 0, [], hv, Nat.le_refl _, Nat.zero_le _, Rds.nil, fun z hz => by simp at hz⟩
  · injection hcs with hv
    have hzl : len ≤ zs.length := by rw [hz]; split <;> omega
    have hbl : (zs.take len).length = len := by rw [List.length_take]; omega
    refine ⟨some a, cap, zs.take len, by rw [hbl]; exact hv, by rw [hbl]; exact hl, hm, ?_, fun z hz => ?_⟩
    · rw [hbl]
      have hr : Rds w (fun _ => True) 1 (some a) len ((zs.take len).map (Value.int .i64)) := by
        refine ⟨by simp; omega, fun _ => ⟨a, rfl, trivial, fun j u hu => ?_⟩⟩
        rw [List.getElem?_map, List.getElem?_take] at hu
        split at hu
        · next hj =>
          rw [List.getElem?_eq_getElem (by omega)] at hu
          simp only [Option.map_some, Option.some.injEq] at hu
          subst hu
          rw [hcell j (by omega)]
          have hg : zs.getD j 0 = zs[j] := by rw [List.getD_eq_getElem?_getD, List.getElem?_eq_getElem (by omega)]; rfl
          rw [hg]
        · cases hu
      exact (hr.here (by omega)).wider (fun k _ h => h.2) (by omega)
    · have := bounds_i64 (hwz z (List.mem_of_mem_take hz))
      omega
end
end Go.Proofs.Ytmbmfhpdajdpfaa
