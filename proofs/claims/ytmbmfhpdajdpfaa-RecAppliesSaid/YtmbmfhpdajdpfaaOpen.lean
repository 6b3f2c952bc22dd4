/- Arguments opened: slices of bytes, slices of such, over any program. -/
import Derived.Test.YtmbmfhpdajdpfaaStr
import Derived.ProofKit
import Derived.OpenShut
import Derived.ShutString
import Derived.ChangeOld
import Derived.Deep.Slices
import Derived.Below
namespace Go.Proofs.Ytmbmfhpdajdpfaa
open Go.ChangeShapes Go.WideShapes Go.ChangeAt Go.RowKit Go.Deep

section
variable {H : Type} {enc : TypeId × Value → H} {P : Program} {w : World} {base : Nat} {spare : Nat → Bool} {held : Bool}

theorem u8_bounds {n : Int} (h : (Lit.int .u8 n).wf = true) : 0 ≤ n ∧ n < 256 := by
  have := bounds_u8 h
  omega

/-- A slice of bytes that came in. -/
theorem bv_ofNat' (m : Nat) : bv (UInt8.ofNat m) = .int .u8 ((m % 256 : Nat) : Int) := by simp [bv]
theorem open_bytes {t e : TypeId} {fuel : Nat} {v : Value} {x : DataW H × List MemPlace} (ht : P.underlying t = some (.slice e)) (he : P.underlying e = some (.int .u8)) (hc : P.cellsOf e = 1)
    (h : DataW.trod enc P w base spare held fuel t [v] = some x) :
    ∃ A c bs, v = .slice A (List.length bs) c ∧ bs.length ≤ c ∧ c ≤ maxLen ∧ RdB w (fun k => k < w.heap.size) A bs.length bs := by
  rcases open_ints ht he hc h with ⟨hcs, _⟩ | ⟨a, len, cap, zs, hcs, _, hl, hm, hz, _, hcell, hwz⟩
  · injection hcs with hv
    exact ⟨none, 0, [], hv, Nat.le_refl _, Nat.zero_le _, RdB.nil⟩
  · injection hcs with hv
    have hzl : len ≤ zs.length := by rw [hz]; split <;> omega
    have hbl : ((zs.take len).map fun z => UInt8.ofNat z.toNat).length = len := by simp; omega
    refine ⟨some a, cap, (zs.take len).map fun z => UInt8.ofNat z.toNat, by rw [hbl]; exact hv, by rw [hbl]; exact hl, hm, ?_⟩
    rw [hbl]
    have hr : RdB w (fun _ => True) (some a) len ((zs.take len).map fun z => UInt8.ofNat z.toNat) := by
      refine ⟨by simp; omega, fun _ => ⟨a, rfl, trivial, fun j u hu => ?_⟩⟩
      rw [List.map_map, List.getElem?_map, List.getElem?_take] at hu
      split at hu
      · next hj =>
        rw [List.getElem?_eq_getElem (by omega)] at hu
        simp only [Option.map_some, Option.some.injEq, Function.comp] at hu
        subst hu
        rw [hcell j (by omega)]
        have hw := u8_bounds (hwz zs[j] (List.getElem_mem _))
        have hg : zs.getD j 0 = zs[j] := by rw [List.getD_eq_getElem?_getD, List.getElem?_eq_getElem (by omega)]; rfl
        rw [hg, bv_ofNat']
        congr 2
        omega
      · cases hu
    exact hr.here.wider fun k _ h => h.2

/-- A slice of slices of bytes that came in. -/
theorem open_bodies {t e f : TypeId} {fuel : Nat} {v : Value} {x : DataW H × List MemPlace} (ht : P.underlying t = some (.slice e)) (he : P.underlying e = some (.slice f)) (hf : P.underlying f = some (.int .u8)) (hce : P.cellsOf e = 1) (hcf : P.cellsOf f = 1)
    (h : DataW.trod enc P w base spare held fuel t [v] = some x) :
    ∃ A n c vs bodies, v = .slice A n c ∧ n ≤ c ∧ c ≤ maxLen ∧ Rds w (fun k => k < w.heap.size) 1 A n vs ∧ RdL w (fun k => k < w.heap.size) vs bodies := by
  rcases open_slice1 ht hce h with ⟨hcs, _⟩ | ⟨a, len, cap, m, n, V, D, Pl, hcs, _, hl, hm, hmm, _, hx⟩
  · injection hcs with hv
    exact ⟨none, 0, 0, [], [], hv, Nat.le_refl _, Nat.zero_le _, Rds.nil, RdL.nil⟩
  · injection hcs with hv
    have hlm : len ≤ m := by rw [hmm]; split <;> omega
    obtain ⟨B, hB⟩ := choose_lt (α := List UInt8) (n := len) (p := fun i b => ∃ A c, V i = .slice A (List.length b) c ∧ b.length ≤ c ∧ c ≤ maxLen ∧ RdB w (fun k => k < w.heap.size) A b.length b) (fun i hi => by
      obtain ⟨A, c, bs, h1, h2, h3, h4⟩ := open_bytes he hf hcf (hx i (by omega)).2
      exact ⟨bs, A, c, h1, h2, h3, h4⟩)
    refine ⟨some a, len, cap, (List.range len).map V, (List.range len).map B, hv, hl, hm, ?_, by simp, fun i b hb => ?_⟩
    · have hr : Rds w (fun _ => True) 1 (some a) len ((List.range len).map V) := by
        refine ⟨by simp, fun _ => ⟨a, rfl, trivial, fun j u hu => ?_⟩⟩
        rw [List.getElem?_map] at hu
        rcases Nat.lt_or_ge j len with hj | hj
        · rw [List.getElem?_eq_getElem (by simpa using hj)] at hu
          simp only [List.getElem_range, Option.map_some, Option.some.injEq] at hu
          subst hu
          exact (hx j (by omega)).1
        · rw [List.getElem?_eq_none (by simpa using hj)] at hu; cases hu
      exact (hr.here (by omega)).wider (fun k _ h => h.2) (by omega)
    · rw [List.getElem?_map] at hb
      rcases Nat.lt_or_ge i len with hj | hj
      · rw [List.getElem?_eq_getElem (by simpa using hj)] at hb
        simp only [List.getElem_range, Option.map_some, Option.some.injEq] at hb
        subst hb
        obtain ⟨A, c, h1, h2, h3, h4⟩ := hB i hj
        exact ⟨A, c, by rw [List.getElem?_map, List.getElem?_eq_getElem (by simpa using hj)]; simp [h1], h2, h3, h4⟩
      · rw [List.getElem?_eq_none (by simpa using hj)] at hb; cases hb
end
end Go.Proofs.Ytmbmfhpdajdpfaa
