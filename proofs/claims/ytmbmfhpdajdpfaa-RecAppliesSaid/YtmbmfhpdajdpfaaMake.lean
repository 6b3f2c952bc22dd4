/- make of so many one-cell elements, as a law for the walk. -/
import Derived.Test.YtmbmfhpdajdpfaaStr
namespace Go.Proofs.Ytmbmfhpdajdpfaa
open Go.RowKit
theorem wpl_make {P : Program} {w : World} {ops : Array Oper} {rest : List Oper} {o : Oper} {a : Act} {Q : Exit → Act → World → Prop}
    (hg : o.guard = none) (l c : Operand) (t : TypeId) (hop : o.op = Op.makeSlice t l c)
    (e : TypeId) (i : TypeInfo) (z : Value) (bytes : Nat) (h1 : P.underlying t = some (.slice e)) (h2 : P.info? e = some i) (h3 : i.zero = some z) (h4 : i.size = 1) (h5 : i.bytes = bytes) (hz : z.cells = #[z])
    (n : Nat) (hl : a.eval l = .int .i64 (n : Int)) (hc : a.eval c = .int .i64 (n : Int)) (b2 : bytes * n ≤ 281474976710656) (b3 : n ≤ maxLen)
    (hK : ∀ w', w'.ownsRow w.heap.size e 1 (.slice (some ⟨w.heap.size, 0, none⟩) n n) n (List.replicate n z) → Chg Nil w w' → w.heap.size < w'.heap.size → wpList P ops Q rest (a.put o.dst (.slice (some ⟨w.heap.size, 0, none⟩) n n)) w') :
    wpList P ops Q (o :: rest) a w := by
  refine wpList_make_full w hg l c t hop w.heap.size e i z 1 h1 h2 h3 h4 .i64 .i64 n n n hl hc rfl rfl (by rw [h5]; exact b2) b3 (Nat.le_refl _) fun w' r1 r2 => ?_
  rw [hz, Nat.mul_one, toList_madeCells_one] at r1
  refine hK w' r1 ((Chg.of_grown r2).wider fun _ _ h => by cases h) ?_
  exact own_lt r1 w.heap.size rfl
end Go.Proofs.Ytmbmfhpdajdpfaa
