/- An argument opened: a slice of api.Point. -/
import Derived.Test.YtmbmfhpdajdpfaaOpenOps
import Derived.Test.YtmbmfhpdajdpfaaPts
namespace Go.Proofs.Ytmbmfhpdajdpfaa
open Go.ChangeShapes Go.WideShapes Go.ChangeAt Go.RowKit Go.Deep
section
variable {H : Type} {enc : TypeId × Value → H} {w : World} {base : Nat} {spare : Nat → Bool} {held : Bool}
set_option maxRecDepth 100000 in
theorem open_points {fuel : Nat} {v : Value} {x : DataW H × List MemPlace} (h : DataW.trod enc Try.prog w base spare held fuel 59 [v] = some x) :
    ∃ (A : Option Addr) (n c : Nat) (l : List Pt), v = .slice A n c ∧ n ≤ c ∧ c ≤ maxLen ∧ RdP w (fun k => k < w.heap.size) A n l ∧ ∀ o ∈ l, Pt.fit o := by
  have hC : Try.prog.cellsOf 44 = 4 := by kernel_rfl
  rcases open_slice Try.underlying59 h with ⟨hcs, _⟩ | ⟨a, len, cap, m, n, D, Pl, hcs, _, hl, hm, hmm, _, hi⟩
  · injection hcs with hv
    exact ⟨none, 0, 0, [], hv, Nat.le_refl _, Nat.zero_le _, Rds.nil, fun o ho => absurd ho (List.not_mem_nil)⟩
  · injection hcs with hv
    have hlm : len ≤ m := by rw [hmm]; split <;> omega
    obtain ⟨l, hll, hp⟩ := choose_upto (n := len) (p := fun i o => w.cells? base (a.add (i * 4)) 4 = some (Pt.cs o) ∧ o.fit) (fun i hil => by
      obtain ⟨cs', hc, ht⟩ := hi i (by omega)
      rw [hC] at hc
      obtain ⟨o, ho, hfo⟩ := open_point ht
      exact ⟨o, by rw [← ho]; exact hc, hfo⟩)
    refine ⟨some a, len, cap, l, hv, hl, hm, ?_, fun o ho => ?_⟩
    · have hr : Rds w (fun _ => True) 4 (some a) len (l.flatMap Pt.cs) := by
        refine ⟨by rw [pts_len, hll], fun _ => ⟨a, rfl, trivial, fun j u hu => ?_⟩⟩
        have hj : j < l.length * 4 := by
          rw [← pts_len]
          rcases Nat.lt_or_ge j (l.flatMap Pt.cs).length with h1 | h1
          · exact h1
          · rw [List.getElem?_eq_none h1] at hu; cases hu
        have hq : l[j / 4]? = some (l[j / 4]'(by omega)) := List.getElem?_eq_getElem (by omega)
        obtain ⟨hc, _⟩ := hp _ _ hq
        obtain ⟨_, _, hat⟩ := World.cells?_some hc
        have hjm : j % 4 < 4 := Nat.mod_lt _ (by omega)
        have h2 := hat (j % 4) hjm
        have hcs : ((l[j / 4]'(by omega)).cs)[j % 4]? = some (((l[j / 4]'(by omega)).cs)[j % 4]'(by show j % 4 < 4; omega)) := List.getElem?_eq_getElem _
        have h3 := pts_get l (j / 4) _ hq (j % 4) _ hcs
        rw [show j / 4 * 4 + j % 4 = j by omega] at h3
        rw [h3] at hu
        have hu' := Option.some.inj hu
        rw [show j = j / 4 * 4 + j % 4 by omega, ← Go.Deep.add_add, h2, hcs, hu']
      exact (hr.here (by omega)).wider (fun k _ h => h.2) (by omega)
    · obtain ⟨i, hlt, he⟩ := List.mem_iff_getElem.1 ho
      exact (hp i o (by rw [List.getElem?_eq_getElem hlt, he])).2
end
end Go.Proofs.Ytmbmfhpdajdpfaa
