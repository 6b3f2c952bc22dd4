/- An argument opened: a slice of the statements' ops of layer 12. -/
import Derived.Test.YtbaaoldcecefcaaOpenInts
import Derived.Test.YtbaaoldcecefcaaDOps
import Derived.Deep.Fields
import Derived.ChangeSame
namespace Go.Proofs.Ytbaaoldcecefcaa
open Go.ChangeShapes Go.WideShapes Go.ChangeAt Go.RowKit Go.Deep

theorem choose_upto {α : Type} {n : Nat} {p : Nat → α → Prop} (h : ∀ i, i < n → ∃ a, p i a) : ∃ l : List α, l.length = n ∧ ∀ i a, l[i]? = some a → p i a := by
  induction n with
  | zero => exact ⟨[], rfl, fun i a h => by simp at h⟩
  | succ n ih =>
    obtain ⟨l, hl, hp⟩ := ih fun i hi => h i (by omega)
    obtain ⟨a, ha⟩ := h n (by omega)
    refine ⟨l ++ [a], by simp [hl], fun i b hb => ?_⟩
    rcases Nat.lt_or_ge i l.length with hlt | hge
    · rw [List.getElem?_append_left hlt] at hb
      exact hp i b hb
    · rw [List.getElem?_append_right hge] at hb
      have hi : i - l.length = 0 := by
        rcases Nat.eq_zero_or_pos (i - l.length) with h0 | h0
        · exact h0
        · rw [List.getElem?_eq_none (by simp; omega)] at hb; cases hb
      rw [hi] at hb
      simp at hb
      subst hb
      rw [show i = n by omega]
      exact ha

section
variable {H : Type} {enc : TypeId × Value → H} {w : World} {base : Nat} {spare : Nat → Bool} {held : Bool}
theorem Try.opFields : ∃ f0 f1 f2 f3 : Field, Try.prog.underlying 42 = some (.struct #[f0, f1, f2, f3]) ∧ f0.offset = 0 ∧ f1.offset = 1 ∧ f2.offset = 2 ∧ f3.offset = 3 ∧
    f0.type = 3 ∧ f1.type = 3 ∧ f2.type = 3 ∧ f3.type = 3 := ⟨_, _, _, _, Try.underlying42, rfl, rfl, rfl, rfl, rfl, rfl, rfl, rfl⟩
theorem open_dop {fuel : Nat} {cs : List Value} {x : DataW H × List MemPlace} (h : DataW.trod enc Try.prog w base spare held fuel 42 cs = some x) : ∃ o : Qop, cs = o.cs ∧ o.fit := by
  obtain ⟨f0, f1, f2, f3, hs, o0, o1, o2, o3, t0, t1, t2, t3⟩ := Try.opFields
  have hC : Try.prog.cellsOf 42 = 4 := by kernel_rfl
  have hI : Try.prog.cellsOf 3 = 1 := by kernel_rfl
  obtain ⟨xs, n, _, hx, hlen, hxl, hf⟩ := DataW.trod_struct hs h
  rw [hC] at hlen
  match cs, hlen with
  | [a, b, c, d], _ =>
    match xs, hxl with
    | [y0, y1, y2, y3], _ =>
      have g0 := hf 0 f0 rfl
      have g1 := hf 1 f1 rfl
      have g2 := hf 2 f2 rfl
      have g3 := hf 3 f3 rfl
      rw [o0, t0, hI] at g0
      rw [o1, t1, hI] at g1
      rw [o2, t2, hI] at g2
      rw [o3, t3, hI] at g3
      obtain ⟨z0, e0, _, w0⟩ := DataW.trod_int (x := y0) Try.underlying3 g0
      obtain ⟨z1, e1, _, w1⟩ := DataW.trod_int (x := y1) Try.underlying3 g1
      obtain ⟨z2, e2, _, w2⟩ := DataW.trod_int (x := y2) Try.underlying3 g2
      obtain ⟨z3, e3, _, w3⟩ := DataW.trod_int (x := y3) Try.underlying3 g3
      simp at e0 e1 e2 e3
      subst e0 e1 e2 e3
      have b1 := bounds_i64 w1
      have b2 := bounds_i64 w2
      have b3 := bounds_i64 w3
      exact ⟨⟨z0, z1, z2, z3⟩, rfl, b1.1, b1.2, b2.1, b2.2, b3.1, b3.2⟩
theorem open_dops {fuel : Nat} {v : Value} {x : DataW H × List MemPlace} (h : DataW.trod enc Try.prog w base spare held fuel 40 [v] = some x) :
    ∃ (A : Option Addr) (n c : Nat) (l : List Qop), v = .slice A n c ∧ n ≤ c ∧ c ≤ maxLen ∧ l.length = n ∧ Rds w (fun k => k < w.heap.size) 4 A n (l.flatMap Qop.cs) ∧ ∀ o ∈ l, Qop.fit o := by
  have hC : Try.prog.cellsOf 42 = 4 := by kernel_rfl
  rcases open_slice Try.underlying40 h with ⟨hcs, _⟩ | ⟨a, len, cap, m, n, D, Pl, hcs, _, hl, hm, hmm, _, hi⟩
  · injection hcs with hv
    exact ⟨none, 0, 0, [], hv, Nat.le_refl _, Nat.zero_le _, rfl, Rds.nil, fun o ho => absurd ho (List.not_mem_nil)⟩
  · injection hcs with hv
    have hlm : len ≤ m := by rw [hmm]; split <;> omega
    obtain ⟨l, hll, hp⟩ := choose_upto (n := len) (p := fun i o => w.cells? base (a.add (i * 4)) 4 = some (Qop.cs o) ∧ o.fit) (fun i hil => by
      obtain ⟨cs', hc, ht⟩ := hi i (by omega)
      rw [hC] at hc
      obtain ⟨o, ho, hfo⟩ := open_dop ht
      exact ⟨o, by rw [← ho]; exact hc, hfo⟩)
    refine ⟨some a, len, cap, l, hv, hl, hm, hll, ?_, fun o ho => ?_⟩
    · have hr : Rds w (fun _ => True) 4 (some a) len (l.flatMap Qop.cs) := by
        refine ⟨by rw [qops_len, hll], fun _ => ⟨a, rfl, trivial, fun j u hu => ?_⟩⟩
        have hj : j < l.length * 4 := by
          rw [← qops_len]
          rcases Nat.lt_or_ge j (l.flatMap Qop.cs).length with h1 | h1
          · exact h1
          · rw [List.getElem?_eq_none h1] at hu; cases hu
        have hq : l[j / 4]? = some (l[j / 4]'(by omega)) := List.getElem?_eq_getElem (by omega)
        obtain ⟨hc, _⟩ := hp _ _ hq
        obtain ⟨_, _, hat⟩ := World.cells?_some hc
        have hjm : j % 4 < 4 := Nat.mod_lt _ (by omega)
        have h2 := hat (j % 4) hjm
        have hcs : ((l[j / 4]'(by omega)).cs)[j % 4]? = some (((l[j / 4]'(by omega)).cs)[j % 4]'(by show j % 4 < 4; omega)) := List.getElem?_eq_getElem _
        have h3 := qops_get l (j / 4) _ hq (j % 4) _ hcs
        rw [show j / 4 * 4 + j % 4 = j by omega] at h3
        rw [h3] at hu
        have hu' := Option.some.inj hu
        rw [show j = j / 4 * 4 + j % 4 by omega, ← Go.Deep.add_add, h2, hcs, hu']
      exact (hr.here (by omega)).wider (fun k _ h => h.2) (by omega)
    · obtain ⟨i, hlt, he⟩ := List.mem_iff_getElem.1 ho
      exact (hp i o (by rw [List.getElem?_eq_getElem hlt, he])).2
end
end Go.Proofs.Ytbaaoldcecefcaa
