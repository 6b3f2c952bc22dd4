/- Two disks side by side: what is done to the one leaves the other. -/
import Derived.Test.YtbaaoldcecefcaaAwakeD
namespace Go.Proofs.Ytbaaoldcecefcaa
open Go.RowKit

structure Live2 (w0 w : World) (g : Nat) (M R : Nat → Prop) (d : Dp) (g' : Nat) (M' R' : Nat → Prop) (d' : Dp) : Prop where
  one : Live w0 w g M R d
  two : Live w0 w g' M' R' d'
  sep : ∀ k, M k → ¬ M' k ∧ ¬ R' k
  sep' : ∀ k, M' k → ¬ M k ∧ ¬ R k
section
variable {w0 w w' : World} {g g' : Nat} {M R M' R' M1 R1 : Nat → Prop} {d d' d1 : Dp}
theorem Live2.symm (h : Live2 w0 w g M R d g' M' R' d') : Live2 w0 w g' M' R' d' g M R d := ⟨h.two, h.one, h.sep', h.sep⟩
theorem Live2.nil (h : Live2 w0 w g M R d g' M' R' d') (hc : Chg Nil w w') : Live2 w0 w' g M R d g' M' R' d' := ⟨h.one.nil hc, h.two.nil hc, h.sep, h.sep'⟩
theorem Live2.went (h : Live2 w0 w g M R d g' M' R' d') (hw : Went w w' M R M1 R1) (hd : Dk w' g M1 R1 d1) : Live2 w0 w' g M1 R1 d1 g' M' R' d' := by
  refine ⟨h.one.went hw hd, h.two.far hw.chg (fun k hk => h.one.low k (.inl hk)) (fun k hk hm => ?_), fun k hm => ?_, fun k hm => ?_⟩
  · rcases hk with hk | hk
    · exact (h.sep k hm).1 hk
    · exact (h.sep k hm).2 hk
  · rcases Nat.lt_or_ge k w.heap.size with hlt | hge
    · exact h.sep k (hw.m k hlt hm)
    · exact ⟨fun hk => by have := h.two.dk.lt k (.inl hk); omega, fun hk => by have := h.two.dk.lt k (.inr hk); omega⟩
  · have hlt := h.two.dk.lt k (.inl hm)
    exact ⟨fun hk => (h.sep' k hm).1 (hw.m k hlt hk), fun hk => (h.sep' k hm).2 (hw.r k hlt hk)⟩
theorem Live2.step (h : Live2 w0 w g M R d g' M' R' d') (hc : Chg M w w') (hd : Dk w' g M R d1) : Live2 w0 w' g M R d1 g' M' R' d' := h.went (Went.of_chg hc) hd
theorem Live2.went' (h : Live2 w0 w g M R d g' M' R' d') (hw : Went w w' M' R' M1 R1) (hd : Dk w' g' M1 R1 d1) : Live2 w0 w' g M R d g' M1 R1 d1 := (h.symm.went hw hd).symm
theorem Live2.step' (h : Live2 w0 w g M R d g' M' R' d') (hc : Chg M' w w') (hd : Dk w' g' M' R' d1) : Live2 w0 w' g M R d g' M' R' d1 := (h.symm.step hc hd).symm
/-- A second new one. -/
theorem Live2.new (h : Live w0 w g M R d) (hc : Chg Nil w w') (hd : Dk w' g' M' R' d') (hl : ∀ k, M' k ∨ R' k → w.heap.size ≤ k) : Live2 w0 w' g M R d g' M' R' d' := by
  refine ⟨h.nil hc, ⟨h.chg.trans hc (fun _ _ h => h), hd, fun k hk => Nat.le_trans h.chg.size (hl k hk)⟩, fun k hm => ?_, fun k hm => ?_⟩
  · have := h.dk.lt k (.inl hm)
    exact ⟨fun hk => by have := hl k (.inl hk); omega, fun hk => by have := hl k (.inr hk); omega⟩
  · have := hl k (.inl hm)
    exact ⟨fun hk => by have := h.dk.lt k (.inl hk); omega, fun hk => by have := h.dk.lt k (.inr hk); omega⟩
end

/-! ### byte by byte -/
def singles : Nat → List UInt8 → List (Nat × List UInt8)
  | _, [] => []
  | p, x :: r => (p, [x]) :: singles (p + 1) r
theorem singles_snoc (c : List UInt8) (x : UInt8) : ∀ p, singles p (c ++ [x]) = singles p c ++ [(p + c.length, [x])] := by
  induction c with
  | nil => intro p; rfl
  | cons y r ih =>
    intro p
    simp only [List.cons_append, singles, ih, List.length_cons]
    rw [show p + 1 + r.length = p + (r.length + 1) by omega]
theorem singles_sum (c : List UInt8) : ∀ p, sumW (singles p c) = c.length := by
  induction c with
  | nil => intro p; rfl
  | cons y r ih => intro p; simp only [singles, sumW, ih, List.length_cons, List.length_nil]; omega
theorem singles_len (c : List UInt8) : ∀ p, (singles p c).length = c.length := by
  induction c with
  | nil => intro p; rfl
  | cons y r ih => intro p; simp only [singles, List.length_cons, ih]
theorem splice_cons {α : Type} (l : List α) (p : Nat) (x : α) (ys : List α) (h : p + 1 + ys.length ≤ l.length) : splice (splice l p [x]) (p + 1) ys = splice l p (x :: ys) := by
  unfold splice
  have h1 : (l.take p ++ ([x] ++ l.drop (p + [x].length))).take (p + 1) = l.take p ++ [x] := by
    rw [List.take_append, List.length_take, Nat.min_eq_left (by omega), List.take_of_length_le (by rw [List.length_take]; omega), show p + 1 - p = 1 by omega]
    rfl
  have h2 : (l.take p ++ ([x] ++ l.drop (p + [x].length))).drop (p + 1 + ys.length) = l.drop (p + (x :: ys).length) := by
    rw [List.drop_append, List.length_take, Nat.min_eq_left (by omega), List.drop_of_length_le (by rw [List.length_take]; omega), List.nil_append, show p + 1 + ys.length - p = ys.length + 1 by omega]
    simp only [List.cons_append, List.nil_append, List.drop_succ_cons, List.drop_drop, List.length_cons, List.length_nil]
    congr 1
    omega
  rw [h1, h2]
  simp
theorem crash_singles (c : List UInt8) : ∀ (l : List UInt8) (k p : Nat), p + c.length ≤ l.length → crashB l k (singles p c) = splice l p (c.take k) := by
  induction c with
  | nil => intro l k p h; simp [singles, crashB, splice_nil]
  | cons x r ih =>
    intro l k p h
    simp only [List.length_cons] at h
    simp only [singles, crashB, List.length_cons, List.length_nil]
    match k with
    | 0 =>
      simp only [Nat.zero_min, List.take_zero, splice_nil, Nat.sub_self]
      rw [ih _ _ _ (by omega), List.take_zero, splice_nil]
    | k + 1 =>
      rw [show min (k + 1) (0 + 1) = 1 by omega, show k + 1 - 1 = k by omega]
      have hx : [x].take 1 = [x] := rfl
      rw [hx, ih _ _ _ (by rw [splice_len _ _ _ (by simp; omega)]; omega), splice_cons _ _ _ _ (by rw [List.length_take]; omega), List.take_succ_cons]
theorem crash_one (l b : List UInt8) (k p : Nat) : crashB l k [(p, b)] = splice l p (b.take k) := by
  simp only [crashB]
  congr 1
  rcases Nat.le_total k b.length with h | h
  · rw [Nat.min_eq_left h]
  · rw [Nat.min_eq_right h, List.take_length, List.take_of_length_le h]
end Go.Proofs.Ytbaaoldcecefcaa
