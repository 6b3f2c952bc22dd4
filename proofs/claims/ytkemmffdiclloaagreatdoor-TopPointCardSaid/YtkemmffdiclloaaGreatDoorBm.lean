/- Joined for this seat from: XPG. -/
import Derived.Test.YtkemmffdiclloaaGreatDoorBl
set_option linter.unusedVariables false
set_option linter.unusedSimpArgs false
namespace Go.Proofs.YtkemmffdiclloaaGreatDoor
/-! ### rows of numbers, sorted by swaps. Plainly. -/
def ix (X : List Int) (i : Nat) : Int := X.getD i 0
def sw (X : List Int) (i j : Nat) : List Int := (X.set i (ix X j)).set j (ix X i)
theorem sw_len (X : List Int) (i j : Nat) : (sw X i j).length = X.length := by simp [sw]
theorem ix_get {X : List Int} {i : Nat} (h : i < X.length) : X[i]? = some (ix X i) := by
  simp [ix, List.getD, List.getElem?_eq_getElem h]
theorem ix_sw {X : List Int} {i j : Nat} (hi : i < X.length) (hj : j < X.length) (k : Nat) : ix (sw X i j) k = if k = j then ix X i else if k = i then ix X j else ix X k := by
  unfold sw ix
  simp only [List.getD_eq_getElem?_getD, List.getElem?_set, List.length_set]
  by_cases h1 : k = j
  · subst h1; simp [hj]
  · rw [if_neg (fun h => h1 h.symm), if_neg h1]
    by_cases h2 : k = i
    · subst h2; simp [hi]
    · rw [if_neg (fun h => h2 h.symm), if_neg h2]
theorem sw_self {X : List Int} {i : Nat} (hi : i < X.length) : sw X i i = X := by
  unfold sw ix
  apply List.ext_getElem?
  intro k
  simp only [List.getElem?_set, List.length_set]
  by_cases h : i = k
  · subst h; simp [hi]
  · simp [h]
theorem sw_perm {X : List Int} {i j : Nat} (hi : i < X.length) (hj : j < X.length) : (sw X i j).Perm X := by
  have h := Array.swap_perm (xs := X.toArray) (i := i) (j := j) (by simpa using hi) (by simpa using hj)
  have h2 := Array.perm_iff_toList_perm.1 h
  simpa [Array.toList_swap, sw, ix, List.getD, hi, hj] using h2
/-- Y is X, mixed within [a, b). -/
inductive Mix (a b : Nat) (X : List Int) : List Int → Prop
  | refl : b ≤ X.length → Mix a b X X
  | sw {Y : List Int} (i j : Nat) : Mix a b X Y → a ≤ i → i < b → a ≤ j → j < b → Mix a b X (sw Y i j)
section
variable {a b c d : Nat} {X Y Z : List Int}
theorem Mix.len (h : Mix a b X Y) : Y.length = X.length ∧ b ≤ X.length := by
  induction h with
  | refl h => exact ⟨rfl, h⟩
  | sw i j _ _ _ _ _ ih => exact ⟨by rw [sw_len]; exact ih.1, ih.2⟩
theorem Mix.perm (h : Mix a b X Y) : Y.Perm X := by
  induction h with
  | refl h => exact List.Perm.refl _
  | sw i j h _ _ _ _ ih =>
    have := h.len
    exact (sw_perm (by omega) (by omega)).trans ih
theorem Mix.out (h : Mix a b X Y) {k : Nat} (hk : k < a ∨ b ≤ k) : ix Y k = ix X k := by
  induction h with
  | refl h => rfl
  | sw i j h _ _ _ _ ih =>
    have := h.len
    rw [ix_sw (by omega) (by omega), if_neg (by omega), if_neg (by omega)]
    exact ih
theorem Mix.all (h : Mix a b X Y) {p : Int → Prop} (hp : ∀ k, a ≤ k → k < b → p (ix X k)) : ∀ k, a ≤ k → k < b → p (ix Y k) := by
  induction h with
  | refl h => exact hp
  | sw i j h _ _ _ _ ih =>
    intro k h1 h2
    have := h.len
    rw [ix_sw (by omega) (by omega)]
    split
    · exact ih _ (by omega) (by omega)
    · split
      · exact ih _ (by omega) (by omega)
      · exact ih _ h1 h2
theorem Mix.trans (h : Mix a b X Y) (k : Mix a b Y Z) : Mix a b X Z := by
  induction k with
  | refl _ => exact h
  | sw i j _ h1 h2 h3 h4 ih => exact ih.sw i j h1 h2 h3 h4
theorem Mix.wide (h : Mix a b X Y) (ha : c ≤ a) (hb : b ≤ d) (hd : d ≤ X.length) : Mix c d X Y := by
  induction h with
  | refl _ => exact .refl hd
  | sw i j _ h1 h2 h3 h4 ih => exact ih.sw i j (by omega) (by omega) (by omega) (by omega)
end
/-- Sorted within [a, b). -/
def Srt (X : List Int) (a b : Nat) : Prop := ∀ i j, a ≤ i → i < j → j < b → ix X i ≤ ix X j
/-! #### insertion -/
/-- Sorted within [a, i], but for what stands at j. -/
def Ins (X : List Int) (a i j : Nat) : Prop := a ≤ j ∧ j ≤ i ∧ ∀ p q, a ≤ p → p < q → q ≤ i → q ≠ j → ix X p ≤ ix X q
theorem Ins.start {X : List Int} {a i : Nat} (h : Srt X a i) (ha : a ≤ i) : Ins X a i i := ⟨ha, Nat.le_refl _, fun p q h1 h2 h3 h4 => h p q h1 h2 (by omega)⟩
theorem Ins.done {X : List Int} {a i j : Nat} (h : Ins X a i j) (hj : j = a ∨ ix X (j - 1) ≤ ix X j) : Srt X a (i + 1) := by
  obtain ⟨h1, h2, h3⟩ := h
  intro p q hp hq hi
  by_cases hqj : q = j
  · subst hqj
    rcases hj with hj | hj
    · omega
    · rcases Nat.lt_or_ge p (q - 1) with hl | hl
      · exact Int.le_trans (h3 p (q - 1) hp hl (by omega) (by omega)) hj
      · rw [show p = q - 1 by omega]; exact hj
  · exact h3 p q hp hq (by omega) hqj
theorem Ins.step {X : List Int} {a i j : Nat} (h : Ins X a i j) (hi : i < X.length) (hj : a < j) (hl : ix X j < ix X (j - 1)) : Ins (sw X j (j - 1)) a i (j - 1) := by
  obtain ⟨h1, h2, h3⟩ := h
  refine ⟨by omega, by omega, fun p q hp hq hqi hqj => ?_⟩
  rw [ix_sw (by omega) (by omega), ix_sw (by omega) (by omega)]
  by_cases e1 : q = j
  · subst e1
    rw [if_neg hqj, if_pos rfl]
    by_cases e2 : p = q - 1
    · rw [if_pos e2]; omega
    · rw [if_neg e2, if_neg (by omega)]
      exact h3 p (q - 1) hp (by omega) (by omega) (by omega)
  · rw [if_neg hqj, if_neg e1]
    by_cases e2 : p = j - 1
    · rw [if_pos e2]
      exact h3 j q (by omega) (by omega) hqi e1
    · rw [if_neg e2]
      by_cases e3 : p = j
      · rw [if_pos e3]; exact h3 (j - 1) q (by omega) (by omega) hqi e1
      · rw [if_neg e3]; exact h3 p q hp hq hqi e1
theorem srt_one (X : List Int) (a b : Nat) (h : b ≤ a + 1) : Srt X a b := fun i j h1 h2 h3 => by omega
/-! #### heaps -/
def Heap (X : List Int) (f lo hi : Nat) : Prop := ∀ i c, lo ≤ i → (c = 2 * i + 1 ∨ c = 2 * i + 2) → c < hi → ix X (f + c) ≤ ix X (f + i)
/-- A heap but at one root; what lies below that root is not above what lies over it. -/
structure Sift (X : List Int) (f lo hi r : Nat) : Prop where
  low : lo ≤ r
  heap : ∀ i c, lo ≤ i → i ≠ r → (c = 2 * i + 1 ∨ c = 2 * i + 2) → c < hi → ix X (f + c) ≤ ix X (f + i)
  over : ∀ i c, lo ≤ i → (r = 2 * i + 1 ∨ r = 2 * i + 2) → (c = 2 * r + 1 ∨ c = 2 * r + 2) → c < hi → ix X (f + c) ≤ ix X (f + i)
section
variable {X : List Int} {f lo hi r c : Nat}
theorem Sift.start (h : Heap X f (lo + 1) hi) : Sift X f lo hi lo :=
  ⟨Nat.le_refl _, fun i c h1 h2 h3 h4 => h i c (by omega) h3 h4, fun i c h1 h2 => by omega⟩
theorem Sift.leaf (h : Sift X f lo hi r) (hr : hi ≤ 2 * r + 1) : Heap X f lo hi := fun i c h1 h2 h3 => by
  by_cases e : i = r
  · omega
  · exact h.heap i c h1 e h2 h3
theorem Sift.stop (h : Sift X f lo hi r) (hc : ∀ c, (c = 2 * r + 1 ∨ c = 2 * r + 2) → c < hi → ix X (f + c) ≤ ix X (f + r)) : Heap X f lo hi := fun i c h1 h2 h3 => by
  by_cases e : i = r
  · subst e; exact hc c h2 h3
  · exact h.heap i c h1 e h2 h3
theorem Sift.down (h : Sift X f lo hi r) (hl : f + hi ≤ X.length) (hc : c = 2 * r + 1 ∨ c = 2 * r + 2) (hch : c < hi) (hb : ∀ d, (d = 2 * r + 1 ∨ d = 2 * r + 2) → d < hi → ix X (f + d) ≤ ix X (f + c)) (hlt : ix X (f + r) < ix X (f + c)) :
    Sift (sw X (f + r) (f + c)) f lo hi c := by
  have hrc : r < c := by omega
  have e : ∀ k, k < hi → ix (sw X (f + r) (f + c)) (f + k) = if k = c then ix X (f + r) else if k = r then ix X (f + c) else ix X (f + k) := fun k hk => by
    rw [ix_sw (by omega) (by omega)]
    by_cases h1 : k = c
    · rw [if_pos (by omega), if_pos h1]
    · rw [if_neg (by omega), if_neg h1]
      by_cases h2 : k = r
      · rw [if_pos (by omega), if_pos h2]
      · rw [if_neg (by omega), if_neg h2]
  refine ⟨by have := h.low; omega, fun i d h1 h2 h3 h4 => ?_, fun i d h1 h2 h3 h4 => ?_⟩
  · rw [e d h4, e i (by omega), if_neg h2]
    by_cases e1 : i = r
    · subst e1
      rw [if_pos rfl]
      by_cases e2 : d = c
      · rw [if_pos e2]; omega
      · rw [if_neg e2, if_neg (by omega)]; exact hb d h3 h4
    · rw [if_neg e1]
      have hd := h.heap i d h1 e1 h3 h4
      by_cases e2 : d = c
      · omega
      · rw [if_neg e2]
        by_cases e3 : d = r
        · rw [if_pos e3]
          subst e3
          exact h.over i c h1 h3 hc hch
        · rw [if_neg e3]; exact hd
  · have e1 : i = r := by omega
    subst e1
    rw [e d h4, e i (by omega), if_neg (by omega), if_neg (by omega), if_neg (by omega), if_pos rfl]
    exact h.heap c d (by have := h.low; omega) (by omega) h3 h4
end
theorem heap_top {X : List Int} {f hi : Nat} (h : Heap X f 0 hi) : ∀ k, k < hi → ix X (f + k) ≤ ix X (f + 0) := by
  intro k
  induction k using Nat.strongRecOn with
  | ind k ih =>
    intro hk
    by_cases hz : k = 0
    · subst hz; exact Int.le_refl _
    · exact Int.le_trans (h ((k - 1) / 2) k (by omega) (by omega) hk) (ih ((k - 1) / 2) (by omega) (by omega))
/-- [f, f+i) is a heap; behind it all is sorted, and not below it. -/
structure Pops (X : List Int) (f i n : Nat) : Prop where
  heap : Heap X f 0 i
  srt : Srt X (f + i) (f + n)
  over : ∀ p q, p < i → i ≤ q → q < n → ix X (f + p) ≤ ix X (f + q)
theorem Pops.start {X : List Int} {f n : Nat} (h : Heap X f 0 n) : Pops X f n n := ⟨h, srt_one _ _ _ (by omega), fun p q h1 h2 h3 => by omega⟩
theorem Pops.swap {X : List Int} {f i n : Nat} (h : Pops X f (i + 1) n) (hn : f + n ≤ X.length) (hi : i < n) : Heap (sw X f (f + i)) f (0 + 1) i := by
  intro k c h1 h2 h3
  rw [ix_sw (by omega) (by omega), ix_sw (by omega) (by omega), if_neg (by omega), if_neg (by omega), if_neg (by omega), if_neg (by omega)]
  exact h.heap k c (by omega) h2 (by omega)
theorem Pops.step {X Z : List Int} {f i n : Nat} (h : Pops X f (i + 1) n) (hn : f + n ≤ X.length) (hi : i < n) (hm : Mix f (f + i) (sw X f (f + i)) Z) (hz : Heap Z f 0 i) : Pops Z f i n := by
  have e : ∀ k, k < n → ix (sw X f (f + i)) (f + k) = if k = i then ix X (f + 0) else if k = 0 then ix X (f + i) else ix X (f + k) := fun k hk => by
    rw [ix_sw (by omega) (by omega)]
    by_cases h1 : k = i
    · rw [if_pos (by omega), if_pos h1]; rfl
    · rw [if_neg (by omega), if_neg h1]
      by_cases h2 : k = 0
      · rw [if_pos (by omega), if_pos h2]
      · rw [if_neg (by omega), if_neg h2]
  have top := heap_top h.heap
  have out : ∀ q, i ≤ q → q < n → ix Z (f + q) = if q = i then ix X (f + 0) else ix X (f + q) := fun q h1 h2 => by
    rw [hm.out (.inr (by omega)), e q h2]
    by_cases h3 : q = i
    · rw [if_pos h3, if_pos h3]
    · rw [if_neg h3, if_neg h3, if_neg (by omega)]
  refine ⟨hz, fun p q h1 h2 h3 => ?_, fun p q h1 h2 h3 => ?_⟩
  · rw [show p = f + (p - f) by omega, show q = f + (q - f) by omega, out (p - f) (by omega) (by omega), out (q - f) (by omega) (by omega)]
    rw [if_neg (show ¬ q - f = i by omega)]
    by_cases e1 : p - f = i
    · rw [if_pos e1]; exact h.over 0 (q - f) (by omega) (by omega) (by omega)
    · rw [if_neg e1]
      exact h.srt _ _ (by omega) (by omega) (by omega)
  · rw [out q h2 h3]
    refine hm.all (p := fun x => x ≤ if q = i then ix X (f + 0) else ix X (f + q)) (fun k k1 k2 => ?_) (f + p) (by omega) (by omega)
    have kf : f + (k - f) = k := by omega
    have ek := e (k - f) (by omega)
    rw [kf] at ek
    rw [ek, if_neg (by omega)]
    have tk := top (k - f) (by omega)
    rw [kf] at tk
    by_cases e1 : q = i
    · rw [if_pos e1]
      by_cases e2 : k - f = 0
      · rw [if_pos e2]; exact top i (by omega)
      · rw [if_neg e2]; exact tk
    · rw [if_neg e1]
      by_cases e2 : k - f = 0
      · rw [if_pos e2]; exact h.over i q (by omega) (by omega) h3
      · rw [if_neg e2]
        have := h.over (k - f) q (by omega) (by omega) h3
        rw [kf] at this
        exact this
theorem Pops.done {X : List Int} {f n : Nat} (h : Pops X f 0 n) : Srt X f (f + n) := h.srt
theorem heap_leaves (X : List Int) (f hi : Nat) : Heap X f ((hi - 1) / 2 + 1) hi := fun i c h1 h2 h3 => by omega
/-! #### partition -/
structure Part (X : List Int) (a b i j : Nat) : Prop where
  lo : a < i
  mid : i ≤ j + 1
  hi : j < b
  left : ∀ k, a < k → k < i → ix X k < ix X a
  right : ∀ k, j < k → k < b → ix X a ≤ ix X k
section
variable {X : List Int} {a b i j : Nat}
theorem Part.start (h : a < b) : Part X a b (a + 1) (b - 1) := ⟨by omega, by omega, by omega, fun k h1 h2 => by omega, fun k h1 h2 => by omega⟩
theorem Part.up (h : Part X a b i j) (hij : i ≤ j) (hx : ix X i < ix X a) : Part X a b (i + 1) j :=
  ⟨by have := h.lo; omega, by omega, h.hi, fun k h1 h2 => by
    by_cases e : k = i
    · rw [e]; exact hx
    · exact h.left k h1 (by omega), h.right⟩
theorem Part.dn (h : Part X a b i j) (hij : i ≤ j) (hx : ix X a ≤ ix X j) : Part X a b i (j - 1) :=
  ⟨h.lo, by have := h.lo; omega, by have := h.hi; omega, h.left, fun k h1 h2 => by
    by_cases e : k = j
    · rw [e]; exact hx
    · exact h.right k (by omega) h2⟩
theorem Part.swap (h : Part X a b i j) (hb : b ≤ X.length) (hij : i ≤ j) (hi : ix X a ≤ ix X i) (hj : ix X j < ix X a) : Part (sw X i j) a b (i + 1) (j - 1) := by
  have h0 := h.lo
  have h1 := h.hi
  have hne : i ≠ j := fun e => by subst e; omega
  have ea : ix (sw X i j) a = ix X a := by rw [ix_sw (by omega) (by omega), if_neg (by omega), if_neg (by omega)]
  refine ⟨by omega, by omega, by omega, fun k k1 k2 => ?_, fun k k1 k2 => ?_⟩
  · rw [ea, ix_sw (by omega) (by omega), if_neg (by omega)]
    by_cases e : k = i
    · rw [if_pos e]; exact hj
    · rw [if_neg e]; exact h.left k k1 (by omega)
  · rw [ea, ix_sw (by omega) (by omega)]
    by_cases e : k = j
    · rw [if_pos e]; exact hi
    · rw [if_neg e, if_neg (by omega)]; exact h.right k (by omega) k2
theorem Part.done (h : Part X a b i j) (hb : b ≤ X.length) (hij : ¬ i ≤ j) : a ≤ j ∧ j < b ∧ (∀ k, a ≤ k → k < j → ix (sw X j a) k < ix (sw X j a) j) ∧ (∀ k, j < k → k < b → ix (sw X j a) j ≤ ix (sw X j a) k) := by
  have h0 := h.lo
  have h1 := h.hi
  have h2 := h.mid
  have hj : ix (sw X j a) j = ix X a := by
    rw [ix_sw (by omega) (by omega)]
    by_cases e : j = a
    · rw [if_pos e, e]
    · rw [if_neg e, if_pos rfl]
  refine ⟨by omega, h1, fun k k1 k2 => ?_, fun k k1 k2 => ?_⟩
  · rw [hj, ix_sw (by omega) (by omega)]
    by_cases e : k = a
    · rw [if_pos e]; exact h.left j (by omega) (by omega)
    · rw [if_neg e, if_neg (by omega)]; exact h.left k (by omega) (by omega)
  · rw [hj, ix_sw (by omega) (by omega), if_neg (by omega), if_neg (by omega)]
    exact h.right k k1 k2
end
structure PartE (v : Int) (X : List Int) (a b i j : Nat) : Prop where
  val : ix X a = v
  lo : a < i
  mid : i ≤ j + 1
  hi : j < b
  left : ∀ k, a ≤ k → k < i → ix X k ≤ ix X a
  right : ∀ k, j < k → k < b → ix X a < ix X k
section
variable {v : Int} {X : List Int} {a b i j : Nat}
theorem PartE.start (h : a < b) (hv : ix X a = v) : PartE v X a b (a + 1) (b - 1) := ⟨hv, by omega, by omega, by omega, fun k h1 h2 => by rw [show k = a by omega]; exact Int.le_refl _, fun k h1 h2 => by omega⟩
theorem PartE.up (h : PartE v X a b i j) (hij : i ≤ j) (hx : ix X i ≤ ix X a) : PartE v X a b (i + 1) j :=
  ⟨h.val, by have := h.lo; omega, by omega, h.hi, fun k h1 h2 => by
    by_cases e : k = i
    · rw [e]; exact hx
    · exact h.left k h1 (by omega), h.right⟩
theorem PartE.dn (h : PartE v X a b i j) (hij : i ≤ j) (hx : ix X a < ix X j) : PartE v X a b i (j - 1) :=
  ⟨h.val, h.lo, by have := h.lo; omega, by have := h.hi; omega, h.left, fun k h1 h2 => by
    by_cases e : k = j
    · rw [e]; exact hx
    · exact h.right k (by omega) h2⟩
theorem PartE.swap (h : PartE v X a b i j) (hb : b ≤ X.length) (hij : i ≤ j) (hi : ix X a < ix X i) (hj : ix X j ≤ ix X a) : PartE v (sw X i j) a b (i + 1) (j - 1) := by
  have h0 := h.lo
  have h1 := h.hi
  have hne : i ≠ j := fun e => by subst e; omega
  have ea : ix (sw X i j) a = ix X a := by rw [ix_sw (by omega) (by omega), if_neg (by omega), if_neg (by omega)]
  refine ⟨ea.trans h.val, by omega, by omega, by omega, fun k k1 k2 => ?_, fun k k1 k2 => ?_⟩
  · rw [ea, ix_sw (by omega) (by omega), if_neg (by omega)]
    by_cases e : k = i
    · rw [if_pos e]; exact hj
    · rw [if_neg e]; exact h.left k k1 (by omega)
  · rw [ea, ix_sw (by omega) (by omega)]
    by_cases e : k = j
    · rw [if_pos e]; exact hi
    · rw [if_neg e, if_neg (by omega)]; exact h.right k (by omega) k2
theorem PartE.done (h : PartE v X a b i j) (hij : ¬ i ≤ j) : ix X a = v ∧ a < i ∧ i ≤ b ∧ (∀ k, a ≤ k → k < i → ix X k ≤ ix X a) ∧ (∀ k, i ≤ k → k < b → ix X a < ix X k) := by
  have h0 := h.lo
  have h1 := h.hi
  have h2 := h.mid
  exact ⟨h.val, h0, by omega, h.left, fun k k1 k2 => h.right k (by omega) k2⟩
end
/-! #### part of an insertion -/
/-- What stands ahead of a is not above what stands in [a, b). -/
def Low (X : List Int) (a b : Nat) : Prop := 0 < a → ∀ k, a ≤ k → k < b → ix X (a - 1) ≤ ix X k
theorem Low.mix {X Y : List Int} {a b : Nat} (h : Low X a b) (m : Mix a b X Y) : Low Y a b := fun ha k h1 h2 => by
  rw [m.out (.inl (by omega))]
  exact m.all (p := fun x => ix X (a - 1) ≤ x) (h ha) k h1 h2
theorem Low.less {X : List Int} {a b c : Nat} (h : Low X a b) (hc : c ≤ b) : Low X a c := fun ha k h1 h2 => h ha k h1 (by omega)
/-- Behind the swap at i. -/
theorem part_swap {X : List Int} {a b i : Nat} (h : Srt X a i) (hb : b ≤ X.length) (ha : a < i) (hi : i < b) (hx : ix X i < ix X (i - 1)) : Ins (sw X i (i - 1)) a (i - 1) (i - 1) ∧ ∀ k, a ≤ k → k < i → ix (sw X i (i - 1)) k ≤ ix (sw X i (i - 1)) i := by
  have e : ∀ k, k < b → ix (sw X i (i - 1)) k = if k = i - 1 then ix X i else if k = i then ix X (i - 1) else ix X k := fun k hk => ix_sw (by omega) (by omega) k
  refine ⟨⟨by omega, Nat.le_refl _, fun p q h1 h2 h3 h4 => ?_⟩, fun k h1 h2 => ?_⟩
  · rw [e p (by omega), e q (by omega), if_neg (by omega), if_neg (by omega), if_neg (by omega), if_neg (by omega)]
    exact h p q h1 h2 (by omega)
  · rw [e k (by omega), e i hi, if_neg (show ¬ i = i - 1 by omega), if_pos rfl]
    by_cases e1 : k = i - 1
    · rw [if_pos e1]; omega
    · rw [if_neg e1, if_neg (by omega)]
      exact h k (i - 1) h1 (by omega) (by omega)
theorem srt_top {X : List Int} {a i : Nat} (h : Srt X a i) (ht : ∀ k, a ≤ k → k < i → ix X k ≤ ix X i) : Srt X a (i + 1) := fun p q h1 h2 h3 => by
  by_cases e : q = i
  · subst e; exact ht p h1 h2
  · exact h p q h1 h2 (by omega)
theorem Srt.less {X : List Int} {a b c d : Nat} (h : Srt X a b) (h1 : a ≤ c) (h2 : d ≤ b) : Srt X c d := fun i j h3 h4 h5 => h i j (by omega) h4 (by omega)
theorem Srt.out {X Y : List Int} {a b c d : Nat} (h : Srt X a b) (m : Mix c d X Y) (ho : b ≤ c ∨ d ≤ a) : Srt Y a b := fun i j h1 h2 h3 => by
  rw [m.out (by omega), m.out (by omega)]
  exact h i j h1 h2 h3
/-! #### quicksort -/
structure Quick (X : List Int) (a0 b0 : Nat) (Y : List Int) (a b : Nat) : Prop where
  mix : Mix a0 b0 X Y
  lo : a0 ≤ a
  mid : a ≤ b
  hi : b ≤ b0
  left : Srt Y a0 a
  right : Srt Y b b0
  leftMid : ∀ p q, a0 ≤ p → p < a → a ≤ q → q < b → ix Y p ≤ ix Y q
  midRight : ∀ p q, a ≤ p → p < b → b ≤ q → q < b0 → ix Y p ≤ ix Y q
  leftRight : ∀ p q, a0 ≤ p → p < a → b ≤ q → q < b0 → ix Y p ≤ ix Y q
  low : Low Y a b
section
variable {X Y Z : List Int} {a0 b0 a b m : Nat}
theorem Quick.start (h : Low X a b) (hab : a ≤ b) (hb : b ≤ X.length) : Quick X a b X a b :=
  ⟨.refl hb, Nat.le_refl _, hab, Nat.le_refl _, srt_one _ _ _ (by omega), srt_one _ _ _ (by omega), fun p q h1 h2 => by omega, fun p q h1 h2 h3 h4 => by omega, fun p q h1 h2 => by omega, h⟩
theorem Quick.mixed (h : Quick X a0 b0 Y a b) (k : Mix a b Y Z) : Quick X a0 b0 Z a b :=
  ⟨h.mix.trans (k.wide h.lo h.hi (by have := h.mix.len; omega)), h.lo, h.mid, h.hi, h.left.out k (.inl (Nat.le_refl _)), h.right.out k (.inr (Nat.le_refl _)),
    fun p q h1 h2 h3 h4 => by
      rw [k.out (.inl (by omega))]
      exact k.all (p := fun x => ix Y p ≤ x) (fun q h5 h6 => h.leftMid p q h1 h2 h5 h6) q h3 h4,
    fun p q h1 h2 h3 h4 => by
      rw [k.out (k := q) (.inr (by omega))]
      exact k.all (p := fun x => x ≤ ix Y q) (fun p h5 h6 => h.midRight p q h5 h6 h3 h4) p h1 h2,
    fun p q h1 h2 h3 h4 => by
      have := h.mid
      rw [k.out (.inl (by omega)), k.out (.inr (by omega))]
      exact h.leftRight p q h1 h2 h3 h4, h.low.mix k⟩
theorem Quick.done (h : Quick X a0 b0 Y a b) (k : Srt Y a b) : Srt Y a0 b0 := by
  intro i j h1 h2 h3
  have := h.mid
  rcases Nat.lt_or_ge i a with i1 | i1
  · rcases Nat.lt_or_ge j a with j1 | j1
    · exact h.left i j h1 h2 j1
    · rcases Nat.lt_or_ge j b with j2 | j2
      · exact h.leftMid i j h1 i1 j1 j2
      · exact h.leftRight i j h1 i1 j2 h3
  · rcases Nat.lt_or_ge i b with i2 | i2
    · rcases Nat.lt_or_ge j b with j2 | j2
      · exact k i j i1 h2 j2
      · exact h.midRight i j i1 i2 j2 h3
    · exact h.right i j i2 h2 h3
/-- The left of m is done. -/
theorem Quick.toRight (h : Quick X a0 b0 Y a b) (h1 : a ≤ m) (h2 : m ≤ b) (hs : Srt Y a m) (hm : ∀ p q, a ≤ p → p < m → m ≤ q → q < b → ix Y p ≤ ix Y q) (hlow : Low Y m b) : Quick X a0 b0 Y m b := by
  have hlo := h.lo
  refine ⟨h.mix, by omega, h2, h.hi, fun p q k1 k2 k3 => ?_, h.right, fun p q k1 k2 k3 k4 => ?_, fun p q k1 k2 k3 k4 => h.midRight p q (by omega) k2 k3 k4, fun p q k1 k2 k3 k4 => ?_, hlow⟩
  · rcases Nat.lt_or_ge p a with p1 | p1
    · rcases Nat.lt_or_ge q a with q1 | q1
      · exact h.left p q k1 k2 q1
      · exact h.leftMid p q k1 p1 q1 (by omega)
    · exact hs p q p1 k2 k3
  · rcases Nat.lt_or_ge p a with p1 | p1
    · exact h.leftMid p q k1 p1 (by omega) k4
    · exact hm p q p1 k2 k3 k4
  · rcases Nat.lt_or_ge p a with p1 | p1
    · exact h.leftRight p q k1 p1 k3 k4
    · exact h.midRight p q p1 (by omega) k3 k4
/-- The right of m is done. -/
theorem Quick.toLeft (h : Quick X a0 b0 Y a b) (h1 : a ≤ m) (h2 : m ≤ b) (hs : Srt Y m b) (hm : ∀ p q, a ≤ p → p < m → m ≤ q → q < b → ix Y p ≤ ix Y q) : Quick X a0 b0 Y a m := by
  have hhi := h.hi
  refine ⟨h.mix, h.lo, h1, by omega, h.left, fun p q k1 k2 k3 => ?_, fun p q k1 k2 k3 k4 => h.leftMid p q k1 k2 k3 (by omega), fun p q k1 k2 k3 k4 => ?_, fun p q k1 k2 k3 k4 => ?_, h.low.less h2⟩
  · rcases Nat.lt_or_ge q b with q1 | q1
    · exact hs p q k1 k2 q1
    · rcases Nat.lt_or_ge p b with p1 | p1
      · exact h.midRight p q (by omega) p1 q1 k3
      · exact h.right p q p1 k2 k3
  · rcases Nat.lt_or_ge q b with q1 | q1
    · exact hm p q k1 k2 k3 q1
    · exact h.midRight p q k1 (by omega) q1 k4
  · rcases Nat.lt_or_ge q b with q1 | q1
    · exact h.leftMid p q k1 k2 (by omega) q1
    · exact h.leftRight p q k1 k2 q1 k4
/-- Behind partitionEqual. -/
theorem Quick.equal (h : Quick X a0 b0 Y a b) (hv : ∀ k, a ≤ k → k < b → ix Y a ≤ ix Y k) (h1 : a < m) (h2 : m ≤ b) (hl : ∀ k, a ≤ k → k < m → ix Y k ≤ ix Y a) (hr : ∀ k, m ≤ k → k < b → ix Y a < ix Y k) : Quick X a0 b0 Y m b := by
  have he : ∀ k, a ≤ k → k < m → ix Y k = ix Y a := fun k k1 k2 => Int.le_antisymm (hl k k1 k2) (hv k k1 (by omega))
  refine h.toRight (by omega) h2 (fun p q k1 k2 k3 => ?_) (fun p q k1 k2 k3 k4 => ?_) (fun _ k k1 k2 => ?_)
  · rw [he p k1 (by omega), he q (by omega) k3]; exact Int.le_refl _
  · rw [he p k1 k2]; exact Int.le_of_lt (hr q k3 k4)
  · rw [he (m - 1) (by omega) (by omega)]; exact Int.le_of_lt (hr k k1 k2)
/-- Behind partition and the left part. -/
theorem Quick.partLeft (h : Quick X a0 b0 Y a b) (h1 : a ≤ m) (h2 : m < b) (hl : ∀ k, a ≤ k → k < m → ix Y k < ix Y m) (hr : ∀ k, m < k → k < b → ix Y m ≤ ix Y k) (k : Mix a m Y Z) (hs : Srt Z a m) : Quick X a0 b0 Z (m + 1) b := by
  have hz := h.mixed (k.wide (Nat.le_refl a) (Nat.le_of_lt h2) (by have := h.mix.len; have := h.hi; omega))
  have el : ∀ p, a ≤ p → p < m → ix Z p ≤ ix Y m := k.all (p := fun x => x ≤ ix Y m) (fun p h3 h4 => Int.le_of_lt (hl p h3 h4))
  have em : ∀ q, m ≤ q → ix Z q = ix Y q := fun q hq => k.out (.inr hq)
  refine hz.toRight (by omega) (by omega) (srt_top hs fun p p1 p2 => by rw [em m (Nat.le_refl _)]; exact el p p1 p2) (fun p q k1 k2 k3 k4 => ?_) (fun _ q k1 k2 => ?_)
  · rw [em q (by omega)]
    rcases Nat.lt_or_ge p m with p1 | p1
    · exact Int.le_trans (el p k1 p1) (hr q (by omega) k4)
    · rw [show p = m by omega, em m (Nat.le_refl _)]; exact hr q (by omega) k4
  · rw [em q (by omega), Nat.add_sub_cancel, em m (Nat.le_refl _)]; exact hr q (by omega) k2
/-- Behind partition and the right part. -/
theorem Quick.partRight (h : Quick X a0 b0 Y a b) (h1 : a ≤ m) (h2 : m < b) (hl : ∀ k, a ≤ k → k < m → ix Y k < ix Y m) (hr : ∀ k, m < k → k < b → ix Y m ≤ ix Y k) (k : Mix (m + 1) b Y Z) (hs : Srt Z (m + 1) b) : Quick X a0 b0 Z a m := by
  have hz := h.mixed (k.wide (show a ≤ m + 1 by omega) (Nat.le_refl b) (by have := h.mix.len; have := h.hi; omega))
  have er : ∀ q, m + 1 ≤ q → q < b → ix Y m ≤ ix Z q := k.all (p := fun x => ix Y m ≤ x) (fun q h3 h4 => hr q (by omega) h4)
  have em : ∀ q, q ≤ m → ix Z q = ix Y q := fun q hq => k.out (.inl (by omega))
  refine hz.toLeft h1 (Nat.le_of_lt h2) (fun p q k1 k2 k3 => ?_) (fun p q k1 k2 k3 k4 => ?_)
  · rcases Nat.lt_or_ge m p with p1 | p1
    · exact hs p q (by omega) k2 k3
    · rw [show p = m by omega, em m (Nat.le_refl _)]; exact er q (by omega) k3
  · rw [em p (by omega)]
    rcases Nat.lt_or_ge m q with q1 | q1
    · exact Int.le_trans (Int.le_of_lt (hl p k1 k2)) (er q (by omega) k4)
    · rw [show q = m by omega, em m (Nat.le_refl _)]; exact Int.le_of_lt (hl p k1 k2)
theorem low_right (hr : ∀ k, m < k → k < b → ix Y m ≤ ix Y k) : Low Y (m + 1) b := fun _ k k1 k2 => by
  rw [Nat.add_sub_cancel]; exact hr k (by omega) k2
end

end Go.Proofs.YtkemmffdiclloaaGreatDoor
