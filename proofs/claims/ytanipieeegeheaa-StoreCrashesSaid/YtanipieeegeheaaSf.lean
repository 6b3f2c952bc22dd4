/- Joined for this seat from: XSnap. -/
import Derived.Test.YtanipieeegeheaaSe
namespace Go.Proofs.Ytanipieeegeheaa
structure Sn where
  gen : Nat
  u : Nat
  pts : List Pt
def Sn.bytes (s : Sn) : List UInt8 := numB s.gen 8 ++ (numB s.u 8 ++ (numB s.pts.length 4 ++ ptsB s.pts))
def Sn.ok (s : Sn) : Bool := decide (1 ≤ s.gen) && decide (s.gen ≤ 4611686018427387904) && decide (s.u ≤ 4611686018427387904) && decide (mayP s.pts = 0)
theorem Sn.len (s : Sn) : s.bytes.length = 20 + 16 * s.pts.length := by
  simp only [Sn.bytes, List.length_append, numB_len, ptsB_len]; omega
theorem Sn.ok_iff (s : Sn) : s.ok = true ↔ 1 ≤ s.gen ∧ s.gen ≤ 4611686018427387904 ∧ s.u ≤ 4611686018427387904 ∧ mayP s.pts = 0 := by
  simp [Sn.ok, and_assoc]
def parseS (x : List UInt8) : Option Sn :=
  if (x.length - 20) / 16 < unB ((x.drop 16).take 4) then none else
  match readP ((x.drop 20).take (16 * unB ((x.drop 16).take 4))) with
  | none => none
  | some l => if Sn.ok ⟨unB (x.take 8), unB ((x.drop 8).take 8), l⟩ then some ⟨unB (x.take 8), unB ((x.drop 8).take 8), l⟩ else none
def readS (b : List UInt8) : Option Sn := if b[0]? = some 197 then parseS (b.drop 1) else none
theorem unB_small (n k : Nat) (h : n < 256 ^ k) : unB (numB n k) = n := by rw [unB_numB, Nat.mod_eq_of_lt h]
theorem parse_back (s : Sn) (t : List UInt8) (h : s.ok = true) : parseS (s.bytes ++ t) = some s := by
  obtain ⟨h1, h2, h3, h4⟩ := (Sn.ok_iff s).1 h
  have e8 : (256 : Nat) ^ 8 = 18446744073709551616 := by decide
  have e4 : (256 : Nat) ^ 4 = 4294967296 := by decide
  have hl := (mayP_zero h4).1
  have a0 : (s.bytes ++ t).take 8 = numB s.gen 8 := by
    unfold Sn.bytes
    rw [List.append_assoc, take_len_append _ _ _ (numB_len _ _)]
  have d8 : (s.bytes ++ t).drop 8 = numB s.u 8 ++ (numB s.pts.length 4 ++ (ptsB s.pts ++ t)) := by
    unfold Sn.bytes
    rw [List.append_assoc, drop_len_append _ _ _ (numB_len _ _)]
    simp only [List.append_assoc]
  have a1 : ((s.bytes ++ t).drop 8).take 8 = numB s.u 8 := by rw [d8, take_len_append _ _ _ (numB_len _ _)]
  have d16 : (s.bytes ++ t).drop 16 = numB s.pts.length 4 ++ (ptsB s.pts ++ t) := by
    have : (s.bytes ++ t).drop 16 = ((s.bytes ++ t).drop 8).drop 8 := by rw [List.drop_drop]
    rw [this, d8, drop_len_append _ _ _ (numB_len _ _)]
  have a2 : ((s.bytes ++ t).drop 16).take 4 = numB s.pts.length 4 := by rw [d16, take_len_append _ _ _ (numB_len _ _)]
  have d20 : (s.bytes ++ t).drop 20 = ptsB s.pts ++ t := by
    have : (s.bytes ++ t).drop 20 = ((s.bytes ++ t).drop 16).drop 4 := by rw [List.drop_drop]
    rw [this, d16, drop_len_append _ _ _ (numB_len _ _)]
  have u0 : unB (numB s.gen 8) = s.gen := unB_small _ _ (by omega)
  have u1 : unB (numB s.u 8) = s.u := unB_small _ _ (by omega)
  have u2 : unB (numB s.pts.length 4) = s.pts.length := unB_small _ _ (by omega)
  unfold parseS
  rw [a0, a1, a2, u0, u1, u2, d20, take_len_append _ _ _ (ptsB_len _), readP_back _ h4]
  rw [if_neg (by rw [List.length_append, Sn.len]; omega)]
  have : Sn.ok ⟨s.gen, s.u, s.pts⟩ = true := h
  simp only [this, if_true]
theorem readS_back (s : Sn) (t : List UInt8) (h : s.ok = true) : readS (197 :: (s.bytes ++ t)) = some s := by
  unfold readS
  rw [if_pos (show (197 :: (s.bytes ++ t))[0]? = some (197 : UInt8) by rfl)]
  exact parse_back s t h
theorem readS_zero {b : List UInt8} (h : b[0]? = some 0) : readS b = none := by
  unfold readS
  rw [h, if_neg (by decide)]
theorem parse_ok {x : List UInt8} {s : Sn} (h : parseS x = some s) : s.ok = true := by
  unfold parseS at h
  split at h
  · cases h
  · split at h
    · cases h
    · split at h
      · rw [← Option.some.inj h]; assumption
      · cases h
theorem readS_ok {b : List UInt8} {s : Sn} (h : readS b = some s) : s.ok = true := by
  unfold readS at h
  split at h
  · exact parse_ok h
  · cases h

/-! ### writing in three steps -/
def stepW (d : Dp) (p : Nat) (ys : List UInt8) : Dp × Int := if d.dead then (d, 9) else if (d.write p ys).dead then (d.write p ys, 9) else ((d.write p ys).sync, 0)
def slotW (d : Dp) (p : Nat) (b : List UInt8) : Dp × Int :=
  if (stepW d p [0]).2 ≠ 0 then stepW d p [0] else
  if (stepW (stepW d p [0]).1 (p + 1) b).2 ≠ 0 then stepW (stepW d p [0]).1 (p + 1) b else
  stepW (stepW (stepW d p [0]).1 (p + 1) b).1 p [197]
structure Dp.clean (d : Dp) : Prop where
  waits : d.waits = []
  same : d.lasts = d.now
theorem Dp.clean_crash (d : Dp) (keep : Int) : (d.crash keep).clean := ⟨rfl, rfl⟩
theorem Dp.clean_new (n : Int) : (Dp.new n).clean := ⟨rfl, rfl⟩
theorem Dp.write_now (d : Dp) (p : Nat) (ys : List UInt8) : (d.write p ys).now = splice d.now p ys := rfl
theorem Dp.sync_now (d : Dp) : d.sync.now = d.now := d.called_now
theorem Dp.sync_clean (d : Dp) : d.sync.clean := ⟨rfl, (d.sync_now).symm⟩
theorem crash_nil (d : Dp) (keep : Int) (h : d.waits = []) : (d.crash keep).now = d.lasts := by
  show crashB d.lasts keep.toNat d.waits = d.lasts
  rw [h]; rfl
/-- One step on a clean disk. -/
theorem step_cases {d : Dp} (hc : d.clean) (p : Nat) (ys : List UInt8) :
    ((stepW d p ys).2 = 0 ∧ (stepW d p ys).1.clean ∧ (stepW d p ys).1.now = splice d.now p ys ∧ d.dead = false) ∨
    ((stepW d p ys).2 = 9 ∧ ∀ keep : Int, ((stepW d p ys).1.crash keep).now = splice d.now p (ys.take (if d.dead then 0 else keep.toNat))) := by
  unfold stepW
  cases hd : d.dead with
  | true =>
    refine .inr ⟨rfl, fun keep => ?_⟩
    simp only [if_true]
    rw [crash_nil _ _ hc.waits, hc.same, List.take_zero, splice_nil]
  | false =>
    simp only [Bool.false_eq_true, if_false]
    cases hw : (d.write p ys).dead with
    | true =>
      refine .inr ⟨rfl, fun keep => ?_⟩
      simp only [if_true]
      show crashB (d.write p ys).lasts keep.toNat (d.write p ys).waits = _
      have hwa : (d.write p ys).waits = [(p, ys)] := by show d.waits ++ [(p, ys)] = _; rw [hc.waits]; rfl
      have hla : (d.write p ys).lasts = d.now := by show d.called.lasts = _; rw [Dp.called_lasts, hc.same]
      rw [hwa, hla, crash_one]
    | false =>
      simp only [Bool.false_eq_true, if_false]
      exact .inl ⟨trivial, Dp.sync_clean _, by rw [Dp.sync_now, Dp.write_now], trivial⟩
theorem splice_again {α : Type} (l : List α) (p : Nat) (x y : α) (ys : List α) (h : p + 1 + ys.length ≤ l.length) : splice (splice l p (x :: ys)) p [y] = splice l p (y :: ys) := by
  have ht : (l.take p).length = p := by rw [List.length_take]; omega
  have e : splice l p (x :: ys) = l.take p ++ (x :: (ys ++ l.drop (p + (ys.length + 1)))) := by simp [splice]
  have e2 : splice l p (y :: ys) = l.take p ++ (y :: (ys ++ l.drop (p + (ys.length + 1)))) := by simp [splice]
  rw [e2, e]
  show (l.take p ++ (x :: (ys ++ l.drop (p + (ys.length + 1))))).take p ++ ([y] ++ (l.take p ++ (x :: (ys ++ l.drop (p + (ys.length + 1))))).drop (p + 1)) = _
  rw [List.take_left' ht, List.drop_append, ht, List.drop_of_length_le (by omega), show p + 1 - p = 1 by omega]
  rfl
theorem splice_get_out {α : Type} (l : List α) (p j : Nat) (ys : List α) (hl : p + ys.length ≤ l.length) (h : j < p ∨ p + ys.length ≤ j) : (splice l p ys)[j]? = l[j]? := by
  unfold splice
  have ht : (l.take p).length = p := by rw [List.length_take]; omega
  rcases h with h | h
  · rw [List.getElem?_append_left (by omega), List.getElem?_take, if_pos h]
  · rw [List.getElem?_append_right (by omega), ht, List.getElem?_append_right (by omega), List.getElem?_drop]
    congr 1; omega
theorem splice_get_in {α : Type} (l : List α) (p j : Nat) (ys : List α) (hl : p ≤ l.length) (h1 : p ≤ j) (h2 : j < p + ys.length) : (splice l p ys)[j]? = ys[j - p]? := by
  unfold splice
  have ht : (l.take p).length = p := by rw [List.length_take]; omega
  rw [List.getElem?_append_right (by omega), ht, List.getElem?_append_left (by omega)]
/-- What stands there behind a writing that was cut, or was not. -/
inductive Cut3 (l : List UInt8) (p : Nat) (b : List UInt8) : List UInt8 → Prop
  | old : Cut3 l p b l
  | part (k : Nat) : Cut3 l p b (splice l p (0 :: b.take k))
  | new : Cut3 l p b (splice l p (197 :: b))
theorem slot_cases {d : Dp} (hc : d.clean) (p : Nat) (b : List UInt8) (hl : p + 1 + b.length ≤ d.now.length) :
    ((slotW d p b).2 = 0 ∧ (slotW d p b).1.clean ∧ (slotW d p b).1.now = splice d.now p (197 :: b) ∧ d.dead = false) ∨
    ((slotW d p b).2 = 9 ∧ ∀ keep : Int, Cut3 d.now p b ((slotW d p b).1.crash keep).now) := by
  unfold slotW
  have hs1 : ∀ k, splice d.now p ([(0 : UInt8)].take k) = d.now ∨ splice d.now p ([(0 : UInt8)].take k) = splice d.now p (0 :: b.take 0) := by
    intro k
    cases k with
    | zero => left; rw [List.take_zero, splice_nil]
    | succ k => right; simp
  rcases step_cases hc p [0] with ⟨e1, c1, n1, hd⟩ | ⟨e1, h1⟩
  · rw [e1]
    simp only [ne_eq, not_true, if_false]
    rcases step_cases c1 (p + 1) b with ⟨e2, c2, n2, _⟩ | ⟨e2, h2⟩
    · rw [e2]
      simp only [not_true, if_false]
      have n2' : (stepW (stepW d p [0]).1 (p + 1) b).1.now = splice d.now p (0 :: b) := by
        rw [n2, n1, splice_cons _ _ _ _ hl]
      rcases step_cases c2 p [197] with ⟨e3, c3, n3, _⟩ | ⟨e3, h3⟩
      · exact .inl ⟨e3, c3, by rw [n3, n2', splice_again _ _ _ _ _ hl], hd⟩
      · refine .inr ⟨e3, fun keep => ?_⟩
        rw [h3, n2']
        generalize (if (stepW (stepW d p [0]).1 (p + 1) b).1.dead = true then 0 else keep.toNat) = k
        cases k with
        | zero =>
          rw [List.take_zero, splice_nil]
          have := Cut3.part (l := d.now) (p := p) (b := b) b.length
          rwa [List.take_length] at this
        | succ k =>
          have : [(197 : UInt8)].take (k + 1) = [197] := by simp
          rw [this, splice_again _ _ _ _ _ hl]
          exact .new
    · rw [if_pos (by rw [e2]; decide)]
      refine .inr ⟨e2, fun keep => ?_⟩
      rw [h2, n1, splice_cons _ _ _ _ (by rw [List.length_take]; omega)]
      exact .part _
  · rw [if_pos (by rw [e1]; decide)]
    refine .inr ⟨e1, fun keep => ?_⟩
    rw [h1]
    rcases hs1 (if d.dead = true then 0 else keep.toNat) with h | h
    · rw [h]; exact .old
    · rw [h]; exact .part 0
theorem Cut3.len {l b x : List UInt8} {p : Nat} (h : Cut3 l p b x) (hl : p + 1 + b.length ≤ l.length) : x.length = l.length := by
  cases h with
  | old => rfl
  | part k => rw [splice_len _ _ _ (by rw [List.length_cons, List.length_take]; omega)]
  | new => rw [splice_len _ _ _ (by rw [List.length_cons]; omega)]
theorem Cut3.out {l b x : List UInt8} {p j : Nat} (h : Cut3 l p b x) (hl : p + 1 + b.length ≤ l.length) (hj : j < p ∨ p + 1 + b.length ≤ j) : x[j]? = l[j]? := by
  cases h with
  | old => rfl
  | part k => exact splice_get_out _ _ _ _ (by rw [List.length_cons, List.length_take]; omega) (by rw [List.length_cons, List.length_take]; omega)
  | new => exact splice_get_out _ _ _ _ (by rw [List.length_cons]; omega) (by rw [List.length_cons]; omega)
/-- The window of a slot. -/
def winS (l : List UInt8) (p n : Nat) : List UInt8 := (l.drop p).take n
theorem winS_get (l : List UInt8) (p n j : Nat) : (winS l p n)[j]? = if j < n then l[p + j]? else none := by
  unfold winS
  rw [List.getElem?_take]
  split
  · rw [List.getElem?_drop]
  · rfl
theorem winS_ext {l m : List UInt8} {p n : Nat} (h : ∀ j, j < n → l[p + j]? = m[p + j]?) : winS l p n = winS m p n := by
  apply List.ext_getElem?
  intro j
  rw [winS_get, winS_get]
  split
  · exact h j ‹_›
  · rfl
theorem winS_new {l b : List UInt8} {p n : Nat} (hl : p + n ≤ l.length) (hb : b.length + 1 ≤ n) : winS (splice l p (197 :: b)) p n = 197 :: (b ++ (l.drop (p + (b.length + 1))).take (n - (b.length + 1))) := by
  have ht : (l.take p).length = p := by rw [List.length_take]; omega
  unfold winS splice
  rw [List.drop_left' ht, List.length_cons, List.cons_append, List.take_cons (by omega), List.take_append, List.take_of_length_le (l := b) (by omega)]
  congr 3
  omega
theorem cut_read {l x : List UInt8} {p n : Nat} {s : Sn} (h : Cut3 l p s.bytes x) (hs : s.ok = true) (hl : p + n ≤ l.length) (hb : s.bytes.length + 1 ≤ n) :
    readS (winS x p n) = readS (winS l p n) ∨ readS (winS x p n) = none ∨ readS (winS x p n) = some s := by
  cases h with
  | old => exact .inl rfl
  | part k =>
    refine .inr (.inl (readS_zero ?_))
    rw [winS_get, if_pos (by omega), splice_get_in _ _ _ _ (by omega) (by omega) (by rw [List.length_cons]; omega)]
    simp
  | new => exact .inr (.inr (by rw [winS_new hl hb]; exact readS_back s _ hs))
theorem new_read {l : List UInt8} {p n : Nat} {s : Sn} (hs : s.ok = true) (hl : p + n ≤ l.length) (hb : s.bytes.length + 1 ≤ n) : readS (winS (splice l p (197 :: s.bytes)) p n) = some s := by
  rw [winS_new hl hb]; exact readS_back s _ hs

end Go.Proofs.Ytanipieeegeheaa
