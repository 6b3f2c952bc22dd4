/- Plain functions on bytes: what rec's functions compute, with no program in sight. -/
import Derived.Test.YtmbmfhpdajdpfaaNum
namespace Go.Proofs.Ytmbmfhpdajdpfaa

/-- Bytes as a number, the highest first. -/
def unB (bs : List UInt8) : Nat := bs.foldl (fun n c => n * 256 + c.toNat) 0

theorem unB_snoc (bs : List UInt8) (c : UInt8) : unB (bs ++ [c]) = unB bs * 256 + c.toNat := by simp [unB]

theorem unB_from (bs : List UInt8) : ∀ n, bs.foldl (fun n c => n * 256 + c.toNat) n < (n + 1) * 256 ^ bs.length := by
  induction bs with
  | nil => intro n; simp
  | cons c l ih =>
    intro n
    have h := ih (n * 256 + c.toNat)
    have hc := c.toNat_lt
    have h2 : (n * 256 + c.toNat + 1) * 256 ^ l.length ≤ ((n + 1) * 256) * 256 ^ l.length := Nat.mul_le_mul_right _ (by omega)
    simp only [List.foldl_cons, List.length_cons, Nat.pow_succ]
    rw [Nat.mul_comm (256 ^ l.length) 256, ← Nat.mul_assoc]
    omega
theorem unB_lt (bs : List UInt8) : unB bs < 256 ^ bs.length := by
  have := unB_from bs 0
  simpa [unB] using this
theorem unB_lt64 (bs : List UInt8) (h : bs.length ≤ 8) : unB bs < 18446744073709551616 :=
  Nat.lt_of_lt_of_le (unB_lt bs) (Nat.pow_le_pow_right (by omega) h)
theorem unB_take (bs : List UInt8) (k : Nat) (h : k < bs.length) : unB (bs.take (k + 1)) = unB (bs.take k) * 256 + bs[k].toNat := by
  rw [List.take_succ_eq_append_getElem h, unB_snoc]

/-- What is read of a number's bytes is the number. -/
theorem unB_numB_from (N : Nat) : ∀ (k n : Nat), (numB N k).foldl (fun n c => n * 256 + c.toNat) n = n * 256 ^ k + N % 256 ^ k := by
  intro k
  induction k with
  | zero => intro n; simp [numB, Nat.mod_one]
  | succ k ih =>
    intro n
    simp only [numB, List.foldl_cons, ih, UInt8.toNat_ofNat']
    have e : N % (256 ^ k * 256) = N % 256 ^ k + 256 ^ k * (N / 256 ^ k % 256) := Nat.mod_mul
    have p : (256 : Nat) ^ (k + 1) = 256 ^ k * 256 := Nat.pow_succ _ _
    rw [p, e]
    generalize 256 ^ k = x
    generalize N / x = y
    rw [show (2 : Nat) ^ 8 = 256 from rfl, Nat.add_mul, Nat.mul_assoc, Nat.mul_comm 256 x, Nat.mul_comm (y % 256) x]
    omega
theorem unB_numB (N k : Nat) : unB (numB N k) = N % 256 ^ k := by
  have := unB_numB_from N k 0
  simpa [unB] using this

/-- A record. -/
def recB (gen : Nat) (body : List UInt8) : List UInt8 := 165 :: (numB gen 8 ++ numB body.length 3 ++ body ++ [90])
theorem recB_len (gen : Nat) (body : List UInt8) : (recB gen body).length = body.length + 13 := by simp [recB, numB_len]; omega

/-- The record at the front. -/
def oneR (gen : Nat) (bs : List UInt8) : Option (List UInt8) :=
  if bs.length ≤ 12 then none
  else if bs[0]? ≠ some 165 then none
  else if unB ((bs.drop 1).take 8) ≠ gen then none
  else if 400000 < unB ((bs.drop 9).take 3) then none
  else if bs.length - 12 ≤ unB ((bs.drop 9).take 3) then none
  else if (bs.drop 12)[unB ((bs.drop 9).take 3)]? ≠ some 90 then none
  else some ((bs.drop 12).take (unB ((bs.drop 9).take 3)))
theorem oneR_len {gen : Nat} {bs body : List UInt8} (h : oneR gen bs = some body) : body.length + 13 ≤ bs.length ∧ body.length ≤ 400000 := by
  unfold oneR at h
  repeat (split at h; · cases h)
  injection h with h
  subst h
  rw [List.length_take, List.length_drop]
  omega

/-- The records at the front, and where they end. -/
def scanR (gen : Nat) : Nat → List UInt8 → List (List UInt8) × Nat
  | 0, _ => ([], 0)
  | k + 1, bs => match oneR gen bs with
    | none => ([], 0)
    | some body => (body :: (scanR gen k (bs.drop (body.length + 13))).1, body.length + 13 + (scanR gen k (bs.drop (body.length + 13))).2)
theorem scanR_more (gen : Nat) : ∀ (k m : Nat) (bs : List UInt8), bs.length ≤ k → bs.length ≤ m → scanR gen k bs = scanR gen m bs := by
  intro k
  induction k with
  | zero =>
    intro m bs h _
    have h0 : bs = [] := List.eq_nil_of_length_eq_zero (by omega)
    subst h0
    cases m <;> simp [scanR, oneR]
  | succ k ih =>
    intro m bs h1 h2
    cases m with
    | zero =>
      have h0 : bs = [] := List.eq_nil_of_length_eq_zero (by omega)
      subst h0
      simp [scanR, oneR]
    | succ m =>
      simp only [scanR]
      cases h : oneR gen bs with
      | none => rfl
      | some body =>
        have := (oneR_len h).1
        simp only
        rw [ih m (bs.drop (body.length + 13)) (by rw [List.length_drop]; omega) (by rw [List.length_drop]; omega)]
/-- Scan. -/
def scanA (gen : Nat) (bs : List UInt8) : List (List UInt8) × Nat := if gen < 1 ∨ 4611686018427387904 < gen then ([], 0) else scanR gen bs.length bs
theorem scanR_none {gen : Nat} {bs : List UInt8} (h : oneR gen bs = none) : scanR gen bs.length bs = ([], 0) := by
  cases hb : bs.length <;> simp [scanR, h]
theorem scanR_some {gen : Nat} {bs body : List UInt8} (h : oneR gen bs = some body) :
    scanR gen bs.length bs = (body :: (scanR gen (bs.drop (body.length + 13)).length (bs.drop (body.length + 13))).1, body.length + 13 + (scanR gen (bs.drop (body.length + 13)).length (bs.drop (body.length + 13))).2) := by
  have hl := (oneR_len h).1
  obtain ⟨m, hm⟩ : ∃ m, bs.length = m + 1 := ⟨bs.length - 1, by omega⟩
  rw [hm]
  simp only [scanR, h]
  rw [scanR_more gen m (bs.drop (body.length + 13)).length _ (by rw [List.length_drop]; omega) (Nat.le_refl _)]
end Go.Proofs.Ytmbmfhpdajdpfaa
