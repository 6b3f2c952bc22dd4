/- Plain laws on records: what is put one behind the other scans one by one; what is torn scans as what stands there whole. No program in sight. -/
import Derived.Test.YtmbmfhpdajdpfaaText
namespace Go.Proofs.Ytmbmfhpdajdpfaa

theorem recB_front (gen : Nat) (body rest : List UInt8) (hg : gen < 18446744073709551616) (hb : body.length < 16777216) :
    (recB gen body ++ rest)[0]? = some 165 ∧ unB (((recB gen body ++ rest).drop 1).take 8) = gen ∧ unB (((recB gen body ++ rest).drop 9).take 3) = body.length ∧ (recB gen body ++ rest).drop 12 = body ++ (90 :: rest) := by
  have e : recB gen body ++ rest = 165 :: (numB gen 8 ++ (numB body.length 3 ++ (body ++ (90 :: rest)))) := by simp [recB]
  rw [e]
  have l8 : (numB gen 8).length = 8 := numB_len _ _
  have l3 : (numB body.length 3).length = 3 := numB_len _ _
  refine ⟨rfl, ?_, ?_, ?_⟩
  · rw [List.drop_succ_cons, List.drop_zero, List.take_left' l8, unB_numB]
    exact Nat.mod_eq_of_lt (by omega)
  · rw [List.drop_succ_cons, List.drop_left' l8, List.take_left' l3, unB_numB]
    exact Nat.mod_eq_of_lt (by omega)
  · rw [List.drop_succ_cons]
    have : (11 : Nat) = 8 + 3 := rfl
    rw [this, ← List.drop_drop, List.drop_left' l8, List.drop_left' l3]

theorem oneR_rec (gen : Nat) (body rest : List UInt8) (hg : gen < 18446744073709551616) (hb : body.length ≤ 400000) : oneR gen (recB gen body ++ rest) = some body := by
  obtain ⟨h1, h2, h3, h4⟩ := recB_front gen body rest hg (by omega)
  have hl : (recB gen body ++ rest).length = body.length + 13 + rest.length := by rw [List.length_append, recB_len]
  unfold oneR
  rw [if_neg (by omega), if_neg (by rw [h1]; simp), if_neg (by rw [h2]; simp), h3, if_neg (by omega), if_neg (by omega), h4, if_neg, List.take_left' rfl]
  rw [List.getElem?_append_right (Nat.le_refl _)]
  simp

theorem oneR_other (gen gen' : Nat) (body rest : List UInt8) (hg : gen' < 18446744073709551616) (hne : gen' ≠ gen) (hb : body.length ≤ 400000) : oneR gen (recB gen' body ++ rest) = none := by
  obtain ⟨h1, h2, h3, h4⟩ := recB_front gen' body rest hg (by omega)
  unfold oneR
  split
  · rfl
  · rw [if_neg (by rw [h1]; simp), if_pos (by rw [h2]; exact hne)]

theorem scan_recs (gen : Nat) (l : List (List UInt8)) (rest : List UInt8) (hg : gen < 18446744073709551616) (hl : ∀ b ∈ l, b.length ≤ 400000) :
    scanR gen (recsB gen l ++ rest).length (recsB gen l ++ rest) = (l ++ (scanR gen rest.length rest).1, (recsB gen l).length + (scanR gen rest.length rest).2) := by
  induction l with
  | nil => simp [recsB]
  | cons b l ih =>
    have ih := ih (fun x hx => hl x (by simp [hx]))
    have e : recsB gen (b :: l) ++ rest = recB gen b ++ (recsB gen l ++ rest) := by simp [recsB]
    have h1 := oneR_rec gen b (recsB gen l ++ rest) hg (hl b (by simp))
    rw [e, scanR_some h1]
    have hd : (recB gen b ++ (recsB gen l ++ rest)).drop (b.length + 13) = recsB gen l ++ rest := List.drop_left' (recB_len _ _)
    rw [hd, ih]
    simp [recsB, recB_len]
    omega

theorem oneR_nil (gen : Nat) : oneR gen [] = none := by simp [oneR]
theorem scan_other (gen gen' : Nat) (l : List (List UInt8)) (hg : gen' < 18446744073709551616) (hne : gen' ≠ gen) (hl : ∀ b ∈ l, b.length ≤ 400000) :
    scanR gen (recsB gen' l).length (recsB gen' l) = ([], 0) := by
  apply scanR_none
  cases l with
  | nil => exact oneR_nil gen
  | cons b l =>
    have e : recsB gen' (b :: l) = recB gen' b ++ recsB gen' l := by simp [recsB]
    rw [e]
    exact oneR_other gen gen' b _ hg hne (hl b (by simp))

theorem scan_joins (gen gen' : Nat) (a b : List (List UInt8)) (hg : 1 ≤ gen ∧ gen ≤ 4611686018427387904) (hg' : gen' < 18446744073709551616) (hne : gen' ≠ gen) (ha : ∀ x ∈ a, x.length ≤ 400000) (hb : ∀ x ∈ b, x.length ≤ 400000) :
    scanA gen (recsB gen a ++ recsB gen' b) = (a, (recsB gen a).length) := by
  unfold scanA
  rw [if_neg (by omega), scan_recs gen a _ (by omega) ha, scan_other gen gen' b hg' hne hb]
  simp
end Go.Proofs.Ytmbmfhpdajdpfaa
