/- Plain laws: a beginning of records with zeros behind it scans as those that stand there whole. No program in sight. -/
import Derived.Test.YtmbmfhpdajdpfaaPlainScan
namespace Go.Proofs.Ytmbmfhpdajdpfaa

/-- A beginning, and zeros. -/
def torn (r : List UInt8) (k Z : Nat) : List UInt8 := r.take k ++ List.replicate Z 0

theorem torn_get (r : List UInt8) (k Z i : Nat) (hk : k ≤ r.length) : (torn r k Z).getD i 0 = if i < k then r.getD i 0 else 0 := by
  unfold torn
  simp only [List.getD_eq_getElem?_getD]
  split
  · next h => rw [List.getElem?_append_left (by rw [List.length_take]; omega), List.getElem?_take, if_pos h]
  · next h =>
    rw [List.getElem?_append_right (by rw [List.length_take]; omega), List.getElem?_replicate]
    split <;> rfl
theorem torn_far (r : List UInt8) (k Z i : Nat) (hk : k ≤ r.length) (hi : k ≤ i) : (torn r k Z)[i]? ≠ some 90 := by
  intro h
  have := torn_get r k Z i hk
  rw [if_neg (by omega), List.getD_eq_getElem?_getD, h] at this
  cases this

theorem unB_mono_from : ∀ (a b : List UInt8) (n m : Nat), a.length = b.length → (∀ i, (a.getD i 0).toNat ≤ (b.getD i 0).toNat) → n ≤ m → a.foldl (fun n c => n * 256 + c.toNat) n ≤ b.foldl (fun n c => n * 256 + c.toNat) m
  | [], [], _, _, _, _, h => h
  | x :: a, y :: b, n, m, hl, hp, h => by
    have h0 := hp 0
    simp at h0
    exact unB_mono_from a b _ _ (by simpa using hl) (fun i => by simpa using hp (i + 1)) (show n * 256 + x.toNat ≤ m * 256 + y.toNat by omega)
  | [], _ :: _, _, _, hl, _, _ => by simp at hl
  | _ :: _, [], _, _, hl, _, _ => by simp at hl
theorem unB_mono (a b : List UInt8) (hl : a.length = b.length) (hp : ∀ i, (a.getD i 0).toNat ≤ (b.getD i 0).toNat) : unB a ≤ unB b := unB_mono_from a b 0 0 hl hp (Nat.le_refl _)

theorem getD_part (l : List UInt8) (d t i : Nat) : ((l.drop d).take t).getD i 0 = if i < t then l.getD (d + i) 0 else 0 := by
  simp only [List.getD_eq_getElem?_getD, List.getElem?_take]
  split
  · rw [List.getElem?_drop]
  · rfl

theorem recsB_cat (gen : Nat) (a b : List (List UInt8)) : recsB gen (a ++ b) = recsB gen a ++ recsB gen b := by simp [recsB]
/-- A record that is not whole is none. -/
theorem oneR_torn (gen : Nat) (b rest : List UInt8) (k Z : Nat) (hg : gen < 18446744073709551616) (hb : b.length ≤ 400000) (hk : k < b.length + 13) : oneR gen (torn (recB gen b ++ rest) k Z) = none := by
  have hl : k ≤ (recB gen b ++ rest).length := by rw [List.length_append, recB_len]; omega
  obtain ⟨h1, h2, h3, h4⟩ := recB_front gen b rest hg (by omega)
  cases ho : oneR gen (torn (recB gen b ++ rest) k Z) with
  | none => rfl
  | some body =>
    exfalso
    unfold oneR at ho
    split at ho; · cases ho
    split at ho; · cases ho
    split at ho; · cases ho
    split at ho; · cases ho
    split at ho; · cases ho
    split at ho; · cases ho
    next hx _ _ _ _ h90 =>
    have h90 : ((torn (recB gen b ++ rest) k Z).drop 12)[unB (((torn (recB gen b ++ rest) k Z).drop 9).take 3)]? = some 90 := Classical.byContradiction h90
    rw [List.getElem?_drop] at h90
    refine torn_far _ k Z _ hl ?_ h90
    rcases Nat.lt_or_ge k 12 with hlt | hge
    · omega
    · have : unB (((torn (recB gen b ++ rest) k Z).drop 9).take 3) = b.length := by
        rw [← h3]
        congr 1
        apply List.ext_getElem?
        intro i
        rw [List.getElem?_take, List.getElem?_take]
        split
        · next hi =>
          rw [List.getElem?_drop, List.getElem?_drop]
          unfold torn
          rw [List.getElem?_append_left (by rw [List.length_take]; omega), List.getElem?_take, if_pos (by omega)]
        · rfl
      omega

theorem torn_split (gen : Nat) (l : List (List UInt8)) (n k Z : Nat) (h1 : (recsB gen (l.take n)).length ≤ k) :
    torn (recsB gen l) k Z = recsB gen (l.take n) ++ torn (recsB gen (l.drop n)) (k - (recsB gen (l.take n)).length) Z := by
  have e : recsB gen l = recsB gen (l.take n) ++ recsB gen (l.drop n) := by
    rw [← recsB_cat, List.take_append_drop]
  unfold torn
  rw [e, List.take_append, List.take_of_length_le (by omega), List.append_assoc]

theorem scan_torn (gen : Nat) (l : List (List UInt8)) (n k Z : Nat) (hg : 1 ≤ gen ∧ gen ≤ 4611686018427387904) (hl : ∀ x ∈ l, x.length ≤ 400000) (h1 : (recsB gen (l.take n)).length ≤ k)
    (h2 : n = l.length ∨ k < (recsB gen (l.take (n + 1))).length) : scanA gen (torn (recsB gen l) k Z) = (l.take n, (recsB gen (l.take n)).length) := by
  unfold scanA
  rw [if_neg (by omega), torn_split gen l n k Z h1, scan_recs gen (l.take n) _ (by omega) (fun x hx => hl x (List.mem_of_mem_take hx))]
  have h0 : oneR gen (torn (recsB gen (l.drop n)) (k - (recsB gen (l.take n)).length) Z) = none := by
    rcases Nat.lt_or_ge n l.length with hlt | hge
    · have hd : l.drop n = l[n] :: l.drop (n + 1) := List.drop_eq_getElem_cons hlt
      have hr : recsB gen (l.drop n) = recB gen l[n] ++ recsB gen (l.drop (n + 1)) := by rw [hd]; rfl
      rw [hr]
      refine oneR_torn gen l[n] _ _ Z (by omega) (hl _ (List.getElem_mem _)) ?_
      have ht : l.take (n + 1) = l.take n ++ [l[n]] := List.take_succ_eq_append_getElem hlt
      rcases h2 with h2 | h2
      · omega
      · rw [ht, recsB_snoc, List.length_append, recB_len] at h2
        omega
    · have hd : l.drop n = [] := List.drop_eq_nil_of_le hge
      rw [hd]
      have ht : torn (recsB gen []) (k - (recsB gen (l.take n)).length) Z = List.replicate Z 0 := by simp [torn, recsB]
      rw [ht]
      unfold oneR
      split
      · rfl
      · rw [if_pos]
        rw [List.getElem?_replicate]
        split <;> simp
  rw [scanR_none h0]
  simp

/-- Of the next generation none. -/
theorem scan_torn_next (gen : Nat) (l : List (List UInt8)) (k Z : Nat) (hg : gen < 18446744073709551615) (hl : ∀ x ∈ l, x.length ≤ 400000) (hk : k ≤ (recsB gen l).length) : scanA (gen + 1) (torn (recsB gen l) k Z) = ([], 0) := by
  have h0 : oneR (gen + 1) (torn (recsB gen l) k Z) = none := by
    cases l with
    | nil =>
      have ht : torn (recsB gen []) k Z = List.replicate Z 0 := by simp [torn, recsB]
      rw [ht]
      unfold oneR
      split
      · rfl
      · rw [if_pos]
        rw [List.getElem?_replicate]
        split <;> simp
    | cons b l =>
      have hr : recsB gen (b :: l) = recB gen b ++ recsB gen l := by simp [recsB]
      obtain ⟨h1, h2, h3, h4⟩ := recB_front gen b (recsB gen l) (by omega) (by have := hl b (by simp); omega)
      rw [hr] at hk ⊢
      have hrl : 13 ≤ (recB gen b ++ recsB gen l).length := by rw [List.length_append, recB_len]; omega
      generalize recB gen b ++ recsB gen l = r at *
      unfold oneR
      split
      · rfl
      · next hlen =>
        split
        · rfl
        · rw [if_pos]
          have hle : unB (((torn r k Z).drop 1).take 8) ≤ unB ((r.drop 1).take 8) := by
            apply unB_mono
            · simp only [List.length_take, List.length_drop]
              omega
            · intro i
              rw [getD_part, getD_part]
              split
              · rw [torn_get r k Z _ hk]
                split
                · exact Nat.le_refl _
                · exact Nat.zero_le _
              · exact Nat.le_refl _
          rw [h2] at hle
          omega
  unfold scanA
  split
  · rfl
  · exact scanR_none h0
end Go.Proofs.Ytmbmfhpdajdpfaa
