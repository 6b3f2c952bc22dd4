/- Ops, plainly: what any bytes are as a batch. -/
import Derived.Test.YtmbmfhpdajdpfaaGood
namespace Go.Proofs.Ytmbmfhpdajdpfaa
open Go.RowKit

theorem wrapI32 (n : Int) : IntKind.i32.wrap n = (n + 2147483648) % 4294967296 - 2147483648 := by
  simp [IntKind.wrap, IntKind.bits, IntKind.signed]
  split <;> omega
def unPt (b : List UInt8) : Pt := ⟨(unB (b.take 4) : Nat), (unB ((b.drop 4).take 4) : Nat), (unB ((b.drop 8).take 4) : Nat), IntKind.i32.wrap (unB ((b.drop 12).take 4) : Nat)⟩
def opLen (c : UInt8) : Nat := if c = 1 then 16 else 4
def opAt (c : UInt8) (t : List UInt8) : Oq := ⟨(c.toNat : Int), if c = 1 then unPt t else ⟨(unB (t.take 4) : Nat), 0, 0, 0⟩⟩
def decR : Nat → List UInt8 → Option (List Oq)
  | 0, b => if b = [] then some [] else none
  | k + 1, b => match b with
    | [] => some []
    | c :: t => if t.length < opLen c then none else (decR k (t.drop (opLen c))).map (opAt c t :: ·)
def dec (b : List UInt8) : Option (List Oq) := decR b.length b
theorem opLen_pos (c : UInt8) : 4 ≤ opLen c := by unfold opLen; split <;> omega
theorem decR_more : ∀ (k m : Nat) (b : List UInt8), b.length ≤ k → b.length ≤ m → decR k b = decR m b
  | 0, 0, _, _, _ => rfl
  | 0, m + 1, b, h, _ => by
    have : b = [] := List.eq_nil_of_length_eq_zero (by omega)
    subst this
    rfl
  | k + 1, 0, b, _, h => by
    have : b = [] := List.eq_nil_of_length_eq_zero (by omega)
    subst this
    rfl
  | k + 1, m + 1, [], _, _ => rfl
  | k + 1, m + 1, c :: t, h1, h2 => by
    unfold decR
    split
    · rfl
    · rename_i heq
      injection heq with h3 h4
      subst h3 h4
      simp only [List.length_cons] at h1 h2
      split
      · rfl
      · rw [decR_more k m _ (by rw [List.length_drop]; omega) (by rw [List.length_drop]; omega)]
theorem dec_nil : dec [] = some [] := rfl
theorem dec_short {c : UInt8} {t : List UInt8} (h : t.length < opLen c) : dec (c :: t) = none := by
  unfold dec
  rw [List.length_cons, decR]
  simp [h]
theorem dec_cons {c : UInt8} {t : List UInt8} (h : opLen c ≤ t.length) : dec (c :: t) = (dec (t.drop (opLen c))).map (opAt c t :: ·) := by
  unfold dec
  rw [List.length_cons, decR]
  rw [if_neg (by omega), decR_more t.length (t.drop (opLen c)).length _ (by rw [List.length_drop]; omega) (Nat.le_refl _)]

/-- What Ops answers. -/
def opsD (b : List UInt8) : Option (List Oq) := (dec b).bind fun l => if batE l = 0 then some l else none
/-- So far X, and R is to come. -/
def Dec (b R : List UInt8) (X : List Oq) : Prop := dec b = (dec R).map (X ++ ·)
theorem Dec.start (b : List UInt8) : Dec b b [] := by simp [Dec]
theorem Dec.step {b t : List UInt8} {c : UInt8} {X : List Oq} (h : Dec b (c :: t) X) (hl : opLen c ≤ t.length) : Dec b (t.drop (opLen c)) (X ++ [opAt c t]) := by
  unfold Dec at *
  rw [h, dec_cons hl]
  cases dec (t.drop (opLen c)) <;> simp
theorem Dec.short {b t : List UInt8} {c : UInt8} {X : List Oq} (h : Dec b (c :: t) X) (hl : t.length < opLen c) : opsD b = none := by
  unfold Dec at h
  rw [opsD, h, dec_short hl]
  rfl
theorem Dec.done {b : List UInt8} {X : List Oq} (h : Dec b [] X) : opsD b = if batE X = 0 then some X else none := by
  unfold Dec at h
  rw [opsD, h, dec_nil]
  simp
theorem batE_bad_mem {l : List Oq} {o : Oq} (ho : o ∈ l) (hb : o.ok = false) : batE l ≠ 0 := by
  unfold batE
  split
  · decide
  · rw [if_pos]
    · decide
    · exact .inr (List.any_eq_true.2 ⟨o, ho, by rw [hb]; rfl⟩)
theorem batE_long {l : List Oq} (h : 500 < l.length) : batE l ≠ 0 := by
  unfold batE
  rw [if_pos h]
  decide
theorem Dec.long {b R : List UInt8} {X : List Oq} (h : Dec b R X) (hl : 500 < X.length) : opsD b = none := by
  unfold Dec at h
  rw [opsD, h]
  cases dec R with
  | none => rfl
  | some l =>
    have : batE (X ++ l) ≠ 0 := batE_long (by simp; omega)
    simp [this]
theorem opAt_bad {c : UInt8} (t : List UInt8) (h1 : c ≠ 1) (h2 : c ≠ 2) : (opAt c t).ok = false := by
  have e1 : ¬ ((c.toNat : Int) = 1) := fun h => h1 (UInt8.toNat_inj.1 (by show c.toNat = 1; omega))
  have e2 : ¬ ((c.toNat : Int) = 2) := fun h => h2 (UInt8.toNat_inj.1 (by show c.toNat = 2; omega))
  simp [Oq.ok, opAt, e1, e2]
theorem Dec.kind {b t : List UInt8} {c : UInt8} {X : List Oq} (h : Dec b (c :: t) X) (h1 : c ≠ 1) (h2 : c ≠ 2) : opsD b = none := by
  rcases Nat.lt_or_ge t.length (opLen c) with hl | hl
  · exact h.short hl
  · have h3 := h.step hl
    unfold Dec at h3
    rw [opsD, h3]
    cases dec (t.drop (opLen c)) with
    | none => rfl
    | some l =>
      have : batE (X ++ [opAt c t] ++ l) ≠ 0 := batE_bad_mem (o := opAt c t) (by simp) (opAt_bad t h1 h2)
      simp only [Option.map_some, Option.bind_some, this, if_false]

theorem take_len_append {α : Type _} (a b : List α) (n : Nat) (h : a.length = n) : (a ++ b).take n = a := by subst h; simp
theorem drop_len_append {α : Type _} (a b : List α) (n : Nat) (h : a.length = n) : (a ++ b).drop n = b := by subst h; simp
theorem un_small (k : Int) (h0 : 0 ≤ k) (h1 : k < 4294967296) : ((unB (numB (un k) 4) : Nat) : Int) = k := by
  rw [unB_numB]
  unfold un
  omega
theorem un_neg (k : Int) (h0 : -2147483648 ≤ k) (h1 : k ≤ 2147483647) : IntKind.i32.wrap ((unB (numB (un k) 4) : Nat) : Int) = k := by
  rw [unB_numB, wrapI32]
  unfold un
  omega
theorem pt_parts (p : Pt) (t : List UInt8) : unPt (p.bytes ++ t) = ⟨(unB (numB (un p.key) 4) : Nat), (unB (numB (un p.x) 4) : Nat), (unB (numB (un p.y) 4) : Nat), IntKind.i32.wrap (unB (numB (un p.v) 4) : Nat)⟩ := by
  have hb : p.bytes = numB (un p.key) 4 ++ (numB (un p.x) 4 ++ (numB (un p.y) 4 ++ numB (un p.v) 4)) := by simp [Pt.bytes, numsB, Pt.is]
  have l1 : (numB (un p.key) 4).length = 4 := numB_len _ _
  have l2 : (numB (un p.x) 4).length = 4 := numB_len _ _
  have l3 : (numB (un p.y) 4).length = 4 := numB_len _ _
  have l4 : (numB (un p.v) 4).length = 4 := numB_len _ _
  rw [hb]
  generalize numB (un p.key) 4 = n1 at *
  generalize numB (un p.x) 4 = n2 at *
  generalize numB (un p.y) 4 = n3 at *
  generalize numB (un p.v) 4 = n4 at *
  unfold unPt
  have e1 : (n1 ++ (n2 ++ (n3 ++ n4)) ++ t) = n1 ++ (n2 ++ (n3 ++ (n4 ++ t))) := by simp
  have e2 : (n1 ++ (n2 ++ (n3 ++ (n4 ++ t)))).drop 4 = n2 ++ (n3 ++ (n4 ++ t)) := drop_len_append _ _ _ l1
  have e3 : (n1 ++ (n2 ++ (n3 ++ (n4 ++ t)))).drop 8 = n3 ++ (n4 ++ t) := by
    rw [show n1 ++ (n2 ++ (n3 ++ (n4 ++ t))) = (n1 ++ n2) ++ (n3 ++ (n4 ++ t)) by simp]
    exact drop_len_append _ _ _ (by simp [l1, l2])
  have e4 : (n1 ++ (n2 ++ (n3 ++ (n4 ++ t)))).drop 12 = n4 ++ t := by
    rw [show n1 ++ (n2 ++ (n3 ++ (n4 ++ t))) = (n1 ++ n2 ++ n3) ++ (n4 ++ t) by simp]
    exact drop_len_append _ _ _ (by simp [l1, l2, l3])
  rw [e1, e2, e3, e4, take_len_append _ _ _ l1, take_len_append _ _ _ l2, take_len_append _ _ _ l3, take_len_append _ _ _ l4]
theorem op_back (o : Oq) (t : List UInt8) (h : o.ok = true) : ∃ c r, o.bytes ++ t = c :: r ∧ opLen c ≤ r.length ∧ opAt c r = o ∧ r.drop (opLen c) = t := by
  obtain ⟨kd, p⟩ := o
  unfold Oq.ok at h
  split at h
  · rename_i hk
    simp only at hk h
    subst hk
    have hp : p.bytes.length = 16 := by simp [Pt.bytes, numsB, Pt.is, numB_len]
    have h16 : opLen 1 = 16 := rfl
    refine ⟨1, p.bytes ++ t, ?_, ?_, ?_, ?_⟩
    · have : UInt8.ofNat (un 1) = 1 := rfl
      simp [Oq.bytes, this]
    · rw [h16, List.length_append]; omega
    · simp only [Pt.ok, keyOk, inOk, Bool.and_eq_true, decide_eq_true_eq] at h
      obtain ⟨k, x, y, v⟩ := p
      simp only at h
      have hu := pt_parts ⟨k, x, y, v⟩ t
      simp only at hu
      rw [un_small k (by omega) (by omega), un_small x (by omega) (by omega), un_small y (by omega) (by omega), un_neg v (by omega) (by omega)] at hu
      unfold opAt
      rw [if_pos rfl, hu]
      rfl
    · rw [h16]; exact drop_len_append _ _ _ hp
  · split at h
    · rename_i hk
      simp only at hk h
      subst hk
      have hp : (numB (un p.key) 4).length = 4 := numB_len _ _
      have h4 : opLen 2 = 4 := rfl
      refine ⟨2, numB (un p.key) 4 ++ t, ?_, ?_, ?_, ?_⟩
      · have : UInt8.ofNat (un 2) = 2 := rfl
        simp [Oq.bytes, this]
      · rw [h4, List.length_append]; omega
      · simp only [Pt.only, keyOk, Bool.and_eq_true, decide_eq_true_eq] at h
        obtain ⟨k, x, y, v⟩ := p
        simp only at h hp
        obtain ⟨h1, ⟨h2, h3⟩, h4⟩ := h
        subst h2 h3 h4
        unfold opAt
        rw [if_neg (by decide), take_len_append _ _ _ hp, un_small k (by omega) (by omega)]
        rfl
      · rw [h4]; exact drop_len_append _ _ _ hp
    · cases h
theorem dec_back : ∀ (l : List Oq), (∀ o ∈ l, o.ok = true) → dec (batB l) = some l
  | [], _ => rfl
  | o :: l, h => by
    obtain ⟨c, r, h1, h2, h3, h4⟩ := op_back o (batB l) (h o (by simp))
    have : batB (o :: l) = c :: r := by rw [← h1]; rfl
    rw [this, dec_cons h2, h3, h4, dec_back l (fun o ho => h o (by simp [ho]))]
    rfl
theorem opsD_back (l : List Oq) (h : batE l = 0) : opsD (batB l) = some l := by
  have hall : ∀ o ∈ l, o.ok = true := fun o ho => by
    cases hb : o.ok with
    | true => rfl
    | false => exact absurd h (batE_bad_mem ho hb)
  rw [opsD, dec_back l hall, Option.bind_some, if_pos h]
end Go.Proofs.Ytmbmfhpdajdpfaa
