/- Ops done on points that rise, plainly: where a key stands, what one op makes, what many make. -/
import Derived.Test.YtmbmfhpdajdpfaaRise
namespace Go.Proofs.Ytmbmfhpdajdpfaa

/-- Points rise by their keys. -/
def Up (l : List Pt) : Prop := l.Pairwise fun p q => p.key < q.key
/-- Where a key stands, or would stand. -/
def posP (l : List Pt) (k : Int) : Nat := (l.takeWhile fun p => decide (p.key < k)).length
def hasP (l : List Pt) (k : Int) : Bool := match l[posP l k]? with | some p => decide (p.key = k) | none => false
def setP (l : List Pt) (p : Pt) : List Pt := l.take (posP l p.key) ++ p :: l.drop (posP l p.key + if hasP l p.key then 1 else 0)
def delP (l : List Pt) (k : Int) : List Pt := if hasP l k then l.take (posP l k) ++ l.drop (posP l k + 1) else l
def stepP (l : List Pt) (o : Oq) : List Pt := if o.kind = 1 then setP l o.pt else if o.kind = 2 then delP l o.pt.key else l
def doP (l : List Pt) (ops : List Oq) : List Pt := ops.foldl stepP l
def getP (l : List Pt) (k : Int) : Option Pt := l.find? fun p => decide (p.key = k)

theorem posP_le (l : List Pt) (k : Int) : posP l k ≤ l.length := by
  unfold posP
  exact (List.takeWhile_prefix _).length_le
/-- Rows that rise part at a key. -/
theorem part_at : ∀ (l : List Pt) (k : Int), Up l → ∃ a b, l = a ++ b ∧ posP l k = a.length ∧ (∀ q ∈ a, q.key < k) ∧
    ((hasP l k = false ∧ ∀ q ∈ b, k < q.key) ∨ (hasP l k = true ∧ ∃ q t, b = q :: t ∧ q.key = k ∧ ∀ r ∈ t, k < r.key))
  | [], k, _ => ⟨[], [], rfl, rfl, by simp, .inl ⟨rfl, by simp⟩⟩
  | p :: t, k, h => by
    have hp := List.pairwise_cons.1 h
    by_cases hlt : p.key < k
    · obtain ⟨a, b, e, hpos, ha, hb⟩ := part_at t k hp.2
      have hpos' : posP (p :: t) k = posP t k + 1 := by simp [posP, hlt]
      have hhas : hasP (p :: t) k = hasP t k := by unfold hasP; rw [hpos']; simp
      refine ⟨p :: a, b, by rw [e]; rfl, by rw [hpos', hpos]; rfl, ?_, by rw [hhas]; exact hb⟩
      intro q hq
      rcases List.mem_cons.1 hq with rfl | hq
      · exact hlt
      · exact ha q hq
    · have hpos' : posP (p :: t) k = 0 := by simp [posP, hlt]
      refine ⟨[], p :: t, rfl, hpos', by simp, ?_⟩
      by_cases he : p.key = k
      · refine .inr ⟨?_, p, t, rfl, he, fun r hr => by have := hp.1 r hr; omega⟩
        unfold hasP; rw [hpos']; simp [he]
      · refine .inl ⟨?_, ?_⟩
        · unfold hasP; rw [hpos']; simp [he]
        · intro q hq
          rcases List.mem_cons.1 hq with rfl | hq
          · omega
          · have := hp.1 q hq; omega
theorem posP_eq {l : List Pt} {k : Int} {i : Nat} (hi : i ≤ l.length) (h1 : ∀ (t : Nat) (p : Pt), t < i → l[t]? = some p → p.key < k) (h2 : ∀ (p : Pt), l[i]? = some p → k ≤ p.key) : posP l k = i := by
  induction l generalizing i with
  | nil => simp at hi; subst hi; rfl
  | cons p t ih =>
    cases i with
    | zero =>
      have := h2 p rfl
      simp [posP, show ¬ p.key < k by omega]
    | succ i =>
      have hp := h1 0 p (by omega) rfl
      have ih' := ih (i := i) (by simpa using hi) (fun t' q ht hq => h1 (t' + 1) q (by omega) (by simpa using hq)) (fun q hq => h2 q (by simpa using hq))
      unfold posP at ih' ⊢
      simp [hp, ih']
theorem Up.key_lt {l : List Pt} (h : Up l) {i j : Nat} {p q : Pt} (hij : i < j) (hp : l[i]? = some p) (hq : l[j]? = some q) : p.key < q.key := by
  obtain ⟨hi, rfl⟩ := List.getElem?_eq_some_iff.1 hp
  obtain ⟨hj, rfl⟩ := List.getElem?_eq_some_iff.1 hq
  exact List.pairwise_iff_getElem.1 h i j hi hj hij

/-! ### lookups -/
theorem getP_app (a b : List Pt) (k : Int) : getP (a ++ b) k = (getP a k).or (getP b k) := by simp [getP, List.find?_append]
theorem getP_cons (p : Pt) (b : List Pt) (k : Int) : getP (p :: b) k = if p.key = k then some p else getP b k := by
  unfold getP
  rw [List.find?_cons]
  by_cases h : p.key = k <;> simp [h]
theorem getP_no {a : List Pt} {k : Int} (h : ∀ q ∈ a, q.key ≠ k) : getP a k = none := by
  unfold getP
  rw [List.find?_eq_none]
  exact fun q hq => by simpa using h q hq
theorem getP_key {a : List Pt} {k : Int} {p : Pt} (h : getP a k = some p) : p.key = k ∧ p ∈ a := by
  unfold getP at h
  exact ⟨by simpa using List.find?_some h, List.mem_of_find?_eq_some h⟩
theorem set_form (a b : List Pt) (p : Pt) (c : Bool) (q : Pt) (t : List Pt) (hc : c = true → b = q :: t) : (a ++ b).take a.length ++ p :: (a ++ b).drop (a.length + if c then 1 else 0) = a ++ p :: (if c then t else b) := by
  rw [List.take_left']
  · cases c with
    | false => simp
    | true => rw [hc rfl]; simp
  · rfl
/-- What one op makes of rows that rise, and what is found there. -/
theorem step_all (l : List Pt) (o : Oq) (h : Up l) : Up (stepP l o) ∧ (∀ k, getP (stepP l o) k = if o.pt.key = k ∧ (o.kind = 1 ∨ o.kind = 2) then (if o.kind = 1 then some o.pt else none) else getP l k) ∧
    (stepP l o).length ≤ l.length + 1 ∧ (∀ q ∈ stepP l o, q ∈ l ∨ (q = o.pt ∧ o.kind = 1)) := by
  obtain ⟨a, b, rfl, hpos, ha, hb⟩ := part_at l o.pt.key h
  obtain ⟨ua, ub, uab⟩ := List.pairwise_append.1 h
  by_cases h1 : o.kind = 1
  · have hst : stepP (a ++ b) o = setP (a ++ b) o.pt := by simp [stepP, h1]
    rw [hst]
    unfold setP
    rw [hpos]
    rcases hb with ⟨hh, hb⟩ | ⟨hh, q, t, rfl, hq, ht⟩
    · rw [hh, set_form a b o.pt false o.pt [] (by simp)]
      simp only [Bool.false_eq_true, if_false]
      refine ⟨?_, fun k => ?_, by simp; omega, fun q hq => ?_⟩
      · refine List.pairwise_append.2 ⟨ua, List.pairwise_cons.2 ⟨hb, ub⟩, fun x hx y hy => ?_⟩
        rcases List.mem_cons.1 hy with rfl | hy
        · exact ha x hx
        · exact uab x hx y hy
      · rw [getP_app, getP_app, getP_cons]
        by_cases hk : o.pt.key = k
        · subst hk
          rw [getP_no (a := a) (fun q hq => by have := ha q hq; omega)]
          simp [h1]
        · simp [hk]
      · rcases List.mem_append.1 hq with hq | hq
        · exact .inl (List.mem_append.2 (.inl hq))
        · rcases List.mem_cons.1 hq with rfl | hq
          · exact .inr ⟨rfl, h1⟩
          · exact .inl (List.mem_append.2 (.inr hq))
    · rw [hh, set_form a (q :: t) o.pt true q t (by simp)]
      simp only [if_true]
      have ut := (List.pairwise_cons.1 ub).2
      refine ⟨?_, fun k => ?_, by simp, fun q' hq' => ?_⟩
      · refine List.pairwise_append.2 ⟨ua, List.pairwise_cons.2 ⟨ht, ut⟩, fun x hx y hy => ?_⟩
        rcases List.mem_cons.1 hy with rfl | hy
        · exact ha x hx
        · exact uab x hx y (List.mem_cons.2 (.inr hy))
      · rw [getP_app, getP_app, getP_cons, getP_cons]
        by_cases hk : o.pt.key = k
        · subst hk
          rw [getP_no (a := a) (fun q hq => by have := ha q hq; omega)]
          simp [h1]
        · have hk' : ¬ q.key = k := by omega
          simp [hk, hk']
      · rcases List.mem_append.1 hq' with hq' | hq'
        · exact .inl (List.mem_append.2 (.inl hq'))
        · rcases List.mem_cons.1 hq' with rfl | hq'
          · exact .inr ⟨rfl, h1⟩
          · exact .inl (List.mem_append.2 (.inr (List.mem_cons.2 (.inr hq'))))
  · by_cases h2 : o.kind = 2
    · have hst : stepP (a ++ b) o = delP (a ++ b) o.pt.key := by simp [stepP, h2]
      rw [hst]
      unfold delP
      rw [hpos]
      rcases hb with ⟨hh, hb⟩ | ⟨hh, q, t, rfl, hq, ht⟩
      · rw [hh]
        simp only [Bool.false_eq_true, if_false]
        refine ⟨h, fun k => ?_, by omega, fun q hq => .inl hq⟩
        by_cases hk : o.pt.key = k
        · subst hk
          rw [getP_app, getP_no (a := a) (fun q hq => by have := ha q hq; omega), getP_no (a := b) (fun q hq => by have := hb q hq; omega)]
          simp [h2]
        · simp [hk]
      · rw [hh]
        simp only [if_true]
        have ut := (List.pairwise_cons.1 ub).2
        have e : (a ++ q :: t).take a.length ++ (a ++ q :: t).drop (a.length + 1) = a ++ t := by simp
        rw [e]
        refine ⟨?_, fun k => ?_, by simp; omega, fun q' hq' => ?_⟩
        · exact List.pairwise_append.2 ⟨ua, ut, fun x hx y hy => uab x hx y (List.mem_cons.2 (.inr hy))⟩
        · rw [getP_app, getP_app, getP_cons]
          by_cases hk : o.pt.key = k
          · subst hk
            rw [getP_no (a := a) (fun q hq => by have := ha q hq; omega), getP_no (a := t) (fun q hq => by have := ht q hq; omega)]
            simp [h2]
          · have hk' : ¬ q.key = k := by omega
            simp [hk, hk']
        · rcases List.mem_append.1 hq' with hq' | hq'
          · exact .inl (List.mem_append.2 (.inl hq'))
          · exact .inl (List.mem_append.2 (.inr (List.mem_cons.2 (.inr hq'))))
    · have hst : stepP (a ++ b) o = a ++ b := by simp [stepP, h1, h2]
      rw [hst]
      exact ⟨h, fun k => by simp [h1, h2], by omega, fun q hq => .inl hq⟩
/-- Rows that rise are what is found in them. -/
theorem up_ext : ∀ {a b : List Pt}, Up a → Up b → (∀ k, getP a k = getP b k) → a = b
  | [], [], _, _, _ => rfl
  | [], q :: t, _, _, h => by have := h q.key; rw [getP_cons] at this; simp [getP] at this
  | p :: s, [], _, _, h => by have := h p.key; rw [getP_cons] at this; simp [getP] at this
  | p :: s, q :: t, ha, hb, h => by
    obtain ⟨pa, us⟩ := List.pairwise_cons.1 ha
    obtain ⟨qb, ut⟩ := List.pairwise_cons.1 hb
    have hp := h p.key
    have hq := h q.key
    rw [getP_cons, getP_cons] at hp hq
    have hk : p.key = q.key := by
      by_cases e : q.key = p.key
      · exact e.symm
      · have e' : ¬ p.key = q.key := fun h => e h.symm
        simp only [e, e', if_false, if_true] at hp hq
        have h1 := qb p (getP_key hp.symm).2
        have h2 := pa q (getP_key hq).2
        omega
    simp only [hk, if_true] at hp
    have hpq : p = q := Option.some.inj hp
    subst hpq
    have : s = t := up_ext us ut fun k => by
      have := h k
      rw [getP_cons, getP_cons] at this
      by_cases e : p.key = k
      · subst e
        rw [getP_no (a := s) (fun x hx => by have := pa x hx; omega), getP_no (a := t) (fun x hx => by have := qb x hx; omega)]
      · simpa [e] using this
    rw [this]

/-! ### many ops -/
theorem doP_nil (l : List Pt) : doP l [] = l := rfl
theorem doP_cons (l : List Pt) (o : Oq) (t : List Oq) : doP l (o :: t) = doP (stepP l o) t := rfl
theorem doP_app (l : List Pt) (a b : List Oq) : doP l (a ++ b) = doP (doP l a) b := by simp [doP]
theorem doP_take (l : List Pt) (ops : List Oq) (k : Nat) (o : Oq) (h : ops[k]? = some o) : doP l (ops.take (k + 1)) = stepP (doP l (ops.take k)) o := by
  rw [List.take_add_one, h, doP_app]
  rfl
theorem do_up : ∀ (ops : List Oq) (l : List Pt), Up l → Up (doP l ops)
  | [], _, h => h
  | o :: t, l, h => do_up t _ (step_all l o h).1
theorem do_len : ∀ (ops : List Oq) (l : List Pt), Up l → (doP l ops).length ≤ l.length + ops.length
  | [], _, _ => Nat.le_refl _
  | o :: t, l, h => by
    have h1 := do_len t _ (step_all l o h).1
    have h2 := (step_all l o h).2.2.1
    rw [doP_cons, List.length_cons]
    omega
/-- The last op of a key. -/
def lastP (ops : List Oq) (k : Int) : Option Oq := (ops.filter fun o => decide (o.pt.key = k ∧ (o.kind = 1 ∨ o.kind = 2))).getLast?
def leftP (o : Oq) : Option Pt := if o.kind = 1 then some o.pt else none
theorem do_get : ∀ (ops : List Oq) (l : List Pt) (k : Int), Up l → getP (doP l ops) k = match lastP ops k with | some o => leftP o | none => getP l k
  | [], _, _, _ => rfl
  | o :: t, l, k, h => by
    have ih := do_get t (stepP l o) k (step_all l o h).1
    have hs := (step_all l o h).2.1 k
    rw [doP_cons, ih]
    have hc : lastP (o :: t) k = match lastP t k with | some q => some q | none => if o.pt.key = k ∧ (o.kind = 1 ∨ o.kind = 2) then some o else none := by
      unfold lastP
      rw [List.filter_cons]
      by_cases hk : o.pt.key = k ∧ (o.kind = 1 ∨ o.kind = 2)
      · simp only [decide_eq_true hk, if_true, if_pos hk]
        cases ht : (t.filter fun o => decide (o.pt.key = k ∧ (o.kind = 1 ∨ o.kind = 2))).getLast? with
        | none =>
          rw [List.getLast?_eq_none_iff] at ht
          rw [ht]; rfl
        | some q =>
          rw [List.getLast?_cons, ht]; rfl
      · simp only [decide_eq_false hk, if_neg hk, Bool.false_eq_true, if_false]
        cases (t.filter fun o => decide (o.pt.key = k ∧ (o.kind = 1 ∨ o.kind = 2))).getLast? <;> rfl
    rw [hc]
    cases lastP t k with
    | some q => rfl
    | none =>
      simp only [hs]
      by_cases hk : o.pt.key = k ∧ (o.kind = 1 ∨ o.kind = 2)
      · rw [if_pos hk, if_pos hk]; rfl
      · rw [if_neg hk, if_neg hk]
/-- Done twice they are done once. -/
theorem do_twice (ops : List Oq) (l : List Pt) (h : Up l) : doP (doP l ops) ops = doP l ops := by
  refine up_ext (do_up _ _ (do_up _ _ h)) (do_up _ _ h) fun k => ?_
  rw [do_get _ _ _ (do_up _ _ h), do_get _ _ _ h]
  cases lastP ops k <;> rfl
theorem step_oks (l : List Pt) (o : Oq) (h : Up l) (hl : ∀ p ∈ l, p.ok = true) (ho : o.ok = true) : ∀ p ∈ stepP l o, p.ok = true := by
  intro p hp
  rcases (step_all l o h).2.2.2 p hp with hp | ⟨rfl, h1⟩
  · exact hl p hp
  · simpa [Oq.ok, h1] using ho
theorem do_oks : ∀ (ops : List Oq) (l : List Pt), Up l → (∀ p ∈ l, p.ok = true) → (∀ o ∈ ops, o.ok = true) → ∀ p ∈ doP l ops, p.ok = true
  | [], _, _, hl, _ => hl
  | o :: t, l, h, hl, ho => do_oks t _ (step_all l o h).1 (step_oks l o h hl (ho o (by simp))) (fun q hq => ho q (by simp [hq]))

/-! ### rises, in these words -/
theorem up_iff (l : List Pt) : Up l ↔ ∀ (k : Nat) (p q : Pt), l[k]? = some p → l[k + 1]? = some q → p.key < q.key := by
  constructor
  · intro h k p q hp hq
    exact h.key_lt (Nat.lt_succ_self k) hp hq
  · intro h
    induction l with
    | nil => exact List.Pairwise.nil
    | cons p t ih =>
      have iht := ih fun k a b ha hb => h (k + 1) a b (by simpa using ha) (by simpa using hb)
      refine List.pairwise_cons.2 ⟨?_, iht⟩
      cases t with
      | nil => simp
      | cons q s =>
        have h0 := h 0 p q rfl rfl
        intro r hr
        rcases List.mem_cons.1 hr with rfl | hr
        · exact h0
        · have := (List.pairwise_cons.1 iht).1 r hr
          omega
theorem risesP_iff (l : List Pt) : risesP l = true ↔ Up l ∧ ∀ p ∈ l, p.ok = true := by
  constructor
  · intro h
    have hat : ∀ k p, l[k]? = some p → p.ok = true ∧ (∀ j q, j + 1 = k → l[j]? = some q → q.key < p.key) := by
      intro k p hp
      have hk : k < l.length := (List.getElem?_eq_some_iff.1 hp).1
      have := risesP_at h hk
      cases k with
      | zero => exact ⟨by rw [okAt_zero hp] at this; exact this, fun j q hj => by omega⟩
      | succ k =>
        have hq : l[k]? = some (l[k]'(by omega)) := List.getElem?_eq_getElem (by omega)
        rw [okAt_succ hp (by omega) hq] at this
        simp only [Bool.and_eq_true, decide_eq_true_eq] at this
        refine ⟨this.1, fun j q hj hjq => ?_⟩
        obtain rfl : j = k := by omega
        rw [hq] at hjq
        rw [← Option.some.inj hjq]
        exact this.2
    refine ⟨(up_iff l).2 fun k p q hp hq => (hat (k + 1) q hq).2 k p rfl hp, fun p hp => ?_⟩
    obtain ⟨k, hk, rfl⟩ := List.mem_iff_getElem.1 hp
    exact (hat k _ (List.getElem?_eq_getElem hk)).1
  · rintro ⟨hu, hok⟩
    refine risesP_yes fun k hk => ?_
    have hp : l[k]? = some (l[k]'hk) := List.getElem?_eq_getElem hk
    have ho := hok _ (List.getElem_mem hk)
    cases k with
    | zero => rw [okAt_zero hp]; exact ho
    | succ k =>
      have hq : l[k]? = some (l[k]'(by omega)) := List.getElem?_eq_getElem (by omega)
      rw [okAt_succ hp (by omega) hq, ho]
      simpa using hu.key_lt (Nat.lt_succ_self k) hq hp
end Go.Proofs.Ytmbmfhpdajdpfaa
