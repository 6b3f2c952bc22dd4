/- Joined for this seat from: XDo XFind XBlk XIns XDel XApply XRefApply XRecPoints. -/
import Derived.Laws.CopyOwn
import Derived.Deep.RegionLaw
import Derived.Lib.SliceRun
import Derived.Lib.Overlaps
import Derived.Test.YtanipieeegeheaaSc
namespace Go.Proofs.Ytanipieeegeheaa
/-- Points rise by their keys. -/
def Up (l : List Pt) : Prop := l.Pairwise fun p q => p.key < q.key
/-- Where a key stands, or would stand. -/
def posP (l : List Pt) (k : Int) : Nat := (l.takeWhile fun p => decide (p.key < k)).length
def hasP (l : List Pt) (k : Int) : Bool := match l[posP l k]? with | some p => decide (p.key = k) | none => false
def setP (l : List Pt) (p : Pt) : List Pt := l.take (posP l p.key) ++ p :: l.drop (posP l p.key + if hasP l p.key then 1 else 0)
def delP (l : List Pt) (k : Int) : List Pt := if hasP l k then l.take (posP l k) ++ l.drop (posP l k + 1) else l
def stepP (l : List Pt) (o : Oq) : List Pt := if o.kind = 1 then setP l o.pt else if o.kind = 2 then delP l o.pt.key else l
def doP (l : List Pt) (ops : List Oq) : List Pt := ops.foldl stepP l
def getP (l : List Pt) (k : Int) : Option Pt := l.find? fun p => decide (p.key = k)

theorem posP_le (l : List Pt) (k : Int) : posP l k ≤ l.length := by
  unfold posP
  exact (List.takeWhile_prefix _).length_le
/-- Rows that rise part at a key. -/
theorem part_at : ∀ (l : List Pt) (k : Int), Up l → ∃ a b, l = a ++ b ∧ posP l k = a.length ∧ (∀ q ∈ a, q.key < k) ∧
    ((hasP l k = false ∧ ∀ q ∈ b, k < q.key) ∨ (hasP l k = true ∧ ∃ q t, b = q :: t ∧ q.key = k ∧ ∀ r ∈ t, k < r.key))
  | [], k, _ => ⟨[], [], rfl, rfl, by simp, .inl ⟨rfl, by simp⟩⟩
  | p :: t, k, h => by
    have hp := List.pairwise_cons.1 h
    by_cases hlt : p.key < k
    · obtain ⟨a, b, e, hpos, ha, hb⟩ := part_at t k hp.2
      have hpos' : posP (p :: t) k = posP t k + 1 := by simp [posP, hlt]
      have hhas : hasP (p :: t) k = hasP t k := by unfold hasP; rw [hpos']; simp
      refine ⟨p :: a, b, by rw [e]; rfl, by rw [hpos', hpos]; rfl, ?_, by rw [hhas]; exact hb⟩
      intro q hq
      rcases List.mem_cons.1 hq with rfl | hq
      · exact hlt
      · exact ha q hq
    · have hpos' : posP (p :: t) k = 0 := by simp [posP, hlt]
      refine ⟨[], p :: t, rfl, hpos', by simp, ?_⟩
      by_cases he : p.key = k
      · refine .inr ⟨?_, p, t, rfl, he, fun r hr => by have := hp.1 r hr; omega⟩
        unfold hasP; rw [hpos']; simp [he]
      · refine .inl ⟨?_, ?_⟩
        · unfold hasP; rw [hpos']; simp [he]
        · intro q hq
          rcases List.mem_cons.1 hq with rfl | hq
          · omega
          · have := hp.1 q hq; omega
theorem posP_eq {l : List Pt} {k : Int} {i : Nat} (hi : i ≤ l.length) (h1 : ∀ (t : Nat) (p : Pt), t < i → l[t]? = some p → p.key < k) (h2 : ∀ (p : Pt), l[i]? = some p → k ≤ p.key) : posP l k = i := by
  induction l generalizing i with
  | nil => simp at hi; subst hi; rfl
  | cons p t ih =>
    cases i with
    | zero =>
      have := h2 p rfl
      simp [posP, show ¬ p.key < k by omega]
    | succ i =>
      have hp := h1 0 p (by omega) rfl
      have ih' := ih (i := i) (by simpa using hi) (fun t' q ht hq => h1 (t' + 1) q (by omega) (by simpa using hq)) (fun q hq => h2 q (by simpa using hq))
      unfold posP at ih' ⊢
      simp [hp, ih']
theorem Up.key_lt {l : List Pt} (h : Up l) {i j : Nat} {p q : Pt} (hij : i < j) (hp : l[i]? = some p) (hq : l[j]? = some q) : p.key < q.key := by
  obtain ⟨hi, rfl⟩ := List.getElem?_eq_some_iff.1 hp
  obtain ⟨hj, rfl⟩ := List.getElem?_eq_some_iff.1 hq
  exact List.pairwise_iff_getElem.1 h i j hi hj hij

/-! ### lookups -/
theorem getP_app (a b : List Pt) (k : Int) : getP (a ++ b) k = (getP a k).or (getP b k) := by simp [getP, List.find?_append]
theorem getP_cons (p : Pt) (b : List Pt) (k : Int) : getP (p :: b) k = if p.key = k then some p else getP b k := by
  unfold getP
  rw [List.find?_cons]
  by_cases h : p.key = k <;> simp [h]
theorem getP_no {a : List Pt} {k : Int} (h : ∀ q ∈ a, q.key ≠ k) : getP a k = none := by
  unfold getP
  rw [List.find?_eq_none]
  exact fun q hq => by simpa using h q hq
theorem getP_key {a : List Pt} {k : Int} {p : Pt} (h : getP a k = some p) : p.key = k ∧ p ∈ a := by
  unfold getP at h
  exact ⟨by simpa using List.find?_some h, List.mem_of_find?_eq_some h⟩
theorem set_form (a b : List Pt) (p : Pt) (c : Bool) (q : Pt) (t : List Pt) (hc : c = true → b = q :: t) : (a ++ b).take a.length ++ p :: (a ++ b).drop (a.length + if c then 1 else 0) = a ++ p :: (if c then t else b) := by
  rw [List.take_left']
  · cases c with
    | false => simp
    | true => rw [hc rfl]; simp
  · rfl
/-- What one op makes of rows that rise, and what is found there. -/
theorem step_all (l : List Pt) (o : Oq) (h : Up l) : Up (stepP l o) ∧ (∀ k, getP (stepP l o) k = if o.pt.key = k ∧ (o.kind = 1 ∨ o.kind = 2) then (if o.kind = 1 then some o.pt else none) else getP l k) ∧
    (stepP l o).length ≤ l.length + 1 ∧ (∀ q ∈ stepP l o, q ∈ l ∨ (q = o.pt ∧ o.kind = 1)) := by
  obtain ⟨a, b, rfl, hpos, ha, hb⟩ := part_at l o.pt.key h
  obtain ⟨ua, ub, uab⟩ := List.pairwise_append.1 h
  by_cases h1 : o.kind = 1
  · have hst : stepP (a ++ b) o = setP (a ++ b) o.pt := by simp [stepP, h1]
    rw [hst]
    unfold setP
    rw [hpos]
    rcases hb with ⟨hh, hb⟩ | ⟨hh, q, t, rfl, hq, ht⟩
    · rw [hh, set_form a b o.pt false o.pt [] (by simp)]
      simp only [Bool.false_eq_true, if_false]
      refine ⟨?_, fun k => ?_, by simp; omega, fun q hq => ?_⟩
      · refine List.pairwise_append.2 ⟨ua, List.pairwise_cons.2 ⟨hb, ub⟩, fun x hx y hy => ?_⟩
        rcases List.mem_cons.1 hy with rfl | hy
        · exact ha x hx
        · exact uab x hx y hy
      · rw [getP_app, getP_app, getP_cons]
        by_cases hk : o.pt.key = k
        · subst hk
          rw [getP_no (a := a) (fun q hq => by have := ha q hq; omega)]
          simp [h1]
        · simp [hk]
      · rcases List.mem_append.1 hq with hq | hq
        · exact .inl (List.mem_append.2 (.inl hq))
        · rcases List.mem_cons.1 hq with rfl | hq
          · exact .inr ⟨rfl, h1⟩
          · exact .inl (List.mem_append.2 (.inr hq))
    · rw [hh, set_form a (q :: t) o.pt true q t (by simp)]
      simp only [if_true]
      have ut := (List.pairwise_cons.1 ub).2
      refine ⟨?_, fun k => ?_, by simp, fun q' hq' => ?_⟩
      · refine List.pairwise_append.2 ⟨ua, List.pairwise_cons.2 ⟨ht, ut⟩, fun x hx y hy => ?_⟩
        rcases List.mem_cons.1 hy with rfl | hy
        · exact ha x hx
        · exact uab x hx y (List.mem_cons.2 (.inr hy))
      · rw [getP_app, getP_app, getP_cons, getP_cons]
        by_cases hk : o.pt.key = k
        · subst hk
          rw [getP_no (a := a) (fun q hq => by have := ha q hq; omega)]
          simp [h1]
        · have hk' : ¬ q.key = k := by omega
          simp [hk, hk']
      · rcases List.mem_append.1 hq' with hq' | hq'
        · exact .inl (List.mem_append.2 (.inl hq'))
        · rcases List.mem_cons.1 hq' with rfl | hq'
          · exact .inr ⟨rfl, h1⟩
          · exact .inl (List.mem_append.2 (.inr (List.mem_cons.2 (.inr hq'))))
  · by_cases h2 : o.kind = 2
    · have hst : stepP (a ++ b) o = delP (a ++ b) o.pt.key := by simp [stepP, h2]
      rw [hst]
      unfold delP
      rw [hpos]
      rcases hb with ⟨hh, hb⟩ | ⟨hh, q, t, rfl, hq, ht⟩
      · rw [hh]
        simp only [Bool.false_eq_true, if_false]
        refine ⟨h, fun k => ?_, by omega, fun q hq => .inl hq⟩
        by_cases hk : o.pt.key = k
        · subst hk
          rw [getP_app, getP_no (a := a) (fun q hq => by have := ha q hq; omega), getP_no (a := b) (fun q hq => by have := hb q hq; omega)]
          simp [h2]
        · simp [hk]
      · rw [hh]
        simp only [if_true]
        have ut := (List.pairwise_cons.1 ub).2
        have e : (a ++ q :: t).take a.length ++ (a ++ q :: t).drop (a.length + 1) = a ++ t := by simp
        rw [e]
        refine ⟨?_, fun k => ?_, by simp; omega, fun q' hq' => ?_⟩
        · exact List.pairwise_append.2 ⟨ua, ut, fun x hx y hy => uab x hx y (List.mem_cons.2 (.inr hy))⟩
        · rw [getP_app, getP_app, getP_cons]
          by_cases hk : o.pt.key = k
          · subst hk
            rw [getP_no (a := a) (fun q hq => by have := ha q hq; omega), getP_no (a := t) (fun q hq => by have := ht q hq; omega)]
            simp [h2]
          · have hk' : ¬ q.key = k := by omega
            simp [hk, hk']
        · rcases List.mem_append.1 hq' with hq' | hq'
          · exact .inl (List.mem_append.2 (.inl hq'))
          · exact .inl (List.mem_append.2 (.inr (List.mem_cons.2 (.inr hq'))))
    · have hst : stepP (a ++ b) o = a ++ b := by simp [stepP, h1, h2]
      rw [hst]
      exact ⟨h, fun k => by simp [h1, h2], by omega, fun q hq => .inl hq⟩
/-- Rows that rise are what is found in them. -/
theorem up_ext : ∀ {a b : List Pt}, Up a → Up b → (∀ k, getP a k = getP b k) → a = b
  | [], [], _, _, _ => rfl
  | [], q :: t, _, _, h => by have := h q.key; rw [getP_cons] at this; simp [getP] at this
  | p :: s, [], _, _, h => by have := h p.key; rw [getP_cons] at this; simp [getP] at this
  | p :: s, q :: t, ha, hb, h => by
    obtain ⟨pa, us⟩ := List.pairwise_cons.1 ha
    obtain ⟨qb, ut⟩ := List.pairwise_cons.1 hb
    have hp := h p.key
    have hq := h q.key
    rw [getP_cons, getP_cons] at hp hq
    have hk : p.key = q.key := by
      by_cases e : q.key = p.key
      · exact e.symm
      · have e' : ¬ p.key = q.key := fun h => e h.symm
        simp only [e, e', if_false, if_true] at hp hq
        have h1 := qb p (getP_key hp.symm).2
        have h2 := pa q (getP_key hq).2
        omega
    simp only [hk, if_true] at hp
    have hpq : p = q := Option.some.inj hp
    subst hpq
    have : s = t := up_ext us ut fun k => by
      have := h k
      rw [getP_cons, getP_cons] at this
      by_cases e : p.key = k
      · subst e
        rw [getP_no (a := s) (fun x hx => by have := pa x hx; omega), getP_no (a := t) (fun x hx => by have := qb x hx; omega)]
      · simpa [e] using this
    rw [this]

/-! ### many ops -/
theorem doP_nil (l : List Pt) : doP l [] = l := rfl
theorem doP_cons (l : List Pt) (o : Oq) (t : List Oq) : doP l (o :: t) = doP (stepP l o) t := rfl
theorem doP_app (l : List Pt) (a b : List Oq) : doP l (a ++ b) = doP (doP l a) b := by simp [doP]
theorem doP_take (l : List Pt) (ops : List Oq) (k : Nat) (o : Oq) (h : ops[k]? = some o) : doP l (ops.take (k + 1)) = stepP (doP l (ops.take k)) o := by
  rw [List.take_add_one, h, doP_app]
  rfl
theorem do_up : ∀ (ops : List Oq) (l : List Pt), Up l → Up (doP l ops)
  | [], _, h => h
  | o :: t, l, h => do_up t _ (step_all l o h).1
theorem do_len : ∀ (ops : List Oq) (l : List Pt), Up l → (doP l ops).length ≤ l.length + ops.length
  | [], _, _ => Nat.le_refl _
  | o :: t, l, h => by
    have h1 := do_len t _ (step_all l o h).1
    have h2 := (step_all l o h).2.2.1
    rw [doP_cons, List.length_cons]
    omega
/-- The last op of a key. -/
def lastP (ops : List Oq) (k : Int) : Option Oq := (ops.filter fun o => decide (o.pt.key = k ∧ (o.kind = 1 ∨ o.kind = 2))).getLast?
def leftP (o : Oq) : Option Pt := if o.kind = 1 then some o.pt else none
theorem do_get : ∀ (ops : List Oq) (l : List Pt) (k : Int), Up l → getP (doP l ops) k = match lastP ops k with | some o => leftP o | none => getP l k
  | [], _, _, _ => rfl
  | o :: t, l, k, h => by
    have ih := do_get t (stepP l o) k (step_all l o h).1
    have hs := (step_all l o h).2.1 k
    rw [doP_cons, ih]
    have hc : lastP (o :: t) k = match lastP t k with | some q => some q | none => if o.pt.key = k ∧ (o.kind = 1 ∨ o.kind = 2) then some o else none := by
      unfold lastP
      rw [List.filter_cons]
      by_cases hk : o.pt.key = k ∧ (o.kind = 1 ∨ o.kind = 2)
      · simp only [decide_eq_true hk, if_true, if_pos hk]
        cases ht : (t.filter fun o => decide (o.pt.key = k ∧ (o.kind = 1 ∨ o.kind = 2))).getLast? with
        | none =>
          rw [List.getLast?_eq_none_iff] at ht
          rw [ht]; rfl
        | some q =>
          rw [List.getLast?_cons, ht]; rfl
      · simp only [decide_eq_false hk, if_neg hk, Bool.false_eq_true, if_false]
        cases (t.filter fun o => decide (o.pt.key = k ∧ (o.kind = 1 ∨ o.kind = 2))).getLast? <;> rfl
    rw [hc]
    cases lastP t k with
    | some q => rfl
    | none =>
      simp only [hs]
      by_cases hk : o.pt.key = k ∧ (o.kind = 1 ∨ o.kind = 2)
      · rw [if_pos hk, if_pos hk]; rfl
      · rw [if_neg hk, if_neg hk]
/-- Done twice they are done once. -/
theorem do_twice (ops : List Oq) (l : List Pt) (h : Up l) : doP (doP l ops) ops = doP l ops := by
  refine up_ext (do_up _ _ (do_up _ _ h)) (do_up _ _ h) fun k => ?_
  rw [do_get _ _ _ (do_up _ _ h), do_get _ _ _ h]
  cases lastP ops k <;> rfl
theorem step_oks (l : List Pt) (o : Oq) (h : Up l) (hl : ∀ p ∈ l, p.ok = true) (ho : o.ok = true) : ∀ p ∈ stepP l o, p.ok = true := by
  intro p hp
  rcases (step_all l o h).2.2.2 p hp with hp | ⟨rfl, h1⟩
  · exact hl p hp
  · simpa [Oq.ok, h1] using ho
theorem do_oks : ∀ (ops : List Oq) (l : List Pt), Up l → (∀ p ∈ l, p.ok = true) → (∀ o ∈ ops, o.ok = true) → ∀ p ∈ doP l ops, p.ok = true
  | [], _, _, hl, _ => hl
  | o :: t, l, h, hl, ho => do_oks t _ (step_all l o h).1 (step_oks l o h hl (ho o (by simp))) (fun q hq => ho q (by simp [hq]))

/-! ### rises, in these words -/
theorem up_iff (l : List Pt) : Up l ↔ ∀ (k : Nat) (p q : Pt), l[k]? = some p → l[k + 1]? = some q → p.key < q.key := by
  constructor
  · intro h k p q hp hq
    exact h.key_lt (Nat.lt_succ_self k) hp hq
  · intro h
    induction l with
    | nil => exact List.Pairwise.nil
    | cons p t ih =>
      have iht := ih fun k a b ha hb => h (k + 1) a b (by simpa using ha) (by simpa using hb)
      refine List.pairwise_cons.2 ⟨?_, iht⟩
      cases t with
      | nil => simp
      | cons q s =>
        have h0 := h 0 p q rfl rfl
        intro r hr
        rcases List.mem_cons.1 hr with rfl | hr
        · exact h0
        · have := (List.pairwise_cons.1 iht).1 r hr
          omega
theorem risesP_iff (l : List Pt) : risesP l = true ↔ Up l ∧ ∀ p ∈ l, p.ok = true := by
  constructor
  · intro h
    have hat : ∀ k p, l[k]? = some p → p.ok = true ∧ (∀ j q, j + 1 = k → l[j]? = some q → q.key < p.key) := by
      intro k p hp
      have hk : k < l.length := (List.getElem?_eq_some_iff.1 hp).1
      have := risesP_at h hk
      cases k with
      | zero => exact ⟨by rw [okAt_zero hp] at this; exact this, fun j q hj => by omega⟩
      | succ k =>
        have hq : l[k]? = some (l[k]'(by omega)) := List.getElem?_eq_getElem (by omega)
        rw [okAt_succ hp (by omega) hq] at this
        simp only [Bool.and_eq_true, decide_eq_true_eq] at this
        refine ⟨this.1, fun j q hj hjq => ?_⟩
        obtain rfl : j = k := by omega
        rw [hq] at hjq
        rw [← Option.some.inj hjq]
        exact this.2
    refine ⟨(up_iff l).2 fun k p q hp hq => (hat (k + 1) q hq).2 k p rfl hp, fun p hp => ?_⟩
    obtain ⟨k, hk, rfl⟩ := List.mem_iff_getElem.1 hp
    exact (hat k _ (List.getElem?_eq_getElem hk)).1
  · rintro ⟨hu, hok⟩
    refine risesP_yes fun k hk => ?_
    have hp : l[k]? = some (l[k]'hk) := List.getElem?_eq_getElem hk
    have ho := hok _ (List.getElem_mem hk)
    cases k with
    | zero => rw [okAt_zero hp]; exact ho
    | succ k =>
      have hq : l[k]? = some (l[k]'(by omega)) := List.getElem?_eq_getElem (by omega)
      rw [okAt_succ hp (by omega) hq, ho]
      simpa using hu.key_lt (Nat.lt_succ_self k) hq hp

end Go.Proofs.Ytanipieeegeheaa
namespace Go.Proofs.Ytanipieeegeheaa
open Go.RowKit

def cmpP (a k : Int) : Int := if a < k then -1 else if k < a then 1 else 0
set_option maxHeartbeats 1000000 in
set_option maxRecDepth 100000 in
theorem cmp_any (ky x y v k : Int) (w : World) : Calls Try.prog 84 #[.agg #[.int .i64 ky, .int .i64 x, .int .i64 y, .int .i64 v], .int .i64 k] w fun e w' => e = .returned (.int .i64 (cmpP ky k)) ∧ Chg Nil w w' := by
  have hA : Chg Nil w (w.alloc (.cells #[.int .i64 ky, .int .i64 x, .int .i64 y, .int .i64 v] 30)) := (Chg.refl _ _).alloc _
  have HA := Hid.mk hA
  clear hA
  by_cases h1 : ky < k
  · have e : cmpP ky k = -1 := by simp [cmpP, h1]
    rw [e]
    clear e
    go_enter Try.func84, Try.ntmps84
    go_wp2_with fail
    go_ret
    exact ⟨rfl, HA.out⟩
  · by_cases h2 : k < ky
    · have e : cmpP ky k = 1 := by simp [cmpP, h1, h2]
      rw [e]
      clear e
      go_enter Try.func84, Try.ntmps84
      go_wp2_with fail
      go_ret
      exact ⟨rfl, HA.out⟩
    · have e : cmpP ky k = 0 := by simp [cmpP, h1, h2]
      rw [e]
      clear e
      go_enter Try.func84, Try.ntmps84
      go_wp2_with fail
      go_ret
      exact ⟨rfl, HA.out⟩

set_option maxHeartbeats 2000000 in
set_option maxRecDepth 100000 in
theorem search_any (A : Option Addr) (n c : Nat) (l : List Pt) (k : Int) (S : Nat → Prop) (w : World) (hr : RdP w S A n l) (hn : n ≤ 1000000) (hup : Up l) :
    Calls Try.prog 83 #[.slice A n c, .int .i64 k, .func (.func 84) #[] #[]] w fun e w' => e = .returned (.tuple #[.int .i64 (posP l k : Nat), .bool (hasP l k)]) ∧ Chg Nil w w' := by
  have hl := hr.len
  have HR := Hid.mk (And.intro hr (And.intro hup hl))
  clear hr hup
  generalize hP : posP l k = P
  generalize hB : hasP l k = B
  have HP := Hid.mk (And.intro hP hB)
  clear hP hB hl
  go_enter Try.func83, Try.ntmps83
  go_wp2_with fail
  go_loopw [9, 10] (fun i j wr => ∃ lo hi : Nat, lo ≤ hi ∧ hi ≤ n ∧ i = .int .i64 (lo : Int) ∧ j = .int .i64 (hi : Int) ∧ Chg Nil w wr ∧ Hid ((∀ (t : Nat) (p : Pt), t < lo → l[t]? = some p → p.key < k) ∧ (∀ (t : Nat) (p : Pt), hi ≤ t → l[t]? = some p → k ≤ p.key))) (fun i j _ => (intOf j).toNat - (intOf i).toNat)
  case atStart => exact ⟨0, n, Nat.zero_le _, Nat.le_refl _, rfl, rfl, Chg.refl _ _, Hid.mk ⟨fun t p ht => by omega, fun t p ht hp => by
      have := (List.getElem?_eq_some_iff.1 hp).1
      have := HR.out.2.2
      omega⟩⟩
  case round =>
    obtain ⟨lo, hi, hlh, hhn, rfl, rfl, hch, HI⟩ := hrel
    by_cases hlt : lo < hi
    · have hm : (lo + hi) / 2 < n := by omega
      obtain ⟨b, off, rfl, _, hat⟩ := HR.out.1.at4 (by omega)
      have ho : l[(lo + hi) / 2]? = some (l[(lo + hi) / 2]'(by have := HR.out.2.2; omega)) := List.getElem?_eq_getElem _
      generalize l[(lo + hi) / 2]'(by have := HR.out.2.2; omega) = o at ho
      obtain ⟨ky, x, y, v⟩ := o
      obtain ⟨c0, c1, c2, c3⟩ := hat wr hch _ ky x y v ho
      have HK := Hid.mk (And.intro hch ho)
      clear hch ho hat
      by_cases hk : ky < k
      · have hc : cmpP ky k < 0 := by simp [cmpP, hk]
        go_wp2_with fail
        refine (cmp_any ky x y v k _).mono ?_
        rintro e w1 ⟨rfl, hc1⟩
        have H1 := Hid.mk (HK.out.1.trans hc1 (fun _ _ h => h))
        clear hc1 c0 c1 c2 c3
        go_wp2_with fail
        go_roundw
        case rel =>
          refine ⟨(lo + hi) / 2 + 1, hi, by omega, hhn, by go_num, rfl, H1.out, Hid.mk ⟨fun t p ht hp => ?_, HI.out.2⟩⟩
          rcases Nat.lt_or_ge t ((lo + hi) / 2) with h | h
          · have := HR.out.2.1.key_lt h hp HK.out.2
            have : p.key < ky := this
            omega
          · obtain rfl : t = (lo + hi) / 2 := by omega
            rw [HK.out.2] at hp
            rw [← Option.some.inj hp]
            exact hk
        case measure => simp [intOf]; omega
      · have hc : ¬ cmpP ky k < 0 := by simp only [cmpP, hk, if_false]; split <;> omega
        go_wp2_with fail
        refine (cmp_any ky x y v k _).mono ?_
        rintro e w1 ⟨rfl, hc1⟩
        have H1 := Hid.mk (HK.out.1.trans hc1 (fun _ _ h => h))
        clear hc1 c0 c1 c2 c3
        go_wp2_with fail
        go_roundw
        case rel =>
          refine ⟨lo, (lo + hi) / 2, by omega, by omega, rfl, by go_num, H1.out, Hid.mk ⟨HI.out.1, fun t p ht hp => ?_⟩⟩
          rcases Nat.lt_or_ge ((lo + hi) / 2) t with h | h
          · have := HR.out.2.1.key_lt h HK.out.2 hp
            have : ky < p.key := this
            omega
          · obtain rfl : t = (lo + hi) / 2 := by omega
            rw [HK.out.2] at hp
            rw [← Option.some.inj hp]
            show k ≤ ky
            omega
        case measure => simp [intOf]; omega
    · obtain rfl : lo = hi := by omega
      have hpos : posP l k = lo := posP_eq (by have := HR.out.2.2; omega) (fun t p ht hp => HI.out.1 t p ht hp) (fun p hp => HI.out.2 lo p (Nat.le_refl _) hp)
      have hPe : P = lo := by rw [← HP.out.1, hpos]
      subst hPe
      by_cases hn0 : P < n
      · obtain ⟨b, off, rfl, _, hat⟩ := HR.out.1.at4 (by omega)
        have ho : l[P]? = some (l[P]'(by have := HR.out.2.2; omega)) := List.getElem?_eq_getElem _
        generalize l[P]'(by have := HR.out.2.2; omega) = o at ho
        obtain ⟨ky, x, y, v⟩ := o
        obtain ⟨c0, c1, c2, c3⟩ := hat wr hch _ ky x y v ho
        have hB : B = decide (ky = k) := by rw [← HP.out.2]; unfold hasP; rw [hpos, ho]
        have hge : k ≤ ky := HI.out.2 P _ (Nat.le_refl _) ho
        have HK := Hid.mk (And.intro hch (And.intro hB ho))
        clear hch ho hat hB hpos
        have hd : decide ((P : Int) < (n : Int)) = true := decide_eq_true (by omega)
        by_cases hk : ky = k
        · have hc : (cmpP ky k == 0) = true := by simp [cmpP, hk]
          have HB := Hid.mk (show B = true by rw [HK.out.2.1]; exact decide_eq_true hk)
          clear hk hge
          go_wp2_with fail
          refine (cmp_any ky x y v k _).mono ?_
          rintro e w1 ⟨rfl, hc1⟩
          have H1 := Hid.mk (HK.out.1.trans hc1 (fun _ _ h => h))
          clear hc1 c0 c1 c2 c3
          go_wp2_with fail
          go_ret2
          exact ⟨by rw [HB.out]; rfl, H1.out⟩
        · have hc : (cmpP ky k == 0) = false := by
            rw [beq_eq_false_iff_ne]
            simp only [cmpP, if_neg (show ¬ ky < k by omega), if_pos (show k < ky by omega)]
            omega
          have HB := Hid.mk (show B = false by rw [HK.out.2.1]; exact decide_eq_false hk)
          clear hk hge
          go_wp2_with fail
          refine (cmp_any ky x y v k _).mono ?_
          rintro e w1 ⟨rfl, hc1⟩
          have H1 := Hid.mk (HK.out.1.trans hc1 (fun _ _ h => h))
          clear hc1 c0 c1 c2 c3
          go_wp2_with fail
          go_ret2
          exact ⟨by rw [HB.out]; rfl, H1.out⟩
      · have hd : decide ((P : Int) < (n : Int)) = false := decide_eq_false (by omega)
        have HB := Hid.mk (show B = false by
          rw [← HP.out.2]; unfold hasP; rw [hpos, List.getElem?_eq_none (by have := HR.out.2.2; omega)])
        have HK := Hid.mk hch
        clear hch hpos
        go_wp2_with fail
        go_ret2
        exact ⟨by rw [HB.out]; rfl, HK.out⟩
set_option maxHeartbeats 1000000 in
set_option maxRecDepth 100000 in
theorem find_any (A : Option Addr) (n c : Nat) (l : List Pt) (k : Int) (S : Nat → Prop) (w : World) (hr : RdP w S A n l) (hn : n ≤ 1000000) (hup : Up l) :
    Calls Try.prog 60 #[.slice A n c, .int .i64 k] w fun e w' => e = .returned (.tuple #[.int .i64 (posP l k : Nat), .bool (hasP l k)]) ∧ Chg Nil w w' := by
  have H := Hid.mk (search_any A n c l k S w hr hn hup)
  clear hr hup hn
  go_enter Try.func60, Try.ntmps60
  go_wp2_with fail
  refine H.out.mono ?_
  rintro e w1 ⟨rfl, hc1⟩
  have HC := Hid.mk hc1
  clear hc1
  go_wp2_with fail
  go_ret2
  exact ⟨rfl, HC.out⟩

end Go.Proofs.Ytanipieeegeheaa
namespace Go.Proofs.Ytanipieeegeheaa
open Go.RowKit

def Blk (w : World) (g : Nat) (e : TypeId) (cur : List Value) : Prop := w.heap[g]? = some (.cells cur.toArray e (0, 0))
section
variable {w w' : World} {g : Nat} {e : TypeId} {cur : List Value} {sz n cap base : Nat} {xs : List Value}
theorem Blk.of_own (h : w.ownsRow base e sz (.slice (some ⟨g, 0, none⟩) n cap) n xs) : ∃ cur, Blk w g e cur ∧ base ≤ g ∧ n ≤ cap ∧ cap ≤ maxLen ∧ cur.length = cap * sz ∧ cur.take (n * sz) = xs := by
  rcases h.2 with ⟨he, _⟩ | ⟨g', cap', cur, he, hb, hg, hn, hm, hs, ht⟩
  · cases he
  · injection he with h1 _ h3
    injection h1 with h1
    injection h1 with h1
    subst h1 h3
    exact ⟨cur.toList, by unfold Blk; simpa using hg, hb, hn, hm, by simpa using hs, ht⟩
theorem Blk.own (h : Blk w g e cur) (hb : base ≤ g) (hn : n ≤ cap) (hm : cap ≤ maxLen) (hs : cur.length = cap * sz) : w.ownsRow base e sz (.slice (some ⟨g, 0, none⟩) n cap) n (cur.take (n * sz)) := by
  refine ⟨?_, .inr ⟨g, cap, cur.toArray, rfl, hb, h, hn, hm, by simpa using hs, by simp⟩⟩
  rw [List.length_take, hs]
  exact Nat.min_eq_left (Nat.mul_le_mul_right _ hn)
theorem Blk.lt (h : Blk w g e cur) : g < w.heap.size := by
  rcases Nat.lt_or_ge g w.heap.size with hlt | hge
  · exact hlt
  · unfold Blk at h; rw [Array.getElem?_eq_none hge] at h; cases h
theorem Blk.keep {S : Nat → Prop} (h : Blk w g e cur) (hc : Chg S w w') (hn : ¬ S g) : Blk w' g e cur := hc.block h hn
theorem Blk.cell (h : Blk w g e cur) (j : Nat) : w.cell? ⟨g, j, none⟩ = cur[j]? := by
  rw [cell_of_row w g j cur.toArray e (0, 0) h]
  simp
theorem Blk.free (h : Blk w g e cur) (j : Nat) : w.frozen? ⟨g, j, none⟩ = false := frozen_of_row w g j cur.toArray e h
theorem Blk.rds (h : Blk w g e cur) (o n : Nat) (hl : o + n * sz ≤ cur.length) : Rds w (· = g) sz (some ⟨g, o, none⟩) n ((cur.drop o).take (n * sz)) := by
  refine ⟨by rw [List.length_take, List.length_drop]; omega, fun _ => ⟨_, rfl, rfl, fun j u hu => ?_⟩⟩
  have hj : w.cell? ⟨g, o + j, none⟩ = some u := by
    rw [h.cell]
    rw [List.getElem?_take] at hu
    split at hu
    · rwa [List.getElem?_drop] at hu
    · cases hu
  unfold Addr.add
  split
  · next h0 => subst h0; simpa using hj
  · exact hj
variable {P : Program}
theorem Blk.store (h : Blk w g e cur) (o : Nat) (vs : List Value) (hl : o + vs.length ≤ cur.length) (h1 : ∀ v ∈ vs, v.oneCell' = true) :
    ∃ w', (storeCells ⟨g, o, none⟩ vs 0).run P w = .ok () w' ∧ Blk w' g e (splice cur o vs) ∧ Chg (· = g) w w' := by
  obtain ⟨w', hr, hg, hc⟩ := run_store_row (P := P) g o e 0 0 vs 0 cur w h (.inl (Nat.le_refl _)) hl h1
  exact ⟨w', hr, by unfold Blk splice; rw [hg]; simp, hc⟩

/-! ### copy -/
theorem run_copy_blk (h : Blk w g e cur) (dT sT ty elem : TypeId) (sz : Nat) (hu : P.underlying dT = some (.slice elem)) (hs : (P.info? elem).map (·.size) = some sz) (o dn dc : Nat)
    (S : Nat → Prop) (B : Option Addr) (m mc : Nat) (ys : List Value) (hr : Rds w S sz B m ys) (h1 : ∀ u ∈ ys.take (min m dn * sz), u.oneCell' = true) (hfit : o + min m dn * sz ≤ cur.length) :
    ∃ w', (Builtin.copy_ #[dT, sT] ty #[.slice (some ⟨g, o, none⟩) dn dc, .slice B m mc]).run P w = .ok (.int .i64 ((min m dn : Nat) : Int)) w' ∧ Blk w' g e (splice cur o (ys.take (min m dn * sz))) ∧ Chg (· = g) w w' := by
  cases hq : P.info? elem with
  | none => simp [hq] at hs
  | some i =>
    have hi' : i.size = sz := by simpa [hq] using hs
    have hnm : Nat.min m dn = min m dn := rfl
    rcases Nat.eq_zero_or_pos (min m dn) with h0 | hp
    · refine ⟨w, ?_, by rw [h0, Nat.zero_mul, List.take_zero]; unfold splice; simpa using h, Chg.refl _ _⟩
      have hl : ∀ (x : Addr), (loadCells x 0).run P w = .ok #[] w := fun x => by simpa using run_loadCells_list (P := P) w x [] (by simp)
      cases B <;> simp [Builtin.copy_, run_underlying hu, Builtin.lenOf, Builtin.firstCells, sizeOf, typeInfo, hq, hnm, h0, storeCells, hl, goInt]
    · obtain ⟨ad, rfl, _, hx⟩ := hr.2 (by omega)
      have hmul : min m dn * sz ≤ m * sz := Nat.mul_le_mul_right _ (Nat.min_le_left _ _)
      have hl : (ys.take (min m dn * sz)).length = min m dn * sz := by rw [List.length_take, hr.1]; omega
      have hsrc : ∀ j v, (ys.take (min m dn * sz))[j]? = some v → w.cell? (ad.add j) = some v := by
        intro j v hv
        rw [List.getElem?_take] at hv
        split at hv
        · exact hx j v hv
        · cases hv
      obtain ⟨w', hst, hb', hch⟩ := h.store (P := P) o (ys.take (min m dn * sz)) (by rw [hl]; exact hfit) h1
      have hld := run_loadCells_list (P := P) w ad _ hsrc
      rw [hl] at hld
      refine ⟨w', ?_, hb', hch⟩
      simp [Builtin.copy_, run_underlying hu, Builtin.lenOf, Builtin.firstCells, sizeOf, typeInfo, hq, hi', hnm, hld, hst, goInt]
theorem wp_copy_blk {o : Oper} {a : Act} {K : Act → World → Prop} {Q : Exit → Act → World → Prop} (d s : Operand) (dT sT : TypeId)
    (ho : o.op = .call { callee := .builtin .copy, args := #[d, s], argTypes := #[dT, sT] }) (h : Blk w g e cur) (elem : TypeId) (sz : Nat) (hu : P.underlying dT = some (.slice elem)) (hs : (P.info? elem).map (·.size) = some sz) (off dn dc : Nat)
    (S : Nat → Prop) (B : Option Addr) (m mc : Nat) (ys : List Value) (hr : Rds w S sz B m ys) (h1 : ∀ u ∈ ys.take (min m dn * sz), u.oneCell' = true) (hfit : off + min m dn * sz ≤ cur.length)
    (hd : a.eval d = .slice (some ⟨g, off, none⟩) dn dc) (hx : a.eval s = .slice B m mc)
    (hK : ∀ w', Blk w' g e (splice cur off (ys.take (min m dn * sz))) → Chg (· = g) w w' → K (a.put o.dst (.int .i64 ((min m dn : Nat) : Int))) w') : o.wp P a w K Q := by
  obtain ⟨w', hrun, h2, h3⟩ := run_copy_blk (P := P) h dT sT o.type elem sz hu hs off dn dc S B m mc ys hr h1 hfit
  unfold Oper.wp execOp
  simp only [ho, resolve, invoke, builtin, Sem.run_bind, Sem.run_pure, Result.andThen_ok, List.map_toArray, List.map_cons, List.map_nil, hd, hx, hrun]
  exact hK w' h2 h3
theorem wpl_copy_blk {ops : Array Oper} {rest : List Oper} {o : Oper} {a : Act} {Q : Exit → Act → World → Prop} (hgd : o.guard = none) (d s : Operand) (dT sT : TypeId)
    (ho : o.op = .call { callee := .builtin .copy, args := #[d, s], argTypes := #[dT, sT] }) (h : Blk w g e cur) (elem : TypeId) (sz : Nat) (hu : P.underlying dT = some (.slice elem)) (hs : (P.info? elem).map (·.size) = some sz) (off dn dc : Nat)
    (S : Nat → Prop) (B : Option Addr) (m mc : Nat) (ys : List Value) (hr : Rds w S sz B m ys) (h1 : ∀ u ∈ ys.take (min m dn * sz), u.oneCell' = true) (hfit : off + min m dn * sz ≤ cur.length)
    (hd : a.eval d = .slice (some ⟨g, off, none⟩) dn dc) (hx : a.eval s = .slice B m mc)
    (hK : ∀ w', Blk w' g e (splice cur off (ys.take (min m dn * sz))) → Chg (· = g) w w' → wpList P ops Q rest (a.put o.dst (.int .i64 ((min m dn : Nat) : Int))) w') : wpList P ops Q (o :: rest) a w :=
  wpList_plain hgd fun _ hk => wp_copy_blk d s dT sT ho h elem sz hu hs off dn dc S B m mc ys hr h1 hfit hd hx fun w' h2 h3 => hk _ _ (hK w' h2 h3)
theorem step_copy_blk {ops : Array Oper} {o : Oper} {a : Act} {K : Act → World → Prop} {Q : Exit → Act → World → Prop} {E : Prop} (hgd : o.guard = none) (d s : Operand) (dT sT : TypeId)
    (ho : o.op = .call { callee := .builtin .copy, args := #[d, s], argTypes := #[dT, sT] }) (h : Blk w g e cur) (elem : TypeId) (sz : Nat) (hu : P.underlying dT = some (.slice elem)) (hs : (P.info? elem).map (·.size) = some sz) (off dn dc : Nat)
    (S : Nat → Prop) (B : Option Addr) (m mc : Nat) (ys : List Value) (hr : Rds w S sz B m ys) (h1 : ∀ u ∈ ys.take (min m dn * sz), u.oneCell' = true) (hfit : off + min m dn * sz ≤ cur.length)
    (hd : a.eval d = .slice (some ⟨g, off, none⟩) dn dc) (hx : a.eval s = .slice B m mc)
    (hK : ∀ w', Blk w' g e (splice cur off (ys.take (min m dn * sz))) → Chg (· = g) w w' → K (a.put o.dst (.int .i64 ((min m dn : Nat) : Int))) w') : if Region.wanted o (yielded ops a.tmps) = true then Oper.wp P o a w K Q else E := by
  rw [if_pos (by simp [Region.wanted, hgd])]
  exact wp_copy_blk d s dT sT ho h elem sz hu hs off dn dc S B m mc ys hr h1 hfit hd hx hK

/-! ### append within the capacity -/
theorem run_append_fit (h : Blk w g e cur) (t ty elem : TypeId) (sz : Nat) (hu : P.underlying t = some (.slice elem)) (hs : (P.info? elem).map (·.size) = some sz) (n cap : Nat)
    (S : Nat → Prop) (B : Option Addr) (m mc : Nat) (ys : List Value) (hr : Rds w S sz B m ys) (h1 : ∀ u ∈ ys, u.oneCell' = true) (hroom : n + m ≤ cap) (hfit : cur.length = cap * sz) :
    ∃ w', (Builtin.append_ #[t, t] ty #[.slice (some ⟨g, 0, none⟩) n cap, .slice B m mc]).run P w = .ok (.slice (some ⟨g, 0, none⟩) (n + m) cap) w' ∧ Blk w' g e (splice cur (n * sz) ys) ∧ Chg (· = g) w w' := by
  cases hq : P.info? elem with
  | none => simp [hq] at hs
  | some i =>
    have hi' : i.size = sz := by simpa [hq] using hs
    subst hi'
    rcases Nat.eq_zero_or_pos m with rfl | hm
    · have hn : ys = [] := List.eq_nil_of_length_eq_zero (by simpa using hr.1)
      subst hn
      refine ⟨w, ?_, by unfold splice; simpa using h, Chg.refl _ _⟩
      have hnc : n ≤ cap := by omega
      cases B with
      | none => simp [Builtin.append_, run_underlying hu, sizeOf, typeInfo, hq, Builtin.lenOf, Builtin.firstCells, hnc, storeCells]
      | some ad => simp [Builtin.append_, run_underlying hu, sizeOf, typeInfo, hq, Builtin.lenOf, Builtin.firstCells, hnc, storeCells, loadCells, loadCellsFrom]
    · obtain ⟨ad, rfl, _, hx⟩ := hr.2 hm
      have hadd : ((⟨g, 0, none⟩ : Addr).add (n * i.size)) = ⟨g, n * i.size, none⟩ := by unfold Addr.add; split <;> simp_all
      have hl := hr.1
      have hfit2 : n * i.size + ys.length ≤ cur.length := by rw [hl, hfit, ← Nat.add_mul]; exact Nat.mul_le_mul_right _ hroom
      obtain ⟨w', hst, hb', hch⟩ := h.store (P := P) (n * i.size) ys hfit2 h1
      have hfc := run_firstCells_some (P := P) w i.size m ad m mc ys hl hx
      exact ⟨w', by simp [Builtin.append_, run_underlying hu, sizeOf, typeInfo, hq, Builtin.lenOf, hroom, hfc, hadd, hst], hb', hch⟩
theorem wp_append_fit {o : Oper} {a : Act} {K : Act → World → Prop} {Q : Exit → Act → World → Prop} (s x : Operand) (t : TypeId)
    (ho : o.op = .call { callee := .builtin .append, args := #[s, x], argTypes := #[t, t] }) (h : Blk w g e cur) (elem : TypeId) (sz : Nat) (hu : P.underlying t = some (.slice elem)) (hs : (P.info? elem).map (·.size) = some sz) (n cap : Nat)
    (S : Nat → Prop) (B : Option Addr) (m mc : Nat) (ys : List Value) (hr : Rds w S sz B m ys) (h1 : ∀ u ∈ ys, u.oneCell' = true) (hroom : n + m ≤ cap) (hfit : cur.length = cap * sz)
    (hd : a.eval s = .slice (some ⟨g, 0, none⟩) n cap) (hx : a.eval x = .slice B m mc)
    (hK : ∀ w', Blk w' g e (splice cur (n * sz) ys) → Chg (· = g) w w' → K (a.put o.dst (.slice (some ⟨g, 0, none⟩) (n + m) cap)) w') : o.wp P a w K Q := by
  obtain ⟨w', hrun, h2, h3⟩ := run_append_fit (P := P) h t o.type elem sz hu hs n cap S B m mc ys hr h1 hroom hfit
  unfold Oper.wp execOp
  simp only [ho, resolve, invoke, builtin, Sem.run_bind, Sem.run_pure, Result.andThen_ok, List.map_toArray, List.map_cons, List.map_nil, hd, hx, hrun]
  exact hK w' h2 h3
theorem step_append_fit {ops : Array Oper} {o : Oper} {a : Act} {K : Act → World → Prop} {Q : Exit → Act → World → Prop} {E : Prop} (hgd : o.guard = none) (s x : Operand) (t : TypeId)
    (ho : o.op = .call { callee := .builtin .append, args := #[s, x], argTypes := #[t, t] }) (h : Blk w g e cur) (elem : TypeId) (sz : Nat) (hu : P.underlying t = some (.slice elem)) (hs : (P.info? elem).map (·.size) = some sz) (n cap : Nat)
    (S : Nat → Prop) (B : Option Addr) (m mc : Nat) (ys : List Value) (hr : Rds w S sz B m ys) (h1 : ∀ u ∈ ys, u.oneCell' = true) (hroom : n + m ≤ cap) (hfit : cur.length = cap * sz)
    (hd : a.eval s = .slice (some ⟨g, 0, none⟩) n cap) (hx : a.eval x = .slice B m mc)
    (hK : ∀ w', Blk w' g e (splice cur (n * sz) ys) → Chg (· = g) w w' → K (a.put o.dst (.slice (some ⟨g, 0, none⟩) (n + m) cap)) w') : if Region.wanted o (yielded ops a.tmps) = true then Oper.wp P o a w K Q else E := by
  rw [if_pos (by simp [Region.wanted, hgd])]
  exact wp_append_fit s x t ho h elem sz hu hs n cap S B m mc ys hr h1 hroom hfit hd hx hK

/-! ### append of zeros that grows -/
theorem run_append_zgrow (w : World) (m : Nat) (t u ty e : TypeId) (i : TypeInfo) (z : Value) (sz bytes : Nat) (ht : P.underlying t = some (.slice e)) (hu : P.underlying u = some (.int .i64)) (hi : P.info? e = some i) (hz : i.zero = some z)
    (hsize : i.size = sz) (hby : i.bytes = bytes) (hzs : z.cells.size = sz) (hsz : 0 < sz)
    (S : Nat → Prop) (A : Option Addr) (n c : Nat) (xs : List Value) (hr : Rds w S sz A n xs) (hm : 0 < m) (hg : c < n + m) (h63 : n + m ≤ maxLen) (hbytes : (n + m) * bytes ≤ 140737488355328) :
    ∃ w' G cur, (Builtin.append_ #[t, u] ty #[.slice A n c, .int .i64 (m : Int)]).run P w = .ok (.slice (some ⟨w.heap.size, 0, none⟩) (n + m) G) w' ∧ n + m ≤ G ∧ G ≤ maxLen ∧ Blk w' w.heap.size e cur ∧ cur.length = G * sz ∧ cur.take (n * sz) = xs ∧ Chg Nil w w' ∧ w'.heap.size = w.heap.size + 1 := by
  subst hsize
  subst hby
  have hsmall : n + m ≤ 9223372036854775807 := by simp only [maxLen] at h63; omega
  have hwr : IntKind.i64.wrap (m : Int) = m := by rw [IntKind.wrap_i64]; omega
  have hneg : ¬ ((m : Int) < 0) := by omega
  have hmb : m * i.bytes ≤ 140737488355328 := Nat.le_trans (Nat.mul_le_mul_right _ (by omega)) hbytes
  have hbig : ¬ (281474976710656 < (m : Int) * (i.bytes : Int)) := by
    have : ((m * i.bytes : Nat) : Int) ≤ 140737488355328 := by omega
    rw [Int.natCast_mul] at this
    omega
  have hms : ¬ (m * i.size = 0) := by have := Nat.mul_pos hm hsz; omega
  have hroom : ¬ (n + m ≤ c) := by omega
  have h63' : ¬ (9223372036854775807 < ((n : Int) + (m : Int))) := by omega
  have h48 : ¬ (281474976710656 < Builtin.nextslicecap (n + m) c * i.bytes) := by have := growslice_fits hg hbytes; omega
  have hge := grownCap_ge w (n + m) c e
  have hcm : grownCap w (n + m) c e ≤ maxLen := grownCap_le_maxLen w (n + m) c e h63
  have hfo : (Builtin.firstCells i.size n (.slice A n c)).run P w.drew = .ok xs.toArray w.drew := by
    rcases Nat.eq_zero_or_pos n with rfl | hn
    · have : xs = [] := List.eq_nil_of_length_eq_zero (by simpa using hr.1)
      subst this
      cases A with
      | none => exact run_firstCells_none w.drew i.size 0 0 c
      | some ad => exact run_firstCells_some w.drew i.size 0 ad 0 c [] (by simp) (by simp)
    · obtain ⟨ad, rfl, _, hx⟩ := hr.2 hn
      exact run_firstCells_some w.drew i.size n ad n c xs hr.1 hx
  refine ⟨w.drew.alloc (.cells (xs.toArray ++ Builtin.zeroCells z.cells m ++ Builtin.zeroCells z.cells (grownCap w (n + m) c e - (n + m))) e), grownCap w (n + m) c e, xs ++ (Builtin.zeroCells z.cells m).toList ++ (Builtin.zeroCells z.cells (grownCap w (n + m) c e - (n + m))).toList, ?_, hge, hcm, ?_, ?_, ?_, ((Chg.refl _ w).drew).alloc _, by simp⟩
  · simp [Builtin.append_, run_underlying ht, run_underlying hu, sizeOf, typeInfo, zeroValue, hi, hz, hwr, hneg, hbig, hms, hroom, asInt, asIntOf, h63', h48, Question.forced, hfo, newRow, grownCap]
  · unfold Blk
    refine (heap_alloc_new w.drew _).trans ?_
    congr 2
    apply Array.ext'
    simp
  · simp only [List.length_append, Array.length_toList, size_zeroCells, hzs, hr.1, ← Nat.add_mul]
    congr 1
    omega
  · rw [List.append_assoc, List.take_left' hr.1]
theorem wpl_append_zgrow {w : World} {ops : Array Oper} {rest : List Oper} {o : Oper} {a : Act} {Q : Exit → Act → World → Prop} (hgd : o.guard = none) (s x : Operand) (t u : TypeId)
    (ho : o.op = .call { callee := .builtin .append, args := #[s, x], argTypes := #[t, u] }) (m : Nat) (e : TypeId) (i : TypeInfo) (z : Value) (sz bytes : Nat) (ht : P.underlying t = some (.slice e)) (hu : P.underlying u = some (.int .i64)) (hi : P.info? e = some i) (hz : i.zero = some z)
    (hsize : i.size = sz) (hby : i.bytes = bytes) (hzs : z.cells.size = sz) (hsz : 0 < sz)
    (S : Nat → Prop) (A : Option Addr) (n c : Nat) (xs : List Value) (hr : Rds w S sz A n xs) (hm : 0 < m) (hg : c < n + m) (h63 : n + m ≤ maxLen) (hbytes : (n + m) * bytes ≤ 140737488355328)
    (hd : a.eval s = .slice A n c) (hx : a.eval x = .int .i64 (m : Int))
    (hK : ∀ w' G cur, n + m ≤ G → G ≤ maxLen → Blk w' w.heap.size e cur → cur.length = G * sz → cur.take (n * sz) = xs → Chg Nil w w' → w'.heap.size = w.heap.size + 1 → wpList P ops Q rest (a.put o.dst (.slice (some ⟨w.heap.size, 0, none⟩) (n + m) G)) w') : wpList P ops Q (o :: rest) a w := by
  refine wpList_plain hgd fun K hk => ?_
  obtain ⟨w', G, cur, hrun, h2, h3, h4, h5, h6, h7, h8⟩ := run_append_zgrow (P := P) w m t u o.type e i z sz bytes ht hu hi hz hsize hby hzs hsz S A n c xs hr hm hg h63 hbytes
  unfold Oper.wp execOp
  simp only [ho, resolve, invoke, builtin, Sem.run_bind, Sem.run_pure, Result.andThen_ok, List.map_toArray, List.map_cons, List.map_nil, hd, hx, hrun]
  exact hk _ _ (hK w' G cur h2 h3 h4 h5 h6 h7 h8)

/-! ### clear -/
theorem run_clear_blk (h : Blk w g e cur) (t elem : TypeId) (z : Value) (hu : P.underlying t = some (.slice elem)) (hv : ∀ w, (zeroValue elem).run P w = .ok z w) (o n c : Nat) (hn : 0 < n) (h1 : ∀ u ∈ (Builtin.zeroCells z.cells n).toList, u.oneCell' = true)
    (hfit : o + n * z.cells.size ≤ cur.length) :
    ∃ w' vs, (∀ ty, (Builtin.clear_ #[t] ty #[.slice (some ⟨g, o, none⟩) n c]).run P w = .ok (.tuple #[]) w') ∧ Blk w' g e (splice cur o vs) ∧ vs.length = n * z.cells.size ∧ Chg (· = g) w w' := by
  have hl : (Builtin.zeroCells z.cells n).toList.length = n * z.cells.size := by rw [Array.length_toList, size_zeroCells]
  obtain ⟨w', hst, hb', hch⟩ := h.store (P := P) o (Builtin.zeroCells z.cells n).toList (by rw [hl]; exact hfit) h1
  refine ⟨w', _, fun ty => ?_, hb', hl, hch⟩
  obtain ⟨m, rfl⟩ : ∃ m, n = m + 1 := ⟨n - 1, by omega⟩
  simp [Builtin.clear_, run_underlying hu, hv, hst]
end

end Go.Proofs.Ytanipieeegeheaa
namespace Go.Proofs.Ytanipieeegeheaa
open Go.RowKit

theorem clonep_nil (n c : Nat) (w : World) : Calls Try.prog 53 #[.slice none n c] w fun e w' => e = .returned (.slice none 0 0) ∧ w' = w := by
  have q : ∀ (w : World) (a : Option Addr) (n c n' c' : Nat), (binOp .eql 36 (.slice a n c) (.slice none n' c')).run Try.prog w = .ok (.bool a.isNone) w := fun w a n c n' c' => Lib.run_eql_slice_nil w _ _ a n c n' c' Try.underlying36
  go_enter Try.func53, Try.ntmps53
  go_wp2
  go_ret
  exact ⟨rfl, rfl⟩
set_option maxHeartbeats 1000000 in
set_option maxRecDepth 100000 in
theorem clonep_some (ad : Addr) (n c : Nat) (l : List Pt) (S : Nat → Prop) (w : World) (hr : RdP w S (some ad) n l) (hl : n ≤ 1000000000) :
    Calls Try.prog 53 #[.slice (some ad) n c] w fun e w' => ∃ v', e = .returned v' ∧ w'.ownsRow w.heap.size 30 4 v' n (l.flatMap Pt.cs) ∧ Chg Nil w w' := by
  have q : ∀ (w : World) (a : Option Addr) (n c n' c' : Nat), (binOp .eql 36 (.slice a n c) (.slice none n' c')).run Try.prog w = .ok (.bool a.isNone) w := fun w a n c n' c' => Lib.run_eql_slice_nil w _ _ a n c n' c' Try.underlying36
  obtain ⟨i0, hi, hz0, hz1, hz2⟩ := info_parts Try.infoPt
  have hr1 : ∀ o, Rds (w.alloc o) (fun k => S k ∧ k < w.heap.size) 4 (some ad) n (l.flatMap Pt.cs) := fun o => (Rds.here hr (by omega)).keep ((Chg.refl Nil w).alloc o) (fun _ _ h => h)
  have HR := Hid.mk hr1
  clear hr hr1
  go_enter Try.func53, Try.ntmps53
  go_wp2_with (at_builtin; refine wpl_append rfl _ _ 36 rfl w.heap.size 30 i0 _ 4 32 Try.underlying36 hi hz0 hz1 hz2 rfl (by omega) _ _ _ rfl (World.ownsRow_made w #[] 0 (Nat.le_refl _) (Nat.zero_le _) (by simp)) _ (some ad) n c _ rfl (HR.out _) (pts_one _) ?c2 ?c3 ?c4 ?_)
  case c2 => simp only [maxLen]; omega
  case c3 => omega
  case c4 => simp
  intro v' w1 hown hg
  have H := Hid.mk (And.intro hown hg)
  clear hown hg
  go_wp2
  go_ret
  refine ⟨v', rfl, by simpa using H.out.1, ?_⟩
  exact ((Chg.refl Nil w).alloc _).trans H.out.2.chg (fun k hk h => by have := own_at h; omega)
theorem clonep_any (A : Option Addr) (n c : Nat) (l : List Pt) (S : Nat → Prop) (w : World) (hr : RdP w S A n l) (hl : n ≤ 1000000000) :
    Calls Try.prog 53 #[.slice A n c] w fun e w' => ∃ v', e = .returned v' ∧ w'.ownsRow w.heap.size 30 4 v' n (l.flatMap Pt.cs) ∧ Chg Nil w w' := by
  cases A with
  | some ad => exact clonep_some ad n c l S w hr hl
  | none =>
    have h0 : n = 0 := by
      rcases Nat.eq_zero_or_pos n with h | h
      · exact h
      · obtain ⟨ad, he, _⟩ := hr.2 h
        cases he
    subst h0
    have hb : l = [] := List.eq_nil_of_length_eq_zero (by simpa using hr.len)
    subst hb
    refine (clonep_nil 0 c w).mono ?_
    rintro e w' ⟨rfl, rfl⟩
    exact ⟨_, rfl, ⟨by simp, .inl ⟨rfl, rfl⟩⟩, Chg.refl _ _⟩

/-! ### lists of cells -/
theorem pts_take (l : List Pt) (k : Nat) : (l.flatMap Pt.cs).take (k * 4) = (l.take k).flatMap Pt.cs := by
  induction l generalizing k with
  | nil => simp
  | cons a t ih =>
    cases k with
    | zero => simp
    | succ k =>
      have ha : a.cs.length = 4 := rfl
      rw [List.flatMap_cons, List.take_succ_cons, List.flatMap_cons, ← ih k, List.take_append, ha, List.take_of_length_le (by rw [ha]; omega), show (k + 1) * 4 - 4 = k * 4 by omega]
theorem pts_drop (l : List Pt) (k : Nat) : (l.flatMap Pt.cs).drop (k * 4) = (l.drop k).flatMap Pt.cs := by
  induction l generalizing k with
  | nil => simp
  | cons a t ih =>
    cases k with
    | zero => simp
    | succ k =>
      have ha : a.cs.length = 4 := rfl
      rw [List.flatMap_cons, List.drop_succ_cons, ← ih k, List.drop_append, ha, List.drop_of_length_le (by rw [ha]; omega), show (k + 1) * 4 - 4 = k * 4 by omega, List.nil_append]
theorem list_of_parts {α : Type} {a b : List α} (k : Nat) (h1 : a.take k = b.take k) (h2 : a.drop k = b.drop k) : a = b := by rw [← List.take_append_drop k a, h1, h2, List.take_append_drop]
theorem splice_take {α : Type} (L : List α) (o k : Nat) (vs : List α) (h : k ≤ o) (hl : o ≤ L.length) : (splice L o vs).take k = L.take k := by
  unfold splice
  rw [List.take_append_of_le_length (by rw [List.length_take]; omega), List.take_take, Nat.min_eq_left h]
/-- What the two copies of Insert leave: first i, the one, the rest. -/
theorem ins_cells (cur : List Value) (L N i : Nat) (vs : List Value) (hi : i ≤ N) (hf : N + 4 ≤ cur.length) (hv : vs.length = 4) (C1 : List Value) (h1 : C1 = splice cur (i + 4) ((cur.drop i).take (N - i))) (hL : L = N + 4) :
    (splice C1 i vs).take L = (cur.take N).take i ++ vs ++ (cur.take N).drop i := by
  subst h1 hL
  have hm : ((cur.drop i).take (N - i)).length = N - i := by rw [List.length_take, List.length_drop]; omega
  have e1 : (splice cur (i + 4) ((cur.drop i).take (N - i))).take i = cur.take i := splice_take _ _ _ _ (by omega) (by omega)
  have e2 : (splice cur (i + 4) ((cur.drop i).take (N - i))).drop (i + 4) = (cur.drop i).take (N - i) ++ cur.drop (N + 4) := by
    unfold splice
    rw [List.drop_left' (by rw [List.length_take]; omega), hm, show i + 4 + (N - i) = N + 4 by omega]
  have e3 : splice (splice cur (i + 4) ((cur.drop i).take (N - i))) i vs = cur.take i ++ (vs ++ ((cur.drop i).take (N - i) ++ cur.drop (N + 4))) := by
    have : splice (splice cur (i + 4) ((cur.drop i).take (N - i))) i vs = (splice cur (i + 4) ((cur.drop i).take (N - i))).take i ++ (vs ++ (splice cur (i + 4) ((cur.drop i).take (N - i))).drop (i + vs.length)) := rfl
    rw [this, hv, e1, e2]
  rw [e3, ← List.append_assoc, ← List.append_assoc, List.take_left']
  · rw [List.take_take, Nat.min_eq_left hi, List.drop_take]
  · simp only [List.length_append, List.length_take, hv, hm]; omega
/-- The same behind a new row. -/
theorem ins_cells2 (cur : List Value) (L N i : Nat) (vs rest xs : List Value) (hx : xs.length = N) (hi : i ≤ N) (hf : N + 4 ≤ cur.length) (hv : vs.length = 4) (hc : cur.take i = xs.take i) (hr : rest = xs.drop i) (hL : L = N + 4) :
    (splice (splice cur i vs) (i + 4) rest).take L = xs.take i ++ vs ++ xs.drop i := by
  subst hr hL
  have hrl : (xs.drop i).length = N - i := by rw [List.length_drop, hx]
  have e1 : (splice cur i vs).take (i + 4) = xs.take i ++ vs := by
    unfold splice
    rw [← List.append_assoc, List.take_left' (by rw [List.length_append, List.length_take, hv]; omega), hc]
  have e3 : splice (splice cur i vs) (i + 4) (xs.drop i) = (splice cur i vs).take (i + 4) ++ (xs.drop i ++ (splice cur i vs).drop (i + 4 + (xs.drop i).length)) := rfl
  rw [e3, e1, ← List.append_assoc, List.take_left']
  simp only [List.length_append, List.length_take, hv, hrl]; omega
theorem pts_ins (l : List Pt) (i : Nat) (p : Pt) : (l.take i ++ p :: l.drop i).flatMap Pt.cs = (l.flatMap Pt.cs).take (i * 4) ++ p.cs ++ (l.flatMap Pt.cs).drop (i * 4) := by
  rw [pts_take, pts_drop]; simp

theorem Try.sizePt : (Try.prog.info? 30).map (·.size) = some 4 := by kernel_rfl
theorem bk_rds {w : World} {g : Nat} {e : TypeId} (p : Pt) (h : Bk w g e p.cs.toArray) : RdP w (· = g) (some ⟨g, 0, none⟩) 1 [p] := by
  refine ⟨by rw [pts_len]; rfl, fun _ => ⟨_, rfl, rfl, fun j u hu => ?_⟩⟩
  have := h.cell j (u := u) (by simpa using hu)
  unfold Addr.add
  split
  · next h0 => subst h0; exact this
  · simpa using this

set_option maxHeartbeats 2000000 in
set_option maxRecDepth 100000 in
theorem insert_end (base : Nat) (A : Option Addr) (n c : Nat) (l : List Pt) (p : Pt) (vb : Nat) (w : World) (hown : w.ownsRow base 30 4 (.slice A n c) n (l.flatMap Pt.cs)) (hv : Bk w vb 30 p.cs.toArray) (hb : base ≤ w.heap.size) (hn : n ≤ 1000000) :
    Calls Try.prog 77 #[.slice A n c, .int .i64 (n : Int), .slice (some ⟨vb, 0, none⟩) 1 1] w fun e w' => ∃ v', e = .returned v' ∧ w'.ownsRow base 30 4 v' (n + 1) ((l ++ [p]).flatMap Pt.cs) ∧ Grew w (.slice A n c) w' v' := by
  obtain ⟨i0, hi, hz0, hz1, hz2⟩ := info_parts Try.infoPt
  have hcut := fun W => run_cut_from (P := Try.prog) 36 30 i0 4 Try.underlying36 hi hz1 A n c n .i64 (Nat.le_refl _) W
  have HO := Hid.mk (And.intro hown (And.intro hv hb))
  have HR := Hid.mk (bk_rds p hv)
  clear hown hv hb
  go_enter Try.func77, Try.ntmps77
  go_wp2_with (at_builtin; refine wpl_append rfl (.tmp 23) (.tmp 24) 36 rfl base 30 i0 _ 4 32 Try.underlying36 hi hz0 hz1 hz2 rfl (by omega) _ n _ rfl HO.out.1 _ (some ⟨vb, 0, none⟩) 1 1 _ rfl HR.out (pts_one _) (by simp only [maxLen]; omega) (by omega) HO.out.2.2 ?_; intro v2 w2 o2 g2; have H2 := Hid.mk (And.intro o2 g2); clear o2 g2)
  go_ret
  exact ⟨v2, rfl, by simpa using H2.out.1, H2.out.2⟩
set_option maxHeartbeats 2000000 in
set_option maxRecDepth 100000 in
theorem insert_room (base g n c i : Nat) (l : List Pt) (p : Pt) (vb : Nat) (w : World) (hown : w.ownsRow base 30 4 (.slice (some ⟨g, 0, none⟩) n c) n (l.flatMap Pt.cs)) (hv : Bk w vb 30 p.cs.toArray) (hne : vb ≠ g) (hn : n ≤ 1000000) (hi : i < n) (hroom : n < c) :
    Calls Try.prog 77 #[.slice (some ⟨g, 0, none⟩) n c, .int .i64 (i : Int), .slice (some ⟨vb, 0, none⟩) 1 1] w fun e w' => ∃ v', e = .returned v' ∧ w'.ownsRow base 30 4 v' (n + 1) ((l.take i ++ p :: l.drop i).flatMap Pt.cs) ∧ Grew w (.slice (some ⟨g, 0, none⟩) n c) w' v' := by
  obtain ⟨cur, hB, hbg, hnc, hcm, hcl, hct⟩ := Blk.of_own hown
  have hone : ∀ u ∈ cur.take (n * 4), u.oneCell' = true := by rw [hct]; exact pts_one l
  obtain ⟨i0, hi0, hz0, hz1, hz2⟩ := info_parts Try.infoPt
  have hsz : ∀ W, (sizeOf 30).run Try.prog W = .ok 4 W := fun W => by simp [sizeOf, typeInfo, hi0, hz1]
  have hsa : w.shape? vb = some (30, 4) := by unfold World.shape?; rw [hv]; rfl
  have hsb : w.shape? g = some (30, c * 4) := by unfold World.shape?; rw [hB]; simp [hcl]
  have hov : ∀ lb cb, (callFunc 95 #[.slice (some ⟨vb, 0, none⟩) 1 1, .slice (some ⟨g, (i + 1) * 4, none⟩) lb cb]).run Try.prog w = .ok (.value (.bool false)) w := fun lb cb => by
    rw [run_callFunc_extern Try.func95 (by kernel_rfl) (by kernel_rfl) (by kernel_rfl) (e := Extern.SlicesOverlaps.overlaps #[36, 36] #[4]) (by kernel_rfl),
      Lib.run_overlaps_apart w 36 4 30 Try.underlying36 4 hsz ⟨vb, 0, none⟩ ⟨g, (i + 1) * 4, none⟩ 1 1 lb cb hne 30 30 4 (c * 4) hsa hsb (by omega) (hv.free 0) (hv.free 4)]
    rfl
  have hi1 : ¬ (c = i + 1) := by omega
  have hi2 : ¬ (c = i) := by omega
  have hcm' := hcm
  unfold maxLen at hcm'
  have hbz : ¬ ((i : Int) = (n : Int)) := by omega
  have hfn := pts_ins l i p
  rw [← hct] at hfn
  have HO := Hid.mk (And.intro hB (And.intro hct (And.intro hone (And.intro hcl (And.intro hv (And.intro hcm (And.intro hbg hfn)))))))
  have hys : (((cur.drop (i * 4)).take ((n + 1 - i) * 4)).take (min (n + 1 - i) (n - i) * 4)) = (cur.take (n * 4)).drop (i * 4) := by
    rw [List.take_take, List.drop_take, show min (min (n + 1 - i) (n - i) * 4) ((n + 1 - i) * 4) = n * 4 - i * 4 by omega]
  have HY := Hid.mk (And.intro hys (show ∀ u ∈ (((cur.drop (i * 4)).take ((n + 1 - i) * 4)).take (min (n + 1 - i) (n - i) * 4)), u.oneCell' = true by
    rw [hys]; exact fun u hu => hone u (List.mem_of_mem_drop hu)))
  have HF := Hid.mk (show (i + 1) * 4 + min (n + 1 - i) (n - i) * 4 ≤ cur.length by rw [hcl]; omega)
  clear hys
  have HRD := Hid.mk (fun (W : World) (h : Blk W g 30 cur) => h.rds (sz := 4) (i * 4) (n + 1 - i) (by rw [hcl]; omega))
  clear hB hct hone hcl hv hcm hown hbg hsa hsb hsz hfn
  go_enter Try.func77, Try.ntmps77
  go_wp2_with (simp only [hov])
  have hw1 : IntKind.i64.wrap ((i : Int) + 1) = (i : Int) + 1 := by rw [IntKind.wrap_i64]; omega
  have hb1 : (0 : Int) ≤ (i : Int) + 1 := by omega
  have htn : ((i : Int) + 1).toNat = i + 1 := by omega
  have hin : i ≤ n := by omega
  have hb3 : (i : Int) ≤ (n : Int) + 1 := by omega
  go_region_law ((refine step_copy_blk rfl (.tmp 73) (.tmp 76) 36 36 rfl (show Blk w.drew g 30 cur from HO.out.1) 30 4 Try.underlying36 Try.sizePt ((i + 1) * 4) (n - i) (c - (i + 1)) _ (some ⟨g, i * 4, none⟩) (n + 1 - i) (c - i) _ (HRD.out _ HO.out.1) HY.out.2 HF.out (by simp [Act.eval, Act.put]) (by simp [Act.eval, Act.put]) ?_); intro w1 q1 q2; have H1 := Hid.mk (And.intro q1 q2); clear q1 q2)
  have hv1 := Bk.keep (S := fun x => x = g) HO.out.2.2.2.2.1.drew H1.out.2 hne
  have HR1 := Hid.mk (show Rds w1 (· = vb) 4 (some ⟨vb, 0, none⟩) 1 ([p].flatMap Pt.cs) from bk_rds p hv1)
  clear hv1
  have HF2 := Hid.mk (show i * 4 + min 1 (n + 1 - i) * 4 ≤ (splice cur ((i + 1) * 4) ((((cur.drop (i * 4)).take ((n + 1 - i) * 4)).take (min (n + 1 - i) (n - i) * 4)))).length by
    rw [length_splice _ _ _ (by rw [List.length_take, List.length_take, List.length_drop, HO.out.2.2.2.1]; omega), HO.out.2.2.2.1]; omega)
  go_wp2_with ((with_reducible refine wpl_copy_blk (o := ⟨some 82, _, _, _, _, _⟩) rfl (.tmp 80) (.tmp 81) 36 36 rfl H1.out.1 30 4 Try.underlying36 Try.sizePt (i * 4) (n + 1 - i) (c - i) _ (some ⟨vb, 0, none⟩) 1 1 _ HR1.out (fun u hu => pts_one [p] u (List.mem_of_mem_take hu)) HF2.out rfl rfl ?_); intro w2 q1 q2; have H2 := Hid.mk (And.intro q1 q2); clear q1 q2)
  go_ret
  have hcells := ins_cells cur ((n + 1) * 4) (n * 4) (i * 4) p.cs (by omega) (by rw [HO.out.2.2.2.1]; omega) rfl _ rfl (by omega)
  have h2 := H2.out.1
  rw [HY.out.1] at h2
  have e1 : (([p].flatMap Pt.cs).take (min 1 (n + 1 - i) * 4)) = p.cs := by rw [show min 1 (n + 1 - i) = 1 by omega]; simp [Pt.cs]
  have e2 : (cur.drop (i * 4)).take (n * 4 - i * 4) = (cur.take (n * 4)).drop (i * 4) := by rw [List.drop_take]
  rw [e1] at h2
  rw [e2] at hcells
  refine ⟨_, rfl, ?_, ?_⟩
  · rw [HO.out.2.2.2.2.2.2.2]
    rw [show i * 4 + 4 = (i + 1) * 4 by omega] at hcells
    rw [← hcells]
    exact h2.own HO.out.2.2.2.2.2.2.1 (by omega) HO.out.2.2.2.2.2.1 (by
      rw [length_splice _ _ _ (by rw [length_splice _ _ _ (by rw [List.length_drop, List.length_take, HO.out.2.2.2.1]; omega), HO.out.2.2.2.1]; simp [Pt.cs]; omega), length_splice _ _ _ (by rw [List.length_drop, List.length_take, HO.out.2.2.2.1]; omega), HO.out.2.2.2.1])
  · refine ⟨?_, fun k _ hk => hk⟩
    exact ((((Chg.refl _ w).drew).trans H1.out.2 (fun _ _ h => h)).trans H2.out.2 (fun _ _ h => h)).wider (fun k _ hk => by subst hk; rfl)
set_option maxHeartbeats 2000000 in
set_option maxRecDepth 100000 in
theorem insert_grow (base g n c i : Nat) (l : List Pt) (p : Pt) (vb : Nat) (w : World) (hown : w.ownsRow base 30 4 (.slice (some ⟨g, 0, none⟩) n c) n (l.flatMap Pt.cs)) (hv : Bk w vb 30 p.cs.toArray) (hb : base ≤ w.heap.size) (hn : n ≤ 1000000) (hi : i < n) (hroom : c < n + 1) :
    Calls Try.prog 77 #[.slice (some ⟨g, 0, none⟩) n c, .int .i64 (i : Int), .slice (some ⟨vb, 0, none⟩) 1 1] w fun e w' => ∃ v', e = .returned v' ∧ w'.ownsRow base 30 4 v' (n + 1) ((l.take i ++ p :: l.drop i).flatMap Pt.cs) ∧ Grew w (.slice (some ⟨g, 0, none⟩) n c) w' v' := by
  have hl := RdP.len (Rds.of_own hown)
  obtain ⟨cur, hB, hbg, hnc, hcm, hcl, hct⟩ := Blk.of_own hown
  obtain ⟨i0, hi0, hz0, hz1, hz2⟩ := info_parts Try.infoPt
  have hgw := hB.lt
  have hvw := hv.lt
  have hi2 : ¬ (c = i) := by omega
  have hbz : ((i : Int) == (n : Int)) = false := by rw [beq_eq_false_iff_ne]; omega
  have hbc : decide ((c : Int) < (n : Int) + 1) = true := decide_eq_true (by omega)
  have hfn := pts_ins l i p
  have hsrc : Rds w (· = g) 4 (some ⟨g, 0, none⟩) i ((l.flatMap Pt.cs).take (i * 4)) := by
    have h := hB.rds (sz := 4) 0 i (by rw [hcl]; omega)
    rw [List.drop_zero] at h
    rw [← hct, List.take_take, Nat.min_eq_left (by omega)]
    exact h
  have hrest : ∀ W, Blk W g 30 cur → Rds W (· = g) 4 (some ⟨g, i * 4, none⟩) (n - i) ((l.flatMap Pt.cs).drop (i * 4)) := fun W h => by
    have h' := h.rds (sz := 4) (i * 4) (n - i) (by rw [hcl]; omega)
    rw [← hct, List.drop_take, ← Nat.sub_mul]
    exact h'
  have HO := Hid.mk (And.intro hB (And.intro hsrc (And.intro hrest (And.intro hcl (And.intro hv (And.intro hcm (And.intro hbg (And.intro hfn (And.intro hb (And.intro hgw (And.intro hvw hl)))))))))))
  clear hB hct hcl hv hcm hown hbg hfn hsrc hrest hb hgw hvw hl
  have HE := Hid.mk (show Value.int .i64 ((n : Int) + 1 - (i : Int)) = Value.int .i64 ((n + 1 - i : Nat) : Int) by rw [show (n : Int) + 1 - (i : Int) = ((n + 1 - i : Nat) : Int) by omega])
  go_enter Try.func77, Try.ntmps77
  go_wp2_with (first
    | (at_builtin; refine wpl_append_zgrow rfl (.tmp 34) (.tmp 39) 36 3 rfl (n + 1 - i) 30 i0 _ 4 32 Try.underlying36 Try.underlying3 hi0 hz0 hz1 hz2 rfl (by omega) _ (some ⟨g, 0, none⟩) i c _ HO.out.2.1 (by omega) (by omega) (by unfold maxLen; omega) (by omega) rfl HE.out ?_; intro w1 G cur1 q1 q2 q3 q4 q5 q6 q7; have H1 := Hid.mk (And.intro q3 (And.intro q4 (And.intro q5 (And.intro q6 (And.intro q7 q2))))); have hL1 : i + (n + 1 - i) = n + 1 := (by omega); clear q2 q3 q4 q5 q6 q7; have hG1 : ¬ (G = i) := (by omega); have hG2 : ¬ (G = i + 1) := (by omega); have hin : i ≤ n + 1 := (by omega); have hv1 := Bk.keep HO.out.2.2.2.2.1 H1.out.2.2.2.1 (fun h => h); have HR1 := Hid.mk (show Rds w1 (fun x => x = vb) 4 (some ⟨vb, 0, none⟩) 1 ([p].flatMap Pt.cs) from bk_rds p hv1); clear hv1; have HF1 := Hid.mk (show i * 4 + min 1 (n + 1 - i) * 4 ≤ cur1.length from (by rw [H1.out.2.1]; omega)))
    | ((with_reducible refine wpl_copy_blk (o := ⟨some 45, _, _, _, _, _⟩) rfl (.tmp 43) (.tmp 44) 36 36 rfl H1.out.1 30 4 Try.underlying36 Try.sizePt (i * 4) (n + 1 - i) (G - i) _ (some ⟨vb, 0, none⟩) 1 1 _ HR1.out (fun u hu => pts_one [p] u (List.mem_of_mem_take hu)) HF1.out rfl rfl ?_); intro w2 q1 q2; have H2 := Hid.mk (And.intro q1 q2); clear q1 q2))
  have hw1 : IntKind.i64.wrap ((i : Int) + 1) = (i : Int) + 1 := by rw [IntKind.wrap_i64]; omega
  have hb1 : (0 : Int) ≤ (i : Int) + 1 := by omega
  have htn : ((i : Int) + 1).toNat = i + 1 := by omega
  have hin2 : i ≤ n := by omega
  have hb3 : (i : Int) ≤ (n : Int) + 1 := by omega
  have hBw : Blk w2.drew g 30 cur := Blk.keep (S := fun x => x = w.heap.size) (HO.out.1.keep H1.out.2.2.2.1 (fun h => h)) H2.out.2.drew (show ¬ g = w.heap.size from (by have := HO.out.2.2.2.2.2.2.2.2.2.1; omega))
  have HSr := Hid.mk (HO.out.2.2.1 _ hBw)
  clear hBw
  have hl1 : ((l.flatMap Pt.cs).drop (i * 4)).length = (n - i) * 4 := by rw [List.length_drop, pts_len, HO.out.2.2.2.2.2.2.2.2.2.2.2]; omega
  have hys : ((l.flatMap Pt.cs).drop (i * 4)).take (min (n - i) (n - i) * 4) = (l.flatMap Pt.cs).drop (i * 4) := by rw [Nat.min_self, List.take_of_length_le (by rw [hl1]; exact Nat.le_refl _)]
  have hc2l : (splice cur1 (i * 4) (([p].flatMap Pt.cs).take (min 1 (n + 1 - i) * 4))).length = G * 4 := by
    rw [length_splice _ _ _ (by rw [List.length_take, pts_len, H1.out.2.1]; simp; omega), H1.out.2.1]
  have HF2 := Hid.mk (And.intro (show (i + 1) * 4 + min (n - i) (n - i) * 4 ≤ (splice cur1 (i * 4) (([p].flatMap Pt.cs).take (min 1 (n + 1 - i) * 4))).length by rw [hc2l]; omega) (And.intro hys hc2l))
  clear hl1 hys hc2l
  go_region_law ((refine step_copy_blk rfl (.tmp 50) (.tmp 53) 36 36 rfl (show Blk w2.drew w.heap.size 30 _ from H2.out.1) 30 4 Try.underlying36 Try.sizePt ((i + 1) * 4) (n - i) (G - (i + 1)) _ (some ⟨g, i * 4, none⟩) (n - i) (c - i) _ HSr.out (fun u hu => pts_one l u (List.mem_of_mem_drop (List.mem_of_mem_take hu))) HF2.out.1 (by simp [Act.eval, Act.put]) (by simp [Act.eval, Act.put]) ?_); intro w3 q1 q2; have H3 := Hid.mk (And.intro q1 q2); clear q1 q2)
  go_wp2_with fail
  go_ret
  have h3 := H3.out.1
  rw [HF2.out.2.1] at h3
  have e1 : (([p].flatMap Pt.cs).take (min 1 (n + 1 - i) * 4)) = p.cs := by rw [show min 1 (n + 1 - i) = 1 by omega]; simp [Pt.cs]
  have hcl2 := HF2.out.2.2
  rw [e1] at h3 hcl2
  have hcells := ins_cells2 cur1 ((n + 1) * 4) (n * 4) (i * 4) p.cs _ (l.flatMap Pt.cs) (by rw [pts_len, HO.out.2.2.2.2.2.2.2.2.2.2.2]) (by omega) (by rw [H1.out.2.1]; omega) rfl H1.out.2.2.1 rfl (by omega)
  rw [show i * 4 + 4 = (i + 1) * 4 by omega] at hcells
  have hs0 := HO.out.2.2.2.2.2.2.2.2.1
  refine ⟨_, rfl, ?_, ?_⟩
  · rw [HO.out.2.2.2.2.2.2.2.1, ← hcells]
    exact h3.own (by omega) (by omega) H1.out.2.2.2.2.2 (by
      rw [length_splice _ _ _ (by rw [hcl2, List.length_drop, pts_len, HO.out.2.2.2.2.2.2.2.2.2.2.2]; omega), hcl2])
  · have c12 := (H1.out.2.2.2.1.trans (H2.out.2.wider (T := fun k => k = w.heap.size) (fun _ _ h => h)) (fun j hj h => by have h' : j = w.heap.size := h; omega))
    have c3 := ((c12.drew).trans H3.out.2 (fun j hj h => by have h' : j = w.heap.size := h; omega))
    exact ⟨c3.wider (fun _ _ h => h.elim), fun k hk h => by have := own_at h; omega⟩
/-- slices.Insert of one point into a row of the call's own. -/
theorem insert_any (base : Nat) (A : Option Addr) (n c i : Nat) (l : List Pt) (p : Pt) (vb : Nat) (w : World) (hown : w.ownsRow base 30 4 (.slice A n c) n (l.flatMap Pt.cs)) (hv : Bk w vb 30 p.cs.toArray) (hne : ∀ k, Own (.slice A n c) k → vb ≠ k) (hb : base ≤ w.heap.size) (hn : n ≤ 1000000) (hi : i ≤ n) :
    Calls Try.prog 77 #[.slice A n c, .int .i64 (i : Int), .slice (some ⟨vb, 0, none⟩) 1 1] w fun e w' => ∃ v', e = .returned v' ∧ w'.ownsRow base 30 4 v' (n + 1) ((l.take i ++ p :: l.drop i).flatMap Pt.cs) ∧ Grew w (.slice A n c) w' v' := by
  have hl := RdP.len (Rds.of_own hown)
  by_cases he : i = n
  · subst he
    rw [List.take_of_length_le (by omega), List.drop_of_length_le (by omega)]
    exact insert_end base A i c l p vb w hown hv hb hn
  · have hform : ∃ g, A = some ⟨g, 0, none⟩ := by
      rcases hown.2 with ⟨_, h0⟩ | ⟨g, cap, cur, h1, _⟩
      · omega
      · injection h1 with h1
        exact ⟨g, h1⟩
    obtain ⟨g, rfl⟩ := hform
    rcases Nat.lt_or_ge n c with h | h
    · exact insert_room base g n c i l p vb w hown hv (hne g rfl) hn (by omega) h
    · exact insert_grow base g n c i l p vb w hown hv hb hn (by omega) (by omega)

end Go.Proofs.Ytanipieeegeheaa
namespace Go.Proofs.Ytanipieeegeheaa
open Go.RowKit

theorem del_cells (cur xs : List Value) (n i : Nat) (hi : i < n) (hx : cur.take (n * 4) = xs) (hxl : xs.length = n * 4) (vs : List Value) (o : Nat) (ho : o = (i + (n - (i + 1))) * 4) (hfit : n * 4 ≤ cur.length) :
    (splice (splice cur (i * 4) (xs.drop ((i + 1) * 4))) o vs).take ((i + (n - (i + 1))) * 4) = xs.take (i * 4) ++ xs.drop ((i + 1) * 4) := by
  have hd : (xs.drop ((i + 1) * 4)).length = (n - (i + 1)) * 4 := by rw [List.length_drop, hxl]; omega
  have hcl : (splice cur (i * 4) (xs.drop ((i + 1) * 4))).length = cur.length := length_splice _ _ _ (by rw [hd]; omega)
  rw [splice_take _ _ _ _ (by omega) (by rw [hcl, ho]; omega)]
  unfold splice
  rw [← List.append_assoc, List.take_left' (by rw [List.length_append, List.length_take, hd]; omega), ← hx, List.take_take, Nat.min_eq_left (by omega)]
theorem zero_pt : ∀ u ∈ (Builtin.zeroCells (Value.agg #[.int .i64 0, .int .i64 0, .int .i64 0, .int .i64 0]).cells 1).toList, u.oneCell' = true := by
  intro u hu
  have e : (Builtin.zeroCells (Value.agg #[.int .i64 0, .int .i64 0, .int .i64 0, .int .i64 0]).cells 1).toList = [.int .i64 0, .int .i64 0, .int .i64 0, .int .i64 0] := by kernel_rfl
  rw [e] at hu
  simp at hu
  subst hu
  rfl
set_option maxHeartbeats 2000000 in
set_option maxRecDepth 100000 in
theorem delete_any (base : Nat) (g n c i : Nat) (l : List Pt) (w : World) (hown : w.ownsRow base 30 4 (.slice (some ⟨g, 0, none⟩) n c) n (l.flatMap Pt.cs)) (hn : n ≤ 1000000) (hi : i < n) :
    Calls Try.prog 78 #[.slice (some ⟨g, 0, none⟩) n c, .int .i64 (i : Int), .int .i64 ((i : Int) + 1)] w fun e w' => ∃ v', e = .returned v' ∧ w'.ownsRow base 30 4 v' (n - 1) ((l.take i ++ l.drop (i + 1)).flatMap Pt.cs) ∧ Grew w (.slice (some ⟨g, 0, none⟩) n c) w' v' := by
  obtain ⟨m, rfl⟩ : ∃ m, n = m + 1 := ⟨n - 1, by omega⟩
  have hl := RdP.len (Rds.of_own hown)
  have hpl := pts_len l
  rw [hl] at hpl
  obtain ⟨cur, hB, hbg, hnc, hcm, hcl, hct⟩ := Blk.of_own hown
  obtain ⟨i0, hi0, hz0, hz1, hz2⟩ := info_parts Try.infoPt
  have hzv : ∀ W, (zeroValue 30).run Try.prog W = .ok (.agg #[.int .i64 0, .int .i64 0, .int .i64 0, .int .i64 0]) W := fun W => by simp [zeroValue, typeInfo, hi0, hz0]
  have hfn : (l.take i ++ l.drop (i + 1)).flatMap Pt.cs = (l.flatMap Pt.cs).take (i * 4) ++ (l.flatMap Pt.cs).drop ((i + 1) * 4) := by rw [pts_take, pts_drop]; simp
  have hsrc : Rds w (· = g) 4 (cutA 4 (some ⟨g, 0, none⟩) c (i + 1)) (m - i) ((l.flatMap Pt.cs).drop ((i + 1) * 4)) := by
    have h := cutA_rds (k := i + 1) (m := m + 1) ((Rds.of_own hown).wider (T := fun k => k = g) (fun k _ hk => own_at hk) (by omega)) (by omega) (Nat.le_refl _) hnc
    rwa [List.take_of_length_le (by rw [List.length_drop, hpl]; omega), show m + 1 - (i + 1) = m - i by omega] at h
  have hcut := fun W => run_cut_from (P := Try.prog) 36 30 i0 4 Try.underlying36 hi0 hz1 (some ⟨g, 0, none⟩) (m + 1) c (i + 1) .i64 (by omega) W
  rw [show ((i + 1 : Nat) : Int) = (i : Int) + 1 by omega, show m + 1 - (i + 1) = m - i by omega] at hcut
  generalize hCA : cutA 4 (some ⟨g, 0, none⟩) c (i + 1) = CA at *
  clear hCA
  have hb1 : ((i : Int) == (i : Int) + 1) = false := by rw [beq_eq_false_iff_ne]; omega
  have hi2 : ¬ (c = i) := by omega
  have hdl := length_splice cur (i * 4) ((l.flatMap Pt.cs).drop ((i + 1) * 4)) (by rw [List.length_drop, hpl, hcl]; omega)
  have hdel := fun vs => del_cells cur (l.flatMap Pt.cs) (m + 1) i hi hct hpl vs (m * 4) (by omega) (by rw [hcl]; omega)
  rw [show i + (m + 1 - (i + 1)) = m by omega] at hdel
  have HO := Hid.mk (And.intro hB (And.intro hsrc (And.intro hcl (And.intro hcm (And.intro hbg (And.intro hfn (And.intro hct (And.intro hzv (And.intro hpl (And.intro hdl hdel))))))))))
  unfold maxLen at hcm
  clear hB hct hcl hown hbg hfn hsrc hl hzv hpl hdl hdel
  have hin : i ≤ m := by omega
  have hic : i ≤ c := by omega
  have hin3 : (i : Int) + 1 ≤ (m : Int) + 1 := by omega
  have HM := Hid.mk (show i + (m - i) = m by omega)
  have HSr := Hid.mk (show Rds w.drew (fun k => k = g) 4 CA (m - i) ((l.flatMap Pt.cs).drop ((i + 1) * 4)) from HO.out.2.1)
  go_enter Try.func78, Try.ntmps78
  go_wp2_with fail
  go_region_law ((refine step_append_fit rfl (.tmp 22) (.tmp 25) 36 rfl (show Blk w.drew g 30 cur from HO.out.1) 30 4 Try.underlying36 Try.sizePt i c _ CA (m - i) (c - (i + 1)) _ HSr.out (fun u hu => pts_one l u (List.mem_of_mem_drop hu)) (by omega) HO.out.2.2.1 (by simp [Act.eval, Act.put]) (by simp [Act.eval, Act.put]) ?_); intro w1 q1 q2; rw [HM.out]; have H1 := Hid.mk (And.intro q1 q2); clear q1 q2)
  obtain ⟨w2, vs, hrun, hb2, hvl, hc2⟩ := run_clear_blk (P := Try.prog) H1.out.1 36 30 (.agg #[.int .i64 0, .int .i64 0, .int .i64 0, .int .i64 0]) Try.underlying36 HO.out.2.2.2.2.2.2.2.1 (m * 4) 1 (c - m) (by omega) zero_pt (by rw [HO.out.2.2.2.2.2.2.2.2.2.1, HO.out.2.2.1]; simp [Value.cells]; omega)
  have H2 := Hid.mk (And.intro hb2 (And.intro hc2 hvl))
  clear hb2 hc2 hvl
  have hmc : ¬ (c = m) := by omega
  have hn1 : m + 1 - m = 1 := by omega
  go_wp2_with fail
  go_ret
  refine ⟨_, rfl, ?_, ?_⟩
  · rw [HO.out.2.2.2.2.2.1, ← HO.out.2.2.2.2.2.2.2.2.2.2 vs]
    exact H2.out.1.own HO.out.2.2.2.2.1 (by omega) HO.out.2.2.2.1 (by
      rw [length_splice _ _ _ (by rw [H2.out.2.2, HO.out.2.2.2.2.2.2.2.2.2.1, HO.out.2.2.1]; simp [Value.cells]; omega), HO.out.2.2.2.2.2.2.2.2.2.1, HO.out.2.2.1])
  · exact ⟨(((Chg.refl _ w).drew.trans H1.out.2 (fun _ _ h => h)).trans H2.out.2.1 (fun _ _ h => h)).wider (fun k _ hk => by subst hk; rfl), fun k _ hk => hk⟩

end Go.Proofs.Ytanipieeegeheaa
namespace Go.Proofs.Ytanipieeegeheaa
open Go.RowKit

theorem Blk.set {w : World} {g : Nat} {e : TypeId} {cur : List Value} (h : Blk w g e cur) (i : Nat) (u : Value) : Blk (w.setCell ⟨g, i, none⟩ u) g e (cur.set i u) := by
  unfold Blk at *
  rw [heap_setCell_same w g i cur.toArray e u h]
  simp
theorem set4 (a b c d : Value) : ∀ (o : Nat) (cur : List Value), o + 4 ≤ cur.length → (((cur.set o a).set (o + 1) b).set (o + 2) c).set (o + 3) d = splice cur o [a, b, c, d]
  | 0, [], h => by simp at h
  | 0, [_], h => by simp at h
  | 0, [_, _], h => by simp at h
  | 0, [_, _, _], h => by simp at h
  | 0, p :: q :: r :: s :: t, _ => by simp [splice]
  | o + 1, [], h => by simp at h
  | o + 1, z :: t, h => by
    have ih := set4 a b c d o t (by simpa using h)
    have e : splice (z :: t) (o + 1) [a, b, c, d] = z :: splice t o [a, b, c, d] := by simp [splice, show o + 1 + 4 = (o + 4) + 1 by omega]
    rw [e, ← ih]
    simp [show o + 1 + 1 = (o + 1) + 1 by omega, show o + 1 + 2 = (o + 2) + 1 by omega, show o + 1 + 3 = (o + 3) + 1 by omega]
theorem put_cells (cur : List Value) (l : List Pt) (i : Nat) (p : Pt) (hi : i < l.length) (hc : cur.take (l.length * 4) = l.flatMap Pt.cs) (hl : l.length * 4 ≤ cur.length) :
    (splice cur (i * 4) p.cs).take (l.length * 4) = (l.take i ++ p :: l.drop (i + 1)).flatMap Pt.cs := by
  have h4 : p.cs.length = 4 := rfl
  have e1 : (l.take i ++ p :: l.drop (i + 1)).flatMap Pt.cs = (l.flatMap Pt.cs).take (i * 4) ++ (p.cs ++ (l.flatMap Pt.cs).drop ((i + 1) * 4)) := by rw [pts_take, pts_drop]; simp
  rw [e1, ← hc]
  unfold splice
  rw [List.take_append, List.take_append, List.length_take, h4, Nat.min_eq_left (by omega), List.take_take, Nat.min_eq_right (by omega), List.take_take, Nat.min_eq_left (by omega), List.take_of_length_le (l := p.cs) (by rw [h4]; omega), List.drop_take, show i * 4 + 4 = (i + 1) * 4 by omega, show l.length * 4 - i * 4 - 4 = l.length * 4 - (i + 1) * 4 by omega]
/-- The last step of a row of points, put in words. -/
theorem step_put {l : List Pt} {o : Oq} (h1 : o.kind = 1) (h : hasP l o.pt.key = true) : stepP l o = l.take (posP l o.pt.key) ++ o.pt :: l.drop (posP l o.pt.key + 1) := by simp [stepP, setP, h1, h]
theorem step_ins {l : List Pt} {o : Oq} (h1 : o.kind = 1) (h : hasP l o.pt.key = false) : stepP l o = l.take (posP l o.pt.key) ++ o.pt :: l.drop (posP l o.pt.key) := by simp [stepP, setP, h1, h]
theorem step_del {l : List Pt} {o : Oq} (h1 : o.kind = 2) (h : hasP l o.pt.key = true) : stepP l o = l.take (posP l o.pt.key) ++ l.drop (posP l o.pt.key + 1) := by simp [stepP, delP, h1, h]
theorem step_none {l : List Pt} {o : Oq} (h1 : o.kind ≠ 1) (h : o.kind = 2 → hasP l o.pt.key = false) : stepP l o = l := by
  unfold stepP delP
  rw [if_neg h1]
  split
  · rw [h ‹_›]; simp
  · rfl
theorem hasP_lt {l : List Pt} {k : Int} (h : hasP l k = true) : posP l k < l.length := by
  unfold hasP at h
  rcases Nat.lt_or_ge (posP l k) l.length with h1 | h1
  · exact h1
  · rw [List.getElem?_eq_none h1] at h; cases h

set_option maxHeartbeats 4000000 in
set_option maxRecDepth 100000 in
theorem apply_any (A B : Option Addr) (n c m mc : Nat) (l : List Pt) (ops : List Oq) (S T : Nat → Prop) (w : World) (hr : RdP w S A n l) (ho : RdO w T B m ops) (hn : n ≤ 400000) (hm : m ≤ 400000) (hup : Up l) :
    Calls Try.prog 49 #[.slice A n c, .slice B m mc] w fun e w' => ∃ v', e = .returned v' ∧ w'.ownsRow w.heap.size 30 4 v' (doP l ops).length ((doP l ops).flatMap Pt.cs) ∧ Chg Nil w w' := by
  have hl := hr.len
  have hol := ho.len
  have HC := Hid.mk (fun (_ : True) => clonep_any A n c l S w hr (by omega))
  have HO := Hid.mk (And.intro ho (And.intro hup hl))
  clear hr ho hup
  go_enter Try.func49, Try.ntmps49
  go_wp2_with fail
  refine (HC.out trivial).mono ?_
  rintro e w0 ⟨v0, rfl, o0, c0⟩
  have H0 := Hid.mk (And.intro o0 c0)
  clear o0 c0 hl
  go_wp2_with fail
  go_loopw [5, 14] (fun out i wr => ∃ k : Nat, k ≤ m ∧ i = .int .i64 (k : Int) ∧ wr.ownsRow w.heap.size 30 4 out (doP l (ops.take k)).length ((doP l (ops.take k)).flatMap Pt.cs) ∧ Chg Nil w wr) (fun _ i _ => m - (intOf i).toNat)
  case atStart => exact ⟨0, Nat.zero_le _, rfl, by rw [List.take_zero, doP_nil, HO.out.2.2]; exact H0.out.1, H0.out.2⟩
  case round =>
    obtain ⟨k, hk, rfl, hown, hch⟩ := hrel
    by_cases hlt : k < m
    · obtain ⟨b, off, rfl, _, hat⟩ := HO.out.1.at5 (by omega)
      have hq : ops[k]? = some (ops[k]'(by omega)) := List.getElem?_eq_getElem _
      generalize ops[k]'(by omega) = o at hq
      have hstep := doP_take l ops k o hq
      have hXl : (doP l (ops.take k)).length ≤ n + m := by
        have := do_len (ops.take k) l HO.out.2.1
        rw [List.length_take] at this
        have := HO.out.2.2
        omega
      have hXu := do_up (ops.take k) l HO.out.2.1
      generalize doP l (ops.take k) = X at *
      obtain ⟨kd, ky, x, y, v⟩ := o
      obtain ⟨G, gc, rfl, hgc, hgm⟩ := own_form hown
      obtain ⟨x0, x1, x2, x3, x4⟩ := hat wr hch k kd ky x y v hq
      have hA : Chg Nil wr (wr.alloc (.cells #[.int .i64 kd, .int .i64 ky, .int .i64 x, .int .i64 y, .int .i64 v] 32)) := (Chg.refl _ _).alloc _
      have HF := Hid.mk (fun W hW => find_any G X.length gc X ky (Own (.slice G X.length gc)) W ((Rds.of_own hown).keep hW (fun _ _ h => h)) (by omega) hXu)
      have HK := Hid.mk (And.intro hown (And.intro hch (And.intro hstep (And.intro hq hA))))
      clear hown hch hstep hq hA hat hXu
      go_wp2_with fail
      refine (HF.out _ HK.out.2.2.2.2).mono ?_
      rintro e w1 ⟨rfl, c1⟩
      have hbk : Bk w1 wr.heap.size 32 #[.int .i64 kd, .int .i64 ky, .int .i64 x, .int .i64 y, .int .i64 v] := (Bk.new wr _ _).keep c1 (fun h => h)
      have y0 := hbk.cell 0 rfl
      have y1 := hbk.cell 1 rfl
      have y2 := hbk.cell 2 rfl
      have y3 := hbk.cell 3 rfl
      have y4 := hbk.cell 4 rfl
      have c01 := HK.out.2.2.2.2.trans c1 (fun _ _ h => h)
      have H1 := Hid.mk (And.intro c01 (own_keep HK.out.1 c01 (fun _ _ h => h)))
      clear c1 c01 hbk
      cases hh : hasP X ky with
      | true =>
        by_cases h1 : kd = 1
        · subst h1
          have hlt2 := hasP_lt hh
          have hform : ∃ g, G = some ⟨g, 0, none⟩ := by
            rcases H1.out.2.2 with ⟨_, h0⟩ | ⟨g, cap, cur, h1, _⟩
            · omega
            · injection h1 with h1
              exact ⟨g, h1⟩
          obtain ⟨g, rfl⟩ := hform
          obtain ⟨cur, hB, hbg, _, _, hcl, hct⟩ := Blk.of_own H1.out.2
          have HS := Hid.mk (And.intro HK.out.2.2.1 (step_put (l := X) (o := ⟨1, ⟨ky, x, y, v⟩⟩) rfl hh))
          have z0 : ∃ u, w1.cell? ⟨g, posP X ky * 4, none⟩ = some u := ⟨_, (hB.cell _).trans (List.getElem?_eq_getElem (by rw [hcl]; omega))⟩
          have z1 : ∃ u, w1.cell? ⟨g, posP X ky * 4 + 1, none⟩ = some u := ⟨_, (hB.cell _).trans (List.getElem?_eq_getElem (by rw [hcl]; omega))⟩
          have z2 : ∃ u, w1.cell? ⟨g, posP X ky * 4 + 2, none⟩ = some u := ⟨_, (hB.cell _).trans (List.getElem?_eq_getElem (by rw [hcl]; omega))⟩
          have z3 : ∃ u, w1.cell? ⟨g, posP X ky * 4 + 3, none⟩ = some u := ⟨_, (hB.cell _).trans (List.getElem?_eq_getElem (by rw [hcl]; omega))⟩
          have f0 := fun j => hB.free j
          generalize posP X ky = P at *
          obtain ⟨e0, z0⟩ := z0
          obtain ⟨e1, z1⟩ := z1
          obtain ⟨e2, z2⟩ := z2
          obtain ⟨e3, z3⟩ := z3
          have HB := Hid.mk (And.intro hB (And.intro hbg (And.intro hcl hct)))
          clear hh hB hbg hcl hct x0 x1 x2 x3 x4
          go_wp2_with fail
          go_roundw
          case rel =>
            have h2 := ((((HB.out.1.set (P * 4) (.int .i64 ky)).set (P * 4 + 1) (.int .i64 x)).set (P * 4 + 2) (.int .i64 y)).set (P * 4 + 3) (.int .i64 v))
            rw [set4 _ _ _ _ _ _ (by rw [HB.out.2.2.1]; omega)] at h2
            have hput := put_cells cur X P ⟨ky, x, y, v⟩ hlt2 HB.out.2.2.2 (by rw [HB.out.2.2.1]; omega)
            refine ⟨k + 1, by omega, by go_num, ?_, ?_⟩
            · rw [HS.out.1, HS.out.2, ← hput]
              rw [show (X.take P ++ (⟨ky, x, y, v⟩ : Pt) :: X.drop (P + 1)).length = X.length by simp; omega]
              exact h2.own HB.out.2.1 (by omega) hgm (by rw [length_splice _ _ _ (by rw [HB.out.2.2.1]; simp; omega), HB.out.2.2.1])
            · have hg := HB.out.2.1
              have hcw := HK.out.2.1.trans H1.out.1 (fun _ _ h => h)
              refine (((hcw.setCell (p := ⟨g, _, none⟩) (fun h => ?_) _).setCell (p := ⟨g, _, none⟩) (fun h => ?_) _).setCell (p := ⟨g, _, none⟩) (fun h => ?_) _).setCell (p := ⟨g, _, none⟩) (fun h => ?_) _ <;> exact absurd h (by simp only; omega)
          case measure => simp [intOf]; omega
        · have hb1 : (kd == 1) = false := by rw [beq_eq_false_iff_ne]; exact h1
          by_cases h2 : kd = 2
          · subst h2
            have hlt2 := hasP_lt hh
            have hform : ∃ g, G = some ⟨g, 0, none⟩ := by
              rcases H1.out.2.2 with ⟨_, h0⟩ | ⟨g, cap, cur, h1, _⟩
              · omega
              · injection h1 with h1
                exact ⟨g, h1⟩
            obtain ⟨g, rfl⟩ := hform
            have HS := Hid.mk (And.intro HK.out.2.2.1 (step_del (l := X) (o := ⟨2, ⟨ky, x, y, v⟩⟩) rfl hh))
            have hD := delete_any w.heap.size g X.length gc (posP X ky) X w1 H1.out.2 (by omega) hlt2
            simp only at HS
            generalize posP X ky = P at *
            have HD := Hid.mk hD
            clear hD hh x0 x1 x2 x3 x4 h1
            go_wp2_with fail
            refine HD.out.mono ?_
            rintro e w2 ⟨v2, rfl, o2, g2⟩
            have H2 := Hid.mk (And.intro o2 g2)
            clear o2 g2
            go_wp2_with fail
            go_roundw
            case rel =>
              refine ⟨k + 1, by omega, by go_num, ?_, ?_⟩
              · rw [HS.out.1, HS.out.2]
                have h := H2.out.1
                rw [show X.length - 1 = (X.take P ++ X.drop (P + 1)).length by simp; omega] at h
                exact h
              · exact (HK.out.2.1.trans H1.out.1 (fun _ _ h => h)).trans H2.out.2.chg (fun j hj h => by have := own_ge H1.out.2 j h; omega)
            case measure => simp [intOf]; omega
          · have hb2 : (kd == 2) = false := by rw [beq_eq_false_iff_ne]; exact h2
            have HS := Hid.mk (And.intro HK.out.2.2.1 (step_none (l := X) (o := ⟨kd, ⟨ky, x, y, v⟩⟩) h1 (fun h => absurd h h2)))
            clear hh x0 x1 x2 x3 x4 h1 h2
            generalize posP X ky = P at *
            go_wp2_with fail
            go_roundw
            case rel =>
              refine ⟨k + 1, by omega, by go_num, ?_, HK.out.2.1.trans H1.out.1 (fun _ _ h => h)⟩
              rw [HS.out.1, HS.out.2]
              exact H1.out.2
            case measure => simp [intOf]; omega
      | false =>
        by_cases h1 : kd = 1
        · subst h1
          have hle := posP_le X ky
          have HS := Hid.mk (And.intro HK.out.2.2.1 (step_ins (l := X) (o := ⟨1, ⟨ky, x, y, v⟩⟩) rfl hh))
          have hA1 : Chg Nil w1 (w1.alloc (.cells #[.int .i64 ky, .int .i64 x, .int .i64 y, .int .i64 v] 30)) := (Chg.refl _ _).alloc _
          have hI := insert_any w.heap.size G X.length gc (posP X ky) X ⟨ky, x, y, v⟩ w1.heap.size (w1.alloc (.cells #[.int .i64 ky, .int .i64 x, .int .i64 y, .int .i64 v] 30)) (own_keep H1.out.2 hA1 (fun _ _ h => h)) (Bk.new w1 _ _) (fun j hj => by have := own_lt H1.out.2 j hj; omega) (by have := HK.out.2.1.size; have := H1.out.1.size; simp; omega) (by omega) hle
          simp only at HS
          generalize posP X ky = P at *
          have HI := Hid.mk (And.intro hI hA1)
          clear hI hh x0 x1 x2 x3 x4 hA1
          go_wp2_with fail
          refine HI.out.1.mono ?_
          rintro e w2 ⟨v2, rfl, o2, g2⟩
          have H2 := Hid.mk (And.intro o2 g2)
          clear o2 g2
          go_wp2_with fail
          go_roundw
          case rel =>
            refine ⟨k + 1, by omega, by go_num, ?_, ?_⟩
            · rw [HS.out.1, HS.out.2]
              have h := H2.out.1
              rw [show X.length + 1 = (X.take P ++ (⟨ky, x, y, v⟩ : Pt) :: X.drop P).length by simp; omega] at h
              exact h
            · exact ((HK.out.2.1.trans H1.out.1 (fun _ _ h => h)).trans HI.out.2 (fun _ _ h => h)).trans H2.out.2.chg (fun j hj h => by have := own_ge H1.out.2 j h; omega)
          case measure => simp [intOf]; omega
        · have hb1 : (kd == 1) = false := by rw [beq_eq_false_iff_ne]; exact h1
          have HS := Hid.mk (And.intro HK.out.2.2.1 (step_none (l := X) (o := ⟨kd, ⟨ky, x, y, v⟩⟩) h1 (fun _ => hh)))
          generalize hb2 : (kd == 2) = b2
          have HB2 := Hid.mk hb2
          clear hh x0 x1 x2 x3 x4 h1
          generalize posP X ky = P at *
          cases b2
          all_goals
            go_wp2_with fail
            go_roundw
            case rel =>
              refine ⟨k + 1, by omega, by go_num, ?_, HK.out.2.1.trans H1.out.1 (fun _ _ h => h)⟩
              rw [HS.out.1, HS.out.2]
              exact H1.out.2
            case measure => simp [intOf]; omega
    · obtain rfl : k = m := by omega
      rw [List.take_of_length_le (by omega)] at hown
      have HK := Hid.mk (And.intro hown hch)
      clear hown hch
      go_wp2_with fail
      go_ret
      exact ⟨_, rfl, HK.out.1, HK.out.2⟩

end Go.Proofs.Ytanipieeegeheaa
namespace Go.Proofs.Ytanipieeegeheaa
open Go.RowKit

theorem own_some {w : World} {base : Nat} {e : TypeId} {sz n : Nat} {v : Value} {xs : List Value} (h : w.ownsRow base e sz v (n + 1) xs) : ∃ g c, v = .slice (some ⟨g, 0, none⟩) (n + 1) c := by
  rcases h.2 with ⟨_, h0⟩ | ⟨g, cap, cur, h1, _⟩
  · cases h0
  · exact ⟨g, cap, h1⟩
theorem cut_some (g c k N : Nat) (hN : c * 4 ≤ N) (hk : k ≤ c) : ∃ o, cutA 4 (some ⟨g, 0, none⟩) c k = some ⟨g, o, none⟩ ∧ (k < c → o = k * 4) ∧ o ≤ N := by
  unfold cutA
  by_cases h : c = k
  · exact ⟨0, by rw [if_pos h], fun h' => by omega, Nat.zero_le _⟩
  · refine ⟨k * 4, ?_, fun _ => rfl, by omega⟩
    rw [if_neg h]
    simp only [Option.map_some, Addr.add]
    split
    · next h0 => rw [h0]
    · simp
set_option maxHeartbeats 4000000 in
set_option maxRecDepth 100000 in
theorem rapply_any (A B : Option Addr) (n c m mc : Nat) (l : List Pt) (ops : List Oq) (S T : Nat → Prop) (w : World) (hr : RdP w S A n l) (ho : RdO w T B m ops) (hn : n ≤ 400000) (hm : m ≤ 400000) (hup : Up l) (hk12 : ∀ o ∈ ops, o.kind = 1 ∨ o.kind = 2) :
    Calls Try.prog 62 #[.slice A n c, .slice B m mc] w fun e w' => ∃ v', e = .returned v' ∧ w'.ownsRow w.heap.size 30 4 v' (doP l ops).length ((doP l ops).flatMap Pt.cs) ∧ Chg Nil w w' := by
  obtain ⟨i0, hi, hz0, hz1, hz2⟩ := info_parts Try.infoPt
  have hl := hr.len
  have hol := ho.len
  have hr1 : ∀ o, Rds (w.alloc o) (fun k => S k ∧ k < w.heap.size) 4 A n (l.flatMap Pt.cs) := fun o => (Rds.here hr (by omega)).keep ((Chg.refl Nil w).alloc o) (fun _ _ h => h)
  have HR := Hid.mk hr1
  have HO := Hid.mk (And.intro ho (And.intro hup (And.intro hl hk12)))
  clear hr ho hup hr1 hk12 hl
  go_enter Try.func62, Try.ntmps62
  go_wp2_with (at_builtin; refine wpl_append rfl (.tmp 12) (.tmp 13) 36 rfl w.heap.size 30 i0 _ 4 32 Try.underlying36 hi hz0 hz1 hz2 rfl (by omega) _ _ _ rfl (World.ownsRow_made w #[] 0 (Nat.le_refl _) (Nat.zero_le _) (by simp)) _ A n c _ rfl (HR.out _) (pts_one _) (by simp only [maxLen]; omega) (by omega) (by simp) ?_; intro v0 w0 o0 g0; have H0 := Hid.mk (And.intro o0 g0); clear o0 g0)
  go_loopw [5, 6] (fun out i wr => ∃ k : Nat, k ≤ m ∧ i = .int .i64 (k : Int) ∧ wr.ownsRow w.heap.size 30 4 out (doP l (ops.take k)).length ((doP l (ops.take k)).flatMap Pt.cs) ∧ Chg Nil w wr) (fun _ i _ => m - (intOf i).toNat)
  case atStart =>
    refine ⟨0, Nat.zero_le _, rfl, by rw [List.take_zero, doP_nil, HO.out.2.2.1]; simpa using H0.out.1, ?_⟩
    exact ((Chg.refl Nil w).alloc _).trans H0.out.2.chg (fun k hk h => by have := own_at h; omega)
  case round =>
    obtain ⟨k, hk, rfl, hown, hch⟩ := hrel
    by_cases hlt : k < m
    · obtain ⟨b, off, rfl, _, hat⟩ := HO.out.1.at5 (by omega)
      have hq : ops[k]? = some (ops[k]'(by omega)) := List.getElem?_eq_getElem _
      have hkk := HO.out.2.2.2 (ops[k]'(by omega)) (List.getElem_mem _)
      generalize ops[k]'(by omega) = o at hq hkk
      have hstep := doP_take l ops k o hq
      have hXl : (doP l (ops.take k)).length ≤ n + m := by
        have := do_len (ops.take k) l HO.out.2.1
        rw [List.length_take] at this
        have := HO.out.2.2.1
        omega
      have hXu := do_up (ops.take k) l HO.out.2.1
      generalize doP l (ops.take k) = X at *
      obtain ⟨kd, ky, x, y, v⟩ := o
      simp only at hkk
      obtain ⟨G, gc, rfl, hgc, hgm⟩ := own_form hown
      obtain ⟨x0, x1, x2, x3, x4⟩ := hat wr hch k kd ky x y v hq
      have hA : Chg Nil wr (wr.alloc (.cells #[.int .i64 ky, .int .i64 x, .int .i64 y, .int .i64 v] 30)) := (Chg.refl _ _).alloc _
      have hbk := Bk.new wr 30 #[.int .i64 ky, .int .i64 x, .int .i64 y, .int .i64 v]
      have HK := Hid.mk (And.intro hown (And.intro hch (And.intro hstep (And.intro hq (And.intro hXu (And.intro hat (And.intro hA hbk)))))))
      clear hown hch hstep hq hXu hat hA hbk
      obtain ⟨wo, hwo⟩ : ∃ wo, wo = wr := ⟨_, rfl⟩
      subst hwo
      have hgm' := hgm
      unfold maxLen at hgm'
      go_wp2_with fail
      go_loopw [8, 9] (fun i j wi => ∃ lo hi : Nat, lo ≤ hi ∧ hi ≤ X.length ∧ i = .int .i64 (lo : Int) ∧ j = .int .i64 (hi : Int) ∧ Chg Nil (wo.alloc (.cells #[.int .i64 ky, .int .i64 x, .int .i64 y, .int .i64 v] 30)) wi ∧ Hid ((∀ (t : Nat) (p : Pt), t < lo → X[t]? = some p → p.key < ky) ∧ (∀ (t : Nat) (p : Pt), hi ≤ t → X[t]? = some p → ky ≤ p.key))) (fun i j _ => (intOf j).toNat - (intOf i).toNat)
      case atStart => exact ⟨0, X.length, Nat.zero_le _, Nat.le_refl _, rfl, rfl, Chg.refl _ _, Hid.mk ⟨fun t p ht => by omega, fun t p ht hp => by
        have := (List.getElem?_eq_some_iff.1 hp).1
        omega⟩⟩
      case round =>
        obtain ⟨lo, hi, hlh, hhn, rfl, rfl, hci, HI⟩ := hrel
        have hbi := HK.out.2.2.2.2.2.2.2.keep hci (fun h => h)
        have hcw := HK.out.2.2.2.2.2.2.1.trans hci (fun _ _ h => h)
        have HW := Hid.mk (And.intro hci (And.intro hcw hbi))
        have y0 := fun nq => (hbi.drewN nq).cell 0 rfl
        clear hci hcw hbi
        clear x0 x1 x2 x3 x4
        by_cases hlh' : lo < hi
        · obtain ⟨g, goff, rfl, _, hXat⟩ := RdP.at4 (Rds.of_own HK.out.1) (by omega)
          obtain ⟨md, hmd⟩ : ∃ md : Nat, (lo + hi) / 2 = md := ⟨_, rfl⟩
          have hmi : ((lo : Int) + (hi : Int)) / 2 = (md : Int) := by omega
          have hm1 : lo ≤ md := by omega
          have hm2 : md < hi := by omega
          have hm3 : md < X.length := by omega
          clear hmd
          have ho : X[md]? = some (X[md]'hm3) := List.getElem?_eq_getElem _
          generalize X[md]'hm3 = q at ho
          obtain ⟨qk, qx, qy, qv⟩ := q
          have c0 := fun nq => (hXat (wr.drewN nq) (HW.out.2.1.drewN nq) _ qk qx qy qv ho).1
          have HQ := Hid.mk ho
          clear ho hXat
          by_cases hqk : qk < ky
          · go_wp2_with fail
            go_quiet (fail)
            go_wp2_with fail
            go_roundw
            case rel =>
              refine ⟨md + 1, hi, by omega, hhn, by go_num, rfl, HW.out.1.drewN _, Hid.mk ⟨fun t p ht hp => ?_, HI.out.2⟩⟩
              rcases Nat.lt_or_ge t md with h | h
              · have := HK.out.2.2.2.2.1.key_lt h hp HQ.out
                have : p.key < qk := this
                omega
              · obtain rfl : t = md := by omega
                rw [HQ.out] at hp
                rw [← Option.some.inj hp]
                exact hqk
            case measure => simp [intOf]; omega
          · go_wp2_with fail
            go_quiet (fail)
            go_wp2_with fail
            go_roundw
            case rel =>
              refine ⟨lo, md, by omega, by omega, rfl, by go_num, HW.out.1.drewN _, Hid.mk ⟨HI.out.1, fun t p ht hp => ?_⟩⟩
              rcases Nat.lt_or_ge md t with h | h
              · have := HK.out.2.2.2.2.1.key_lt h HQ.out hp
                have : qk < p.key := this
                omega
              · obtain rfl : t = md := by omega
                rw [HQ.out] at hp
                rw [← Option.some.inj hp]
                show ky ≤ qk
                omega
            case measure => simp [intOf]; omega
        · obtain rfl : lo = hi := by omega
          have hpos : posP X ky = lo := posP_eq hhn (fun t p ht hp => HI.out.1 t p ht hp) (fun p hp => HI.out.2 lo p (Nat.le_refl _) hp)
          have x0 := fun nq => (HK.out.2.2.2.2.2.1 (wr.drewN nq) ((HK.out.2.1.trans HW.out.2.1 (fun _ _ h => h)).drewN nq) k kd ky x y v HK.out.2.2.2.1).1
          have y1 := fun nq => (HW.out.2.2.drewN nq).cell 1 rfl
          have y2 := fun nq => (HW.out.2.2.drewN nq).cell 2 rfl
          have y3 := fun nq => (HW.out.2.2.drewN nq).cell 3 rfl
          have hst := HK.out.2.2.1
          have hown := own_keep HK.out.1 HW.out.2.1 (fun _ _ h => h)
          cases hh : hasP X ky with
          | true =>
            have hlt2 := hasP_lt hh
            rw [hpos] at hlt2
            have hdd : decide (lo < X.length) = true := decide_eq_true hlt2
            have hform : ∃ g, G = some ⟨g, 0, none⟩ := by
              rcases hown.2 with ⟨_, h0⟩ | ⟨g, cap, cur, h1, _⟩
              · omega
              · injection h1 with h1
                exact ⟨g, h1⟩
            obtain ⟨g, rfl⟩ := hform
            obtain ⟨cur, hB, hbg, _, _, hcl, hct⟩ := Blk.of_own hown
            have ho : X[lo]? = some (X[lo]'hlt2) := List.getElem?_eq_getElem _
            have hqk : (X[lo]'hlt2).key = ky := by
              unfold hasP at hh
              rw [hpos, ho] at hh
              simpa using hh
            obtain ⟨g', goff, hg', _, hXat⟩ := RdP.at4 (Rds.of_own HK.out.1) (by omega)
            injection hg' with hg'
            injection hg' with hg1 hg2
            subst hg1 hg2
            generalize X[lo]'hlt2 = q at ho hqk
            obtain ⟨qk, qx, qy, qv⟩ := q
            simp only at hqk
            subst hqk
            have c0 := fun nq => (hXat (wr.drewN nq) (HW.out.2.1.drewN nq) _ qk qx qy qv ho).1
            have c1 := fun nq => (hXat (wr.drewN nq) (HW.out.2.1.drewN nq) _ qk qx qy qv ho).2.1
            have c2 := fun nq => (hXat (wr.drewN nq) (HW.out.2.1.drewN nq) _ qk qx qy qv ho).2.2.1
            have c3 := fun nq => (hXat (wr.drewN nq) (HW.out.2.1.drewN nq) _ qk qx qy qv ho).2.2.2
            simp only [Nat.zero_add] at c0 c1 c2 c3
            rcases hkk with h1 | h1
            · subst h1
              have HS := Hid.mk (And.intro hst (step_put (l := X) (o := ⟨1, ⟨qk, x, y, v⟩⟩) rfl hh))
              simp only [hpos] at HS
              have f0 := fun nq j => (show Blk (wr.drewN nq) g 30 cur from hB).free j
              have HB := Hid.mk (And.intro hB (And.intro hbg (And.intro hcl hct)))
              clear hh hB hbg hcl hct hst hown hXat ho hpos
              go_wp2_with fail
              go_quiet (fail)
              go_wp2_with fail
              go_roundw
              case rel =>
                have h2 := ((((HB.out.1.set (lo * 4) (.int .i64 qk)).set (lo * 4 + 1) (.int .i64 x)).set (lo * 4 + 2) (.int .i64 y)).set (lo * 4 + 3) (.int .i64 v))
                rw [set4 _ _ _ _ _ _ (by rw [HB.out.2.2.1]; omega)] at h2
                have hput := put_cells cur X lo ⟨qk, x, y, v⟩ hlt2 HB.out.2.2.2 (by rw [HB.out.2.2.1]; omega)
                refine ⟨k + 1, by omega, by go_num, ?_, ?_⟩
                · rw [HS.out.1, HS.out.2, ← hput]
                  rw [show (X.take lo ++ (⟨qk, x, y, v⟩ : Pt) :: X.drop (lo + 1)).length = X.length by simp; omega]
                  have h3 := h2.own (base := w.heap.size) (n := X.length) HB.out.2.1 hgc hgm (by rw [length_splice _ _ _ (by rw [HB.out.2.2.1]; simp; omega), HB.out.2.2.1])
                  exact h3
                · have hg := HB.out.2.1
                  have hcw := (HK.out.2.1.trans HW.out.2.1 (fun _ _ h => h))
                  refine (((((hcw.drewN _).setCell (p := ⟨g, _, none⟩) (fun h => ?_) _).setCell (p := ⟨g, _, none⟩) (fun h => ?_) _).setCell (p := ⟨g, _, none⟩) (fun h => ?_) _).setCell (p := ⟨g, _, none⟩) (fun h => ?_) _) <;> exact absurd h (by simp only; omega)
              case measure => simp [intOf]; omega
            · subst h1
              have HS := Hid.mk (And.intro hst (step_del (l := X) (o := ⟨2, ⟨qk, x, y, v⟩⟩) rfl hh))
              simp only [hpos] at HS
              have hpl := pts_len X
              have hcut := fun W => run_cut_from (P := Try.prog) 36 30 i0 4 Try.underlying36 hi hz1 (some ⟨g, 0, none⟩) X.length gc (lo + 1) .i64 (by omega) W
              rw [show ((lo + 1 : Nat) : Int) = (lo : Int) + 1 by omega] at hcut
              have hsrc : Rds wr (· = g) 4 (cutA 4 (some ⟨g, 0, none⟩) gc (lo + 1)) (X.length - (lo + 1)) ((X.flatMap Pt.cs).drop ((lo + 1) * 4)) := by
                have h := cutA_rds (k := lo + 1) (m := X.length) ((Rds.of_own hown).wider (T := fun k => k = g) (fun k _ hk => own_at hk) (by omega)) (by omega) (Nat.le_refl _) hgc
                rwa [List.take_of_length_le (by rw [List.length_drop, hpl]; omega)] at h
              generalize hCA : cutA 4 (some ⟨g, 0, none⟩) gc (lo + 1) = CA at *
              have hdel := del_cells cur (X.flatMap Pt.cs) X.length lo hlt2 hct hpl [] ((lo + (X.length - (lo + 1))) * 4) rfl (by rw [hcl]; omega)
              have hfn : (X.take lo ++ X.drop (lo + 1)).flatMap Pt.cs = (X.flatMap Pt.cs).take (lo * 4) ++ (X.flatMap Pt.cs).drop ((lo + 1) * 4) := by rw [pts_take, pts_drop]; simp
              have hdl := length_splice cur (lo * 4) ((X.flatMap Pt.cs).drop ((lo + 1) * 4)) (by rw [List.length_drop, hpl, hcl]; omega)
              have HB := Hid.mk (And.intro hB (And.intro hbg (And.intro hcl (And.intro hsrc (And.intro hdel (And.intro hfn hdl))))))
              clear hh hB hbg hcl hct hst hown hXat ho hpos hpl hsrc hCA hdel hfn hdl
              have hic : lo ≤ gc := by omega
              go_wp2_with fail
              go_quiet (fail)
              go_wp2_with fail
              have hw1 : IntKind.i64.wrap ((lo : Int) + 1) = (lo : Int) + 1 := by rw [IntKind.wrap_i64]; omega
              have hb1 : (0 : Int) ≤ (lo : Int) + 1 := by omega
              have htn : ((lo : Int) + 1).toNat = lo + 1 := by omega
              have HSr := Hid.mk (fun nq => (show Rds (wr.drewN nq).drew (fun k => k = g) 4 CA (X.length - (lo + 1)) ((X.flatMap Pt.cs).drop ((lo + 1) * 4)) from HB.out.2.2.2.1))
              have HBd := Hid.mk (fun nq => (show Blk (wr.drewN nq).drew g 30 cur from HB.out.1))
              go_region_law ((refine step_append_fit rfl (.tmp 101) (.tmp 105) 36 rfl (HBd.out _) 30 4 Try.underlying36 Try.sizePt lo gc _ CA (X.length - (lo + 1)) (gc - (lo + 1)) _ (HSr.out _) (fun u hu => pts_one X u (List.mem_of_mem_drop hu)) (by omega) HB.out.2.2.1 (by simp [Act.eval, Act.put]) (by simp [Act.eval, Act.put]) ?_); intro w1 q1 q2; have H1 := Hid.mk (And.intro q1 q2); clear q1 q2)
              go_wp2_with fail
              go_roundw
              case rel =>
                have h2 := HB.out.2.2.2.2.1
                rw [show splice (splice cur (lo * 4) ((X.flatMap Pt.cs).drop ((lo + 1) * 4))) ((lo + (X.length - (lo + 1))) * 4) [] = splice cur (lo * 4) ((X.flatMap Pt.cs).drop ((lo + 1) * 4)) by simp [splice]] at h2
                refine ⟨k + 1, by omega, by go_num, ?_, ?_⟩
                · rw [HS.out.1, HS.out.2, HB.out.2.2.2.2.2.1, ← h2, show (X.take lo ++ X.drop (lo + 1)).length = lo + (X.length - (lo + 1)) by simp; omega]
                  exact H1.out.1.own HB.out.2.1 (by omega) hgm (by rw [HB.out.2.2.2.2.2.2, HB.out.2.2.1])
                · have hg := HB.out.2.1
                  exact ((HK.out.2.1.trans HW.out.2.1 (fun _ _ h => h)).drewN _).drew.trans H1.out.2 (fun j hj h => by have h' : j = g := h; omega)
              case measure => simp [intOf]; omega
          | false =>
            have hnl : ∀ q : Pt, X[lo]? = some q → q.key ≠ ky := fun q hq he => by
              unfold hasP at hh
              rw [hpos, hq] at hh
              simp [he] at hh
            by_cases hX0 : lo < X.length
            focus
              have hdd : decide (lo < X.length) = true := decide_eq_true hX0
              obtain ⟨g', goff, hg', _, hXat⟩ := RdP.at4 (Rds.of_own HK.out.1) (by omega)
              subst hg'
              have ho : X[lo]? = some (X[lo]'hX0) := List.getElem?_eq_getElem _
              have hqk := hnl _ ho
              generalize X[lo]'hX0 = q at ho hqk
              obtain ⟨qk, qx, qy, qv⟩ := q
              simp only at hqk
              have c0 := fun nq => (hXat (wr.drewN nq) (HW.out.2.1.drewN nq) _ qk qx qy qv ho).1
              have hqb : ((qk : Int) == ky) = false := by rw [beq_eq_false_iff_ne]; exact hqk
              have HN := Hid.mk (And.intro hh (And.intro hpos (And.intro hst hown)))
              clear hh hpos hst hown hXat ho hqk hnl
              go_wp2_with fail
              go_quiet (fail)
              clear c0
            rotate_left
            focus
              have hdd : decide (lo < X.length) = false := decide_eq_false hX0
              have HN := Hid.mk (And.intro hh (And.intro hpos (And.intro hst hown)))
              clear hh hpos hst hown hnl
              go_wp2_with fail
              go_quiet (fail)
            all_goals
              rcases hkk with h1 | h1
              · subst h1
                have HS := Hid.mk (And.intro HN.out.2.2.1 (step_ins (l := X) (o := ⟨1, ⟨ky, x, y, v⟩⟩) rfl HN.out.1))
                simp only [HN.out.2.1] at HS
                go_wp2_with (at_builtin; refine wpl_append rfl (.tmp 81) (.tmp 83) 36 rfl w.heap.size 30 i0 _ 4 32 Try.underlying36 hi hz0 hz1 hz2 rfl (by omega) _ X.length _ rfl (own_keep HK.out.1 ((HW.out.2.1.drewN _).alloc _) (fun _ _ h => h)) _ (some ⟨wr.heap.size, 0, none⟩) 1 1 _ rfl (rdp_one _ ⟨0, 0, 0, 0⟩) (pts_one _) (by simp only [maxLen]; omega) (by omega) (by have := HK.out.2.1.size; have := HW.out.2.1.size; simp; omega) ?_; intro v2 w2 o2 g2; have H2 := Hid.mk (And.intro o2 g2); clear o2 g2)
                obtain ⟨g2, c2, hv2⟩ := own_some H2.out.1
                subst hv2
                obtain ⟨cur, hB, hbg, hc1, hcm, hcl, hct⟩ := Blk.of_own H2.out.1
                have hcm' := hcm
                unfold maxLen at hcm'
                have hpl := pts_len X
                have hct' : cur.take (X.length * 4) = X.flatMap Pt.cs := by
                  have h : (cur.take ((X.length + 1) * 4)).take (X.length * 4) = cur.take (X.length * 4) := by rw [List.take_take, Nat.min_eq_left (by omega)]
                  rw [← h, hct, List.take_left' hpl]
                have hcut := fun W => run_cut_from (P := Try.prog) 36 30 i0 4 Try.underlying36 hi hz1 (some ⟨g2, 0, none⟩) (X.length + 1) c2 (lo + 1) .i64 (by omega) W
                rw [show ((lo + 1 : Nat) : Int) = (lo : Int) + 1 by omega, show X.length + 1 - (lo + 1) = X.length - lo by omega] at hcut
                obtain ⟨oo, hoo, ho1, ho2⟩ := cut_some g2 c2 (lo + 1) cur.length (by omega) (by omega)
                rw [hoo] at hcut
                have hne2 : ¬ (c2 = lo) := by omega
                have hmin : min (X.length + 1 - lo) (X.length - lo) = X.length - lo := by omega
                have hsrc := hB.rds (sz := 4) (lo * 4) (X.length + 1 - lo) (by omega)
                have hys : ((cur.drop (lo * 4)).take ((X.length + 1 - lo) * 4)).take (min (X.length + 1 - lo) (X.length - lo) * 4) = (X.flatMap Pt.cs).drop (lo * 4) := by
                  rw [hmin, List.take_take, ← hct', List.drop_take, show min ((X.length - lo) * 4) ((X.length + 1 - lo) * 4) = X.length * 4 - lo * 4 by omega]
                have hone : ∀ u ∈ ((cur.drop (lo * 4)).take ((X.length + 1 - lo) * 4)).take (min (X.length + 1 - lo) (X.length - lo) * 4), u.oneCell' = true := by
                  rw [hys]
                  exact fun u hu => pts_one X u (List.mem_of_mem_drop hu)
                have hfit : oo + min (X.length + 1 - lo) (X.length - lo) * 4 ≤ cur.length := by
                  rw [hmin]
                  rcases Nat.lt_or_ge (lo + 1) c2 with h | h
                  · rw [ho1 h]; omega
                  · rw [show X.length - lo = 0 by omega]; omega
                have hsp : splice cur oo ((X.flatMap Pt.cs).drop (lo * 4)) = splice cur (lo * 4 + 4) ((cur.drop (lo * 4)).take (X.length * 4 - lo * 4)) := by
                  rw [← List.drop_take, hct']
                  rcases Nat.lt_or_ge (lo + 1) c2 with h | h
                  · rw [ho1 h, show (lo + 1) * 4 = lo * 4 + 4 by omega]
                  · rw [List.drop_of_length_le (by rw [hpl]; omega)]; simp [splice]
                have hcells := ins_cells cur ((X.length + 1) * 4) (X.length * 4) (lo * 4) (Pt.cs ⟨ky, x, y, v⟩) (by omega) (by omega) rfl _ hsp (by omega)
                rw [hct'] at hcells
                have hspl : (splice cur oo ((X.flatMap Pt.cs).drop (lo * 4))).length = c2 * 4 := by
                  rw [length_splice _ _ _ (by
                    rw [List.length_drop, hpl]
                    rw [hmin] at hfit
                    omega), hcl]
                have hins := pts_ins X lo ⟨ky, x, y, v⟩
                have hw2 := (HK.out.2.1.trans ((HW.out.2.1.drewN _).alloc _) (fun _ _ h => h)).trans H2.out.2.chg (fun j hj h => by have := own_ge HN.out.2.2.2 j h; omega)
                have hpb := ((HW.out.2.2.drewN _).alloc _).keep H2.out.2.chg (fun h => by
                  have h1 := own_lt HK.out.1 _ h
                  omega)
                have HP := Hid.mk (And.intro hB (And.intro hbg (And.intro hcm (And.intro hcl (And.intro hw2 (And.intro hpb (And.intro hcells (And.intro hspl (And.intro hins hys)))))))))
                have HSr := Hid.mk (show Rds w2.drew (fun k => k = g2) 4 (some ⟨g2, lo * 4, none⟩) (X.length + 1 - lo) ((cur.drop (lo * 4)).take ((X.length + 1 - lo) * 4)) from hsrc)
                have HO1 := Hid.mk (And.intro hone hfit)
                clear hB hbg hcm hcl hw2 hpb hcells hspl hins hys hsrc hone hfit hct hct' hpl hsp hoo ho1 ho2 hmin y0 y1 y2 y3 x0
                have hw1 : IntKind.i64.wrap ((lo : Int) + 1) = (lo : Int) + 1 := by rw [IntKind.wrap_i64]; omega
                have hb1 : (0 : Int) ≤ (lo : Int) + 1 := by omega
                have htn : ((lo : Int) + 1).toNat = lo + 1 := by omega
                have hlo1 : (lo : Int) ≤ (X.length : Int) + 1 := by omega
                go_region_law ((refine step_copy_blk rfl (.tmp 88) (.tmp 91) 36 36 rfl (show Blk w2.drew g2 30 cur from HP.out.1) 30 4 Try.underlying36 Try.sizePt oo (X.length - lo) (c2 - (lo + 1)) _ (some ⟨g2, lo * 4, none⟩) (X.length + 1 - lo) (c2 - lo) _ HSr.out HO1.out.1 HO1.out.2 (by simp [Act.eval, Act.put]) (by simp [Act.eval, Act.put]) ?_); intro w3 q1 q2; have H3 := Hid.mk (And.intro q1 q2); clear q1 q2)
                have hb3 := H3.out.1
                rw [HP.out.2.2.2.2.2.2.2.2.2] at hb3
                have hpne : wo.heap.size ≠ g2 := fun h => by
                  have h1 := H2.out.2.lies wo.heap.size (by have := HW.out.1.size; simp at this ⊢; omega) (by rw [h]; rfl)
                  have h2 := own_lt HK.out.1 _ h1
                  omega
                have hpb3 := Bk.keep (S := fun k => k = g2) HP.out.2.2.2.2.2.1.drew H3.out.2 hpne
                have y0 := hpb3.cell 0 rfl
                have y1 := hpb3.cell 1 rfl
                have y2 := hpb3.cell 2 rfl
                have y3 := hpb3.cell 3 rfl
                have z0 : ∃ u, w3.cell? ⟨g2, lo * 4, none⟩ = some u := ⟨_, (hb3.cell _).trans (List.getElem?_eq_getElem (by rw [HP.out.2.2.2.2.2.2.2.1]; omega))⟩
                have z1 : ∃ u, w3.cell? ⟨g2, lo * 4 + 1, none⟩ = some u := ⟨_, (hb3.cell _).trans (List.getElem?_eq_getElem (by rw [HP.out.2.2.2.2.2.2.2.1]; omega))⟩
                have z2 : ∃ u, w3.cell? ⟨g2, lo * 4 + 2, none⟩ = some u := ⟨_, (hb3.cell _).trans (List.getElem?_eq_getElem (by rw [HP.out.2.2.2.2.2.2.2.1]; omega))⟩
                have z3 : ∃ u, w3.cell? ⟨g2, lo * 4 + 3, none⟩ = some u := ⟨_, (hb3.cell _).trans (List.getElem?_eq_getElem (by rw [HP.out.2.2.2.2.2.2.2.1]; omega))⟩
                obtain ⟨e0, z0⟩ := z0
                obtain ⟨e1, z1⟩ := z1
                obtain ⟨e2, z2⟩ := z2
                obtain ⟨e3, z3⟩ := z3
                have f0 := fun j => hb3.free j
                have hlt3 : lo < X.length + 1 := by omega
                have HB := Hid.mk hb3
                clear hb3 hpb3 hpne hcut
                go_wp2_with fail
                go_roundw
                case rel =>
                  have h2 := ((((HB.out.set (lo * 4) (.int .i64 ky)).set (lo * 4 + 1) (.int .i64 x)).set (lo * 4 + 2) (.int .i64 y)).set (lo * 4 + 3) (.int .i64 v))
                  rw [set4 _ _ _ _ _ _ (by rw [HP.out.2.2.2.2.2.2.2.1]; omega)] at h2
                  refine ⟨k + 1, by omega, by go_num, ?_, ?_⟩
                  · rw [HS.out.1, HS.out.2, HP.out.2.2.2.2.2.2.2.2.1, ← HP.out.2.2.2.2.2.2.1, show (X.take lo ++ (⟨ky, x, y, v⟩ : Pt) :: X.drop lo).length = X.length + 1 by simp; omega]
                    exact h2.own HP.out.2.1 hc1 HP.out.2.2.1 (by rw [length_splice _ _ _ (by rw [HP.out.2.2.2.2.2.2.2.1]; simp; omega), HP.out.2.2.2.2.2.2.2.1])
                  · have hg := HP.out.2.1
                    have hcw := HP.out.2.2.2.2.1.drew.trans H3.out.2 (fun j hj h => by have h' : j = g2 := h; omega)
                    refine ((((hcw.setCell (p := ⟨g2, _, none⟩) (fun h => ?_) _).setCell (p := ⟨g2, _, none⟩) (fun h => ?_) _).setCell (p := ⟨g2, _, none⟩) (fun h => ?_) _).setCell (p := ⟨g2, _, none⟩) (fun h => ?_) _) <;> exact absurd h (by simp only; omega)
                case measure => simp [intOf]; omega
              · subst h1
                have HS := Hid.mk (And.intro HN.out.2.2.1 (step_none (l := X) (o := ⟨2, ⟨ky, x, y, v⟩⟩) (by simp) (fun _ => HN.out.1)))
                go_wp2_with fail
                go_roundw
                case rel =>
                  refine ⟨k + 1, by omega, by go_num, ?_, (HK.out.2.1.trans HW.out.2.1 (fun _ _ h => h)).drewN _⟩
                  rw [HS.out.1, HS.out.2]
                  exact own_keep HN.out.2.2.2 ((Chg.refl Nil _).drewN _) (fun _ _ h => h)
                case measure => simp [intOf]; omega
    · obtain rfl : k = m := by omega
      rw [List.take_of_length_le (by omega)] at hown
      have HK := Hid.mk (And.intro hown hch)
      clear hown hch
      go_wp2_with fail
      go_ret
      exact ⟨_, rfl, HK.out.1, HK.out.2⟩

end Go.Proofs.Ytanipieeegeheaa
namespace Go.Proofs.Ytanipieeegeheaa
open Go.RowKit

theorem goodL_oks (l : List Oq) : ∀ o ∈ goodL l, o.ok = true := fun _ h => (List.mem_filter.1 h).2
theorem ok_kinds {o : Oq} (h : o.ok = true) : o.kind = 1 ∨ o.kind = 2 := by
  unfold Oq.ok at h
  by_cases h1 : o.kind = 1
  · exact .inl h1
  · by_cases h2 : o.kind = 2
    · exact .inr h2
    · simp [h1, h2] at h
theorem up_nil : Up [] := List.Pairwise.nil
theorem doP_may (l : List Oq) (h : (goodL l).length ≤ 2000) : mayP (doP [] (goodL l)) = 0 := by
  have h1 := do_len (goodL l) [] up_nil
  exact mayP_yes (by simp at h1; omega) ((risesP_iff _).2 ⟨do_up _ _ up_nil, do_oks _ _ up_nil (by simp) (goodL_oks l)⟩)
theorem rdp_nil (w : World) (S : Nat → Prop) : RdP w S none 0 [] := Rds.nil

end Go.Proofs.Ytanipieeegeheaa
