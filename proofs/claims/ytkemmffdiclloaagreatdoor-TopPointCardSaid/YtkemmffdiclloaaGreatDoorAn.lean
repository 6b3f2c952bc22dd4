/- Joined for this seat from: XTailC XLexH. -/
import Derived.StillTail
import Derived.Deep.Quiet
import Derived.OrdersHeld
import Derived.Test.YtkemmffdiclloaaGreatDoorAm
set_option linter.unusedVariables false
set_option linter.unusedSimpArgs false
namespace Go.Proofs.YtkemmffdiclloaaGreatDoor
open Go.RowKit
section
variable {P : Program} {ops : Array Oper} {md : Region.Mode} {C : World → Prop} {n : Nat} {L : Array Bool → Act → Prop}
/-- f operations of the head are still to come, in whatever order; then L. -/
def headC (P : Program) (md : Region.Mode) (ops : Array Oper) (C : World → Prop) (n : Nat) (L : Array Bool → Act → Prop) : Nat → Array Bool → Act → Prop
  | 0, d, a => L d a
  | f + 1, d, a => Region.ready md ops d ≠ [] ∧ ∀ i, i ∈ Region.ready md ops d → i < n ∧ qOp P ops C i (headC P md ops C n L f (d.setIfInBounds i true)) a
theorem headC_any {g : Nat} {Q : Exit → Act → World → Prop} (hL : ∀ d a w, C w → L d a → wpAny P md ops Q g d a w) (f : Nat) :
    ∀ (d : Array Bool) (a : Act) (w : World), C w → headC P md ops C n L f d a → wpAny P md ops Q (f + g) d a w := by
  induction f with
  | zero => intro d a w hw h; rw [Nat.zero_add]; exact hL d a w hw h
  | succ f ih =>
    intro d a w hw h
    have e : f + 1 + g = (f + g) + 1 := by omega
    rw [e]
    exact ⟨fun h0 => absurd h0 h.1, fun i hi => wpOp_of_qOp hw (fun a' w' hw' h' => ih _ a' w' hw' h') (h.2 i hi).2⟩
theorem headC_first {i : Nat} {oi : Oper} {v : Value} (hi : ops[i]? = some oi) (hsel : ∀ (j : Nat) (o : Oper) cs b, ops[j]? = some o → o.op ≠ .select cs b)
    (hs : Region.sinkB md ops n = true) (hc : Region.chainB md ops n = true) (hn : n < ops.size) (hin : i < n) (hdone : ∀ d a, L d a → ∀ j, j ∈ Region.ready md ops d → n ≤ j) (f : Nat) :
    ∀ (d : Array Bool) (a : Act), HeadInv md ops n d →
      (∀ j oj, ops[j]? = some oj → j ≠ i → d.getD j true = false → (∀ e, e ∈ oj.after → Region.binds md e = true → e.on ≠ i) → oi.apart ops oj = true) →
      i ∈ Region.ready md ops d → YieldsIn P ops C oi v a → headC P md ops C n L f (d.setIfInBounds i true) (a.put oi.dst v) → headC P md ops C n L (f + 1) d a := by
  have low : ∀ (d : Array Bool), HeadInv md ops n d → i ∈ Region.ready md ops d → ∀ j, j ∈ Region.ready md ops d → j < n := fun d inv hr j hj => by
    rcases Nat.lt_or_ge j n with h | h
    · exact h
    · exact absurd hj (tail_waits hs hc hn inv _ i rfl hin (mem_ready.1 hr).1 j h)
  induction f with
  | zero =>
    intro d a inv _ hr hy H
    refine ⟨fun h => (by rw [h] at hr; cases hr), fun j hj => ⟨low d inv hr j hj, ?_⟩⟩
    rcases Nat.decEq j i with h | h
    · have h1 := hdone _ _ H j (ready_mono hj h)
      have h2 := low d inv hr j hj
      omega
    · subst h
      exact hy.qOp hi H
  | succ f ih =>
    intro d a inv hfree hr hy H
    have hun := (mem_ready.1 hr).1
    refine ⟨fun h => (by rw [h] at hr; cases hr), fun j hj => ⟨low d inv hr j hj, ?_⟩⟩
    rcases Nat.decEq j i with hji | hji
    · have h1 := (H.2 j (ready_mono hj hji)).2
      obtain ⟨hjun, oj, hoj, hall⟩ := mem_ready.1 hj
      have hno : ∀ e, e ∈ oj.after → Region.binds md e = true → e.on ≠ i := fun e he hb heq => by
        have h2 := hall e he hb
        rw [heq, getD_both hun] at h2
        cases h2
      have h2 := qOp_put hoj (hfree j oj hoj hji hjun hno) (fun cs b => hsel i oi cs b hi) (fun cs b => hsel j oj cs b hoj) hy h1
      refine qOp_mono (fun a' h3 => ?_) h2
      refine ih (d.setIfInBounds j true) a' (inv.set hj (low d inv hr j hj)) (fun k ok hk hki hu hn2 => ?_) (ready_mono hr (Ne.symm hji)) h3.1 ?_
      · refine hfree k ok hk hki ?_ hn2
        rcases Nat.decEq j k with hjk | hjk
        · rw [getD_set_ne true hjk] at hu; exact hu
        · rw [← hjk]; exact hjun
      · rw [Array.setIfInBounds_comm _ _ hji]
        exact h3.2
    · subst hji
      exact hy.qOp hi H
theorem headC_lex {g : Nat} {K : Act → Prop} (hsel : Region.noSelect ops = true) (hs : Region.sinkB md ops n = true) (hc : Region.chainB md ops n = true) (hn : n < ops.size) (l : List Oper) :
    ∀ (k : Nat) (d : Array Bool) (a : Act), (∀ j, j < l.length → l[j]? = ops[k + j]?) → k + l.length = n → HeadInv md ops n d → Region.lexHead md ops g l.length k d = true →
      wpQuiet P ops C K l a → headC P md ops C n (fun d' a' => Region.seqB md ops g n d' = true ∧ K a') l.length d a := by
  induction l with
  | nil =>
    intro k d a _ hk _ hB h
    obtain rfl : k = n := by simpa using hk
    exact ⟨by simpa [Region.lexHead] using hB, h⟩
  | cons o l ih =>
    intro k d a hl hk inv hB h
    have h0 : ops[k]? = some o := by simpa using (hl 0 (by simp)).symm
    simp only [List.length_cons, Region.lexHead, Bool.and_eq_true] at hB
    simp only [List.length_cons] at hk
    have hr : k ∈ Region.ready md ops d := by simpa using hB.1.1
    have hq : qOp P ops C k (wpQuiet P ops C K l) a := by unfold qOp; simp only [h0]; exact h
    obtain ⟨v, hy, hK⟩ := yieldsIn_of_qOp h0 hq
    exact headC_first h0 (Region.noSelect_spec hsel) hs hc hn (by omega) (fun d' a' hL => seqB_ready hL.1) l.length d a inv (Region.free_spec h0 hB.1.2) hr hy
      (ih (k + 1) _ _ (fun j hj => by have h1 := hl (j + 1) (by simp; omega); simpa [Nat.add_assoc, Nat.add_comm 1 j] using h1) (by omega) (inv.set hr (by omega)) hB.2 hK)
theorem wp_region_class_tail {id : Nat} {Q : Exit → Act → World → Prop} {a : Act} {w : World} {l : List Oper} (C : World → Prop) (n : Nat) (hm : P.follows .mixedOrders = true) (hB : Region.lexTailB .any l.toArray n = true) (hC : C { w with drawn := w.drawn + 1 })
    (h : wpQuiet P l.toArray C (fun a' => ∀ w', C w' → wpList P l.toArray Q (l.drop n) a' w') (l.take n) a) : (Code.region id l.toArray true).wp P Q a w := by
  simp only [Region.lexTailB, Bool.and_eq_true, decide_eq_true_eq] at hB
  obtain ⟨⟨⟨⟨hsel, hn⟩, hs⟩, hc⟩, hlex⟩ := hB
  have hn' : n < l.length := by simpa using hn
  have htl : (l.take n).length = n := by simp; omega
  have hdl : (l.drop n).length = l.toArray.size - n := by simp
  have inv0 : HeadInv .any l.toArray n (Array.replicate l.toArray.size false) :=
    ⟨by simp, fun j oj _ hl => (by rw [getD_replicate_false] at hl; cases hl), fun t _ ht => getD_in (by simpa using ht) (getD_replicate_false _ _)⟩
  have H := headC_lex (md := .any) (g := l.toArray.size - n) hsel hs hc hn (l.take n) 0 _ a (fun j hj => by
    have hj' : j < n := by rw [htl] at hj; exact hj
    simp [hj']) (by simpa using htl) inv0 (by rw [htl]; exact hlex) h
  refine wp_region_any hm ?_
  have hq := headC_any (Q := Q) (g := l.toArray.size - n) (fun d a' w' hw' hL => by
    have h1 := wpAny_of_seq (md := .any) (Q' := Q) (l.drop n) n d a' w' (fun j => by simp [List.getElem?_drop]) (by rw [hdl]; exact hL.1) (hL.2 w' hw')
    rwa [hdl] at h1) _ _ _ _ hC H
  rw [htl, show n + (l.toArray.size - n) = l.toArray.size by omega] at hq
  exact hq
theorem wp_region_after_tail {id : Nat} {Q : Exit → Act → World → Prop} {a : Act} {w : World} {l : List Oper} (n : Nat) (hm : P.follows .mixedOrders = true) (hB : Region.lexTailB .any l.toArray n = true)
    (h : wpQuiet P l.toArray (fun W => ∃ x : After w, W = x.world) (fun a' => ∀ w', (∃ x : After w, w' = x.world) → wpList P l.toArray Q (l.drop n) a' w') (l.take n) a) : (Code.region id l.toArray true).wp P Q a w :=
  wp_region_class_tail (fun W => ∃ x : After w, W = x.world) n hm hB ⟨⟨{ w with drawn := w.drawn + 1 }, ⟨rfl, rfl, rfl, Nat.le_refl _, fun _ _ => rfl⟩⟩, rfl⟩ h
end

end Go.Proofs.YtkemmffdiclloaaGreatDoor
namespace Go.Proofs.YtkemmffdiclloaaGreatDoor
open Go.RowKit
/-- A world that meets S. -/
structure Sub (S : World → Prop) where
  world : World
  ok : S world
theorem Sub.some {S : World → Prop} {w : World} (h : S w) : Nonempty (Sub S) := ⟨⟨w, h⟩⟩
section
variable {P : Program} {ops : Array Oper} {md : Region.Mode} {Q : Exit → Act → World → Prop} {S : World → Prop}
/-- The walk: 'true': it only reads; 'false': a call, a store. -/
def lexH (P : Program) (ops : Array Oper) (Q : Exit → Act → World → Prop) (S : World → Prop) : List Bool → List Oper → Act → World → Prop
  | true :: ks, o :: l, a, w =>
    if Region.wanted o (yielded ops a.tmps) = true then ∃ v, (∀ W, S W → (execOp a.eval o).run P W = .ok (.value v) W) ∧ lexH P ops Q S ks l (a.put o.dst v) w
    else lexH P ops Q S ks l (a.put o.dst undef) w
  | false :: ks, o :: l, a, w => wpList P ops (Exit.then (fun a' w' => S w' ∧ lexH P ops Q S ks l a' w') Q) [o] a w
  | _, _, a, w => Q .normal a w
def lexHB (md : Region.Mode) (ops : Array Oper) : List Bool → List Nat → Array Bool → Bool
  | [], [], d => (Region.ready md ops d).isEmpty
  | true :: ks, k :: is, d => (Region.ready md ops d).contains k && Region.free md ops d k && lexHB md ops ks is (d.setIfInBounds k true)
  | false :: ks, k :: is, d => decide (Region.ready md ops d = [k]) && lexHB md ops ks is (d.setIfInBounds k true)
  | _, _, _ => false
theorem upon_then {o : Oper} {a : Act} {next K : Act → World → Prop} {r : Result Next} (h : o.upon P a next (Exit.then K Q) r) : o.upon P a next Q r := by
  cases r with
  | ok n w' =>
    cases n <;> exact h
  | halt x w' => cases x <;> exact h
theorem lexH_any (hsel : Region.noSelect ops = true) (hQ : ∀ d v c a w, Q (.panic c) (Act.put a d v) w → Q (.panic c) a w) (ks : List Bool) :
    ∀ (is : List Nat) (l : List Oper) (d : Array Bool) (a : Act) (w : World), l.map some = is.map (fun i => ops[i]?) → lexHB md ops ks is d = true → S w →
      lexH P ops Q S ks l a w → wpAnyH P md ops Q S ks.length d a w := by
  induction ks with
  | nil =>
    intro is l d a w hl hB _ h
    cases is with
    | cons k is => simp [lexHB] at hB
    | nil =>
      obtain rfl : l = [] := by simpa using hl
      simp only [lexHB, List.isEmpty_iff] at hB
      exact ⟨hB, h⟩
  | cons b ks ih =>
    intro is l d a w hl hB hS h
    cases is with
    | nil => cases b <;> simp [lexHB] at hB
    | cons k is =>
      cases l with
      | nil => simp at hl
      | cons o l =>
        simp only [List.map_cons, List.cons.injEq] at hl
        have h0 : ops[k]? = some o := hl.1.symm
        cases b with
        | true =>
          simp only [lexHB, Bool.and_eq_true] at hB
          simp only [lexH] at h
          by_cases hw : Region.wanted o (yielded ops a.tmps) = true
          · rw [if_pos hw] at h
            obtain ⟨v, hv, h⟩ := h
            exact wpAnyH_take h0 hsel hB.1.2 hB.1.1 (fun c a w => hQ _ _ c a w) (.inl ⟨hw, hv⟩) hS (ih is l _ _ w hl.2 hB.2 hS h)
          · rw [if_neg hw] at h
            exact wpAnyH_take h0 hsel hB.1.2 hB.1.1 (fun c a w => hQ _ _ c a w) (.inr ⟨by simpa using hw, rfl⟩) hS (ih is l _ _ w hl.2 hB.2 hS h)
        | false =>
          simp only [lexHB, Bool.and_eq_true, decide_eq_true_eq] at hB
          simp only [lexH] at h
          refine wpAnyH_all hB.1 (by simp) fun i hi => ?_
          obtain rfl : i = k := by simpa using hi
          unfold wpOp
          simp only [h0]
          unfold wpList at h
          by_cases hw : Region.wanted o (yielded ops a.tmps) = true
          · rw [if_pos hw] at h ⊢
            rcases h with h | ⟨h1, h2⟩
            · refine .inl (Oper.wp_mono (fun a' w' h' => ?_) (upon_then h))
              exact ⟨h'.1, ih is l _ a' w' hl.2 hB.2 h'.1 h'.2⟩
            · exact .inr ⟨h1, h2⟩
          · rw [if_neg hw] at h ⊢
            exact ⟨h.1, ih is l _ _ w hl.2 hB.2 h.1 h.2⟩
theorem pick_map {l : List Oper} (is : List Nat) (h : is.all (fun i => decide (i < l.length)) = true) : (is.filterMap (fun i => l[i]?)).map some = is.map (fun i => l.toArray[i]?) := by
  induction is with
  | nil => rfl
  | cons i is ih =>
    simp only [List.all_cons, Bool.and_eq_true, decide_eq_true_eq] at h
    have hi : l[i]? = some l[i] := List.getElem?_eq_getElem h.1
    rw [List.filterMap_cons, hi]
    simp only [List.map_cons]
    rw [ih (by simpa using h.2)]
    simp [hi]
/-- 'is': the order in which the operations are walked. -/
theorem wp_region_lexH {id : Nat} {a : Act} {w : World} {l : List Oper} (S : World → Prop) (ks : List Bool) (is : List Nat) (hm : P.follows .mixedOrders = true)
    (hB : (Region.noSelect l.toArray && decide (ks.length = l.length) && is.all (fun i => decide (i < l.length)) && lexHB .any l.toArray ks is (Array.replicate l.toArray.size false)) = true)
    (hQ : ∀ d v c a w, Q (.panic c) (Act.put a d v) w → Q (.panic c) a w) (hS : S { w with drawn := w.drawn + 1 })
    (h : lexH P l.toArray Q S ks (is.filterMap (fun i => l[i]?)) a { w with drawn := w.drawn + 1 }) : (Code.region id l.toArray true).wp P Q a w := by
  simp only [Bool.and_eq_true, decide_eq_true_eq] at hB
  refine wp_region_held (S := S) hm ?_
  have h1 := lexH_any (md := .any) hB.1.1.1 hQ ks is _ _ a _ (pick_map is hB.1.2) hB.2 hS h
  have e : ks.length = l.toArray.size := by simpa using hB.1.1.2
  rwa [e] at h1
def stillKind (o : Oper) : Bool :=
  match o.op with
  | .move _ | .assign _ | .pick .. | .load .. | .binOp .. | .unOp .. | .build .. | .fieldAddr .. | .field .. | .indexAddr .. | .index .. | .extract .. | .slice .. | .makeInterface .. | .makeFunc .. | .lookup .. | .convert .. => true
  | .call { callee := .builtin .len, .. } => true
  | _ => false
theorem run_wrapped {α : Type} (m : Sem α) (g : α → Next) (w w' : World) (n : Next) (h : (do let r ← m; pure (g r) : Sem Next).run P w = .ok n w') : ∃ r, n = g r := by
  have h' : ((m.run P w).andThen fun r W => (pure (g r) : Sem Next).run P W) = .ok n w' := by rw [← h]; exact (Sem.run_bind ..).symm
  cases hm : m.run P w with
  | ok r W => rw [hm] at h'; simp at h'; exact ⟨r, h'.1.symm⟩
  | halt x W => rw [hm] at h'; simp at h'
theorem still_value {o : Oper} {ρ : Operand → Value} {w w' : World} {n : Next} (hk : stillKind o = true) (h : (execOp ρ o).run P w = .ok n w') : ∃ r, n = .value r := by
  unfold execOp at h
  unfold stillKind at hk
  generalize ho : o.op = op at *
  cases op <;> simp only [Bool.false_eq_true] at hk
  case move x => simp only [Sem.run_pure, Result.ok.injEq] at h; exact ⟨_, h.1.symm⟩
  case assign x => simp only [Sem.run_pure, Result.ok.injEq] at h; exact ⟨_, h.1.symm⟩
  case pick c x y =>
    obtain ⟨b, hb⟩ := run_wrapped (asBool (ρ c)) (fun b => .value (if b = true then ρ x else ρ y)) w w' n h
    exact ⟨_, hb⟩
  case call c =>
    obtain ⟨callee, args, argTypes⟩ := c
    cases callee <;> try (simp only [Bool.false_eq_true] at hk; done)
    case builtin b =>
      cases b <;> try (simp only [Bool.false_eq_true] at hk; done)
      simp only [resolve, invoke, builtin, Sem.run_bind, Sem.run_pure, Result.andThen_ok] at h
      exact run_wrapped _ .value w w' n (by rw [Sem.run_bind]; exact h)
  all_goals exact run_wrapped _ .value w w' n h
theorem lexH_quiet {ks : List Bool} {l1 l2 : List Oper} (hk : l1.all stillKind = true) : ∀ {a : Act} {w : World},
    wpQuiet P ops (fun W => ∃ x : Sub S, W = x.world) (fun a' => lexH P ops Q S ks l2 a' w) l1 a → lexH P ops Q S (List.replicate l1.length true ++ ks) (l1 ++ l2) a w := by
  induction l1 with
  | nil => intro a w h; exact h
  | cons o l ih =>
    intro a w h
    simp only [List.all_cons, Bool.and_eq_true] at hk
    have ih' := fun {a w} => @ih hk.2 a w
    unfold wpQuiet at h
    simp only [List.length_cons, List.replicate_succ, List.cons_append, lexH]
    by_cases hw : Region.wanted o (yielded ops a.tmps) = true
    · rw [if_pos hw] at h ⊢
      obtain ⟨v, hv, h⟩ := h
      refine ⟨v, fun W hS => ?_, ih' h⟩
      have h1 := hv W ⟨⟨W, hS⟩, rfl⟩
      unfold Oper.quietAt at h1
      cases hr : (execOp a.eval o).run P W with
      | halt x W' => rw [hr] at h1; exact h1.elim
      | ok n W' =>
        obtain ⟨r, rfl⟩ := still_value hk.1 hr
        rw [hr] at h1
        obtain ⟨e1, e2⟩ := h1
        rw [e1, e2]
    · rw [if_neg hw] at h ⊢
      exact ih' h
/-- One call, or one store. -/
theorem lexH_eff {ks : List Bool} {o : Oper} {l : List Oper} {a : Act} {w : World} (h : wpList P ops (Exit.then (fun a' w' => S w' ∧ lexH P ops Q S ks l a' w') Q) [o] a w) : lexH P ops Q S (false :: ks) (o :: l) a w := h
theorem then_normal {K : Act → World → Prop} {a : Act} {w : World} (h : K a w) : Exit.then K Q .normal a w := h
theorem lexH_end {a : Act} {w : World} (h : Q .normal a w) : lexH P ops Q S [] [] a w := h
/-- The same, with places where one of two may come up. -/
inductive LT where
  | fin
  | one (still : Bool) (i : Nat) (t : LT)
  | two (i : Nat) (t : LT) (j : Nat) (u : LT)
def LT.deep : LT → Nat
  | .fin => 0
  | .one _ _ t => t.deep + 1
  | .two _ t _ _ => t.deep + 1
def lexT (P : Program) (ops : Array Oper) (Q : Exit → Act → World → Prop) (S : World → Prop) : LT → Act → World → Prop
  | .fin, a, w => Q .normal a w
  | .one true i t, a, w => ∃ o, ops[i]? = some o ∧
    if Region.wanted o (yielded ops a.tmps) = true then ∃ v, (∀ W, S W → (execOp a.eval o).run P W = .ok (.value v) W) ∧ lexT P ops Q S t (a.put o.dst v) w
    else lexT P ops Q S t (a.put o.dst undef) w
  | .one false i t, a, w => ∃ o, ops[i]? = some o ∧ wpList P ops (Exit.then (fun a' w' => S w' ∧ lexT P ops Q S t a' w') Q) [o] a w
  | .two i t j u, a, w => (∃ o, ops[i]? = some o ∧ wpList P ops (Exit.then (fun a' w' => S w' ∧ lexT P ops Q S t a' w') Q) [o] a w) ∧
    ∃ o, ops[j]? = some o ∧ wpList P ops (Exit.then (fun a' w' => S w' ∧ lexT P ops Q S u a' w') Q) [o] a w
def LT.ok (md : Region.Mode) (ops : Array Oper) : LT → Array Bool → Bool
  | .fin, d => (Region.ready md ops d).isEmpty
  | .one true i t, d => (Region.ready md ops d).contains i && Region.free md ops d i && LT.ok md ops t (d.setIfInBounds i true)
  | .one false i t, d => decide (Region.ready md ops d = [i]) && LT.ok md ops t (d.setIfInBounds i true)
  | .two i t j u, d => decide (Region.ready md ops d = [i, j]) && decide (i ≠ j) && decide (t.deep = u.deep) && LT.ok md ops t (d.setIfInBounds i true) && LT.ok md ops u (d.setIfInBounds j true)
theorem wpOp_of_list {i : Nat} {o : Oper} {K : Act → World → Prop} {a : Act} {w : World} (h0 : ops[i]? = some o) (h : wpList P ops (Exit.then K Q) [o] a w) : wpOp P ops Q i K a w := by
  unfold wpOp
  simp only [h0]
  unfold wpList at h
  by_cases hw : Region.wanted o (yielded ops a.tmps) = true
  · rw [if_pos hw] at h ⊢
    rcases h with h | ⟨h1, h2⟩
    · exact .inl (upon_then h)
    · exact .inr ⟨h1, h2⟩
  · rw [if_neg hw] at h ⊢
    exact h
theorem lexT_any (hsel : Region.noSelect ops = true) (hQ : ∀ d v c a w, Q (.panic c) (Act.put a d v) w → Q (.panic c) a w) (t : LT) :
    ∀ (d : Array Bool) (a : Act) (w : World), t.ok md ops d = true → S w → lexT P ops Q S t a w → wpAnyH P md ops Q S t.deep d a w := by
  induction t with
  | fin =>
    intro d a w hB _ h
    simp only [LT.ok, List.isEmpty_iff] at hB
    exact ⟨hB, h⟩
  | one b i t ih =>
    intro d a w hB hS h
    cases b with
    | true =>
      obtain ⟨o, h0, h⟩ := h
      simp only [LT.ok, Bool.and_eq_true] at hB
      by_cases hw : Region.wanted o (yielded ops a.tmps) = true
      · rw [if_pos hw] at h
        obtain ⟨v, hv, h⟩ := h
        exact wpAnyH_take h0 hsel hB.1.2 hB.1.1 (fun c a w => hQ _ _ c a w) (.inl ⟨hw, hv⟩) hS (ih _ _ w hB.2 hS h)
      · rw [if_neg hw] at h
        exact wpAnyH_take h0 hsel hB.1.2 hB.1.1 (fun c a w => hQ _ _ c a w) (.inr ⟨by simpa using hw, rfl⟩) hS (ih _ _ w hB.2 hS h)
    | false =>
      obtain ⟨o, h0, h⟩ := h
      simp only [LT.ok, Bool.and_eq_true, decide_eq_true_eq] at hB
      refine wpAnyH_all hB.1 (by simp) fun k hk => ?_
      obtain rfl : k = i := by simpa using hk
      exact wpOp_mono (fun a' w' h' => ⟨h'.1, ih _ a' w' hB.2 h'.1 h'.2⟩) (wpOp_of_list h0 h)
  | two i t j u iht ihu =>
    intro d a w hB hS h
    obtain ⟨⟨o, h0, h1⟩, o', h0', h2⟩ := h
    simp only [LT.ok, Bool.and_eq_true, decide_eq_true_eq] at hB
    refine wpAnyH_all hB.1.1.1.1 (by simp) fun k hk => ?_
    have hk' : k = i ∨ k = j := by simpa using hk
    rcases hk' with rfl | rfl
    · exact wpOp_mono (fun a' w' h' => ⟨h'.1, iht _ a' w' hB.1.2 h'.1 h'.2⟩) (wpOp_of_list h0 h1)
    · refine wpOp_mono (fun a' w' h' => ⟨h'.1, ?_⟩) (wpOp_of_list h0' h2)
      have := ihu _ a' w' hB.2 h'.1 h'.2
      rwa [← hB.1.1.2] at this
theorem wp_region_lexT {id : Nat} {a : Act} {w : World} {l : List Oper} (S : World → Prop) (t : LT) (hm : P.follows .mixedOrders = true)
    (hB : (Region.noSelect l.toArray && decide (t.deep = l.length) && t.ok .any l.toArray (Array.replicate l.toArray.size false)) = true)
    (hQ : ∀ d v c a w, Q (.panic c) (Act.put a d v) w → Q (.panic c) a w) (hS : S { w with drawn := w.drawn + 1 })
    (h : lexT P l.toArray Q S t a { w with drawn := w.drawn + 1 }) : (Code.region id l.toArray true).wp P Q a w := by
  simp only [Bool.and_eq_true, decide_eq_true_eq] at hB
  refine wp_region_held (S := S) hm ?_
  have h1 := lexT_any (md := .any) hB.1.1 hQ t _ a _ hB.2 hS h
  have e : t.deep = l.toArray.size := by simpa using hB.1.2
  rwa [e] at h1
theorem lexT_still {i : Nat} {t : LT} {o : Oper} {a : Act} {w : World} (h0 : ops[i]? = some o) (hk : stillKind o = true)
    (h : wpQuiet P ops (fun W => ∃ x : Sub S, W = x.world) (fun a' => lexT P ops Q S t a' w) [o] a) : lexT P ops Q S (.one true i t) a w := by
  refine ⟨o, h0, ?_⟩
  unfold wpQuiet at h
  by_cases hw : Region.wanted o (yielded ops a.tmps) = true
  · rw [if_pos hw] at h ⊢
    obtain ⟨v, hv, h⟩ := h
    refine ⟨v, fun W hS => ?_, h⟩
    have h1 := hv W ⟨⟨W, hS⟩, rfl⟩
    unfold Oper.quietAt at h1
    cases hr : (execOp a.eval o).run P W with
    | halt x W' => rw [hr] at h1; exact h1.elim
    | ok n W' =>
      obtain ⟨r, rfl⟩ := still_value hk hr
      rw [hr] at h1
      obtain ⟨e1, e2⟩ := h1
      rw [e1, e2]
  · rw [if_neg hw] at h ⊢
    exact h
theorem lexT_eff {i : Nat} {t : LT} {o : Oper} {a : Act} {w : World} (h0 : ops[i]? = some o) (h : wpList P ops (Exit.then (fun a' w' => S w' ∧ lexT P ops Q S t a' w') Q) [o] a w) : lexT P ops Q S (.one false i t) a w := ⟨o, h0, h⟩
theorem lexT_two {i j : Nat} {t u : LT} {o o' : Oper} {a : Act} {w : World} (h0 : ops[i]? = some o) (h1 : ops[j]? = some o') (h : wpList P ops (Exit.then (fun a' w' => S w' ∧ lexT P ops Q S t a' w') Q) [o] a w)
    (h' : wpList P ops (Exit.then (fun a' w' => S w' ∧ lexT P ops Q S u a' w') Q) [o'] a w) : lexT P ops Q S (.two i t j u) a w := ⟨⟨o, h0, h⟩, o', h1, h'⟩
theorem lexT_end {a : Act} {w : World} (h : Q .normal a w) : lexT P ops Q S .fin a w := h
def nthO : List Oper → Nat → Option Oper
  | o :: _, 0 => some o
  | _ :: l, n + 1 => nthO l n
  | [], _ => none
theorem nthO_get (l : List Oper) : ∀ (i : Nat) (o : Oper), nthO l i = some o → l.toArray[i]? = some o := by
  induction l with
  | nil => intro i o h; cases i <;> simp [nthO] at h
  | cons b l ih =>
    intro i o h
    cases i with
    | zero => simpa [nthO] using h
    | succ i => simpa using ih i o h
theorem lexT_s {l : List Oper} {i : Nat} {t : LT} {o : Oper} {a : Act} {w : World} (h0 : nthO l i = some o) (hk : stillKind o = true)
    (h : wpQuiet P l.toArray (fun W => ∃ x : Sub S, W = x.world) (fun a' => lexT P l.toArray Q S t a' w) [o] a) : lexT P l.toArray Q S (.one true i t) a w := lexT_still (nthO_get _ _ _ h0) hk h
theorem lexT_e {l : List Oper} {i : Nat} {t : LT} {o : Oper} {a : Act} {w : World} (h0 : nthO l i = some o) (h : wpList P l.toArray (Exit.then (fun a' w' => S w' ∧ lexT P l.toArray Q S t a' w') Q) [o] a w) : lexT P l.toArray Q S (.one false i t) a w := ⟨o, nthO_get _ _ _ h0, h⟩
theorem lexT_2 {l : List Oper} {i j : Nat} {t u : LT} {o o' : Oper} {a : Act} {w : World} (h0 : nthO l i = some o) (h1 : nthO l j = some o') (h : wpList P l.toArray (Exit.then (fun a' w' => S w' ∧ lexT P l.toArray Q S t a' w') Q) [o] a w)
    (h' : wpList P l.toArray (Exit.then (fun a' w' => S w' ∧ lexT P l.toArray Q S u a' w') Q) [o'] a w) : lexT P l.toArray Q S (.two i t j u) a w := ⟨⟨o, nthO_get _ _ _ h0, h⟩, o', nthO_get _ _ _ h1, h'⟩
end

end Go.Proofs.YtkemmffdiclloaaGreatDoor
