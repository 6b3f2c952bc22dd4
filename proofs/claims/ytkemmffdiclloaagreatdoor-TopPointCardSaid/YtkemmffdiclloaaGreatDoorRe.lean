import Derived.Test.YtkemmffdiclloaaGreatDoorRd
import Derived.Orders
set_option linter.unusedVariables false
set_option linter.unusedSimpArgs false
/- What an operation of a closed run means in the model. -/
namespace Go.RE
open Go.RowKit
noncomputable section

/-- The operation yields v and leaves h'. -/
def OpS (P : Program) (op : Op) (h : Hp) (fr : T AV) (v : AV) (h' : Hp) : Prop :=
  ∀ (S : Nat → Prop) (w0 : World) (ρ : M) (a : Act) (w : World) (o : Oper) (next : Act → World → Prop) (Q : Exit → Act → World → Prop), o.op = op → FRon ρ (ofOp op) fr a → Inv S w0 h ρ w →
    (∀ ρ' v' w', VR ρ' v v' → Inv S w0 h' ρ' w' → ExtN h.n ρ ρ' → h.n ≤ h'.n → next (a.put o.dst v') w') → o.wp P a w next Q
/-- A call of f with vs yields v and leaves h'. -/
def FnS (P : Program) (f : FuncId) (vs : List AV) (h : Hp) (v : AV) (h' : Hp) : Prop :=
  ∀ (S : Nat → Prop) (w0 : World) (ρ : M) (a : Act) (w : World) (us : Array Value) (o : Oper) (next : Act → World → Prop) (Q : Exit → Act → World → Prop), VRs ρ vs us.toList → Inv S w0 h ρ w →
    (∀ ρ' v' w', VR ρ' v v' → Inv S w0 h' ρ' w' → ExtN h.n ρ ρ' → h.n ≤ h'.n → next (a.put o.dst v') w') → o.upon P a next Q ((callFunc f us).run P w)
def CkOk (P : Program) (ck : CK) : Prop := ∀ f vs h k, ck f vs h k = true → ∃ v h', k v h' = true ∧ FnS P f vs h v h'
/-- What the table of methods says. -/
def MtOk (P : Program) (mt : MT) : Prop := ∀ t name f, (mt t name = some (f, true) → ∀ (ad : Addr) (w : World), (method (P.types.size + Made.depth) t (.pointer (some ad)) name).run P w = .ok (f, .pointer (some ad)) w) ∧
  (mt t name = some (f, false) → ∀ (ad : Addr) (w : World) (u : Value), w.cell? ad = some u → (method (P.types.size + Made.depth) t (.pointer (some ad)) name).run P w = .ok (f, u) w)
section
variable {P : Program} {op : Op} {h h' : Hp} {fr : T AV} {v : AV}
theorem OpS.still (k : StillS P op h fr v) : OpS P op h fr v h := by
  intro S w0 ρ a w o next Q ho hF hI hn
  obtain ⟨v', h1, h2⟩ := k S w0 ρ a w o ho hF hI
  rw [Oper.wp, h1, Oper.upon_value]
  exact hn ρ v' w h2 hI (ExtN.refl _ _) (Nat.le_refl _)
theorem OpS.eff (k : EffS P op h fr v h') : OpS P op h fr v h' := by
  intro S w0 ρ a w o next Q ho hF hI hn
  obtain ⟨w', ρ', h1, h2, h3, h4⟩ := k S w0 ρ a w o ho hF hI
  rcases h1 with ⟨v', h1, hv⟩ | ⟨h1, rfl⟩
  · rw [Oper.wp, h1, Oper.upon_value]
    exact hn ρ' v' w' hv h2 h3 h4
  · rw [Oper.wp, h1, Oper.upon_skip]
    exact hn ρ' undef w' (.tu [] #[] rfl (fun j u v hu => by simp at hu)) h2 h3 h4
theorem Inv.fresh0 {S : Nat → Prop} {w0 w : World} {ρ : M} (k : Inv S w0 h ρ w) {id : Nat} (hid : h.n ≤ id) : ρ id = none := by
  cases hq : ρ id with
  | none => rfl
  | some q => have := k.dom id q hq; omega
theorem OpS.float {a : AO} (hl : a.live) (k : FloatS P op fr h.n v a) : OpS P op h fr v ⟨h.t.put h.n a, h.n + 1⟩ := by
  intro S w0 ρ ac w o next Q ho hF hI hn
  have h0 := hI.fresh0 (Nat.le_refl h.n)
  obtain ⟨v', ob, n, h1, h2, h3⟩ := k ρ ac w o ho hF h0
  rw [Oper.wp, h1, Oper.upon_value]
  exact hn _ v' _ h2 (hI.new h0 (Nat.lt_succ_self _) (Nat.le_succ _) rfl hl h3) (ExtN.put h0 (Nat.le_refl _)) (Nat.le_succ _)
end
/-! ### the checker of operations -/
def chkCall (o : Op) (p : Operand → List Operand → Bool) : Bool := match o with
  | .call c => match c.callee with
    | .value f => p f c.args.toList
    | _ => false
  | _ => false
def chkInv (o : Op) (p : Operand → String → List Operand → Bool) : Bool := match o with
  | .call c => match c.callee with
    | .invoke r n => p r n c.args.toList
    | _ => false
  | _ => false
theorem chkCall_ok {o : Op} {p : Operand → List Operand → Bool} (h : chkCall o p = true) : ∃ f args types, o = .call { callee := .value f, args := args.toArray, argTypes := types } ∧ p f args = true := by
  cases o <;> simp only [chkCall] at h <;> try (cases h; done)
  rename_i c
  obtain ⟨callee, args, types⟩ := c
  cases callee <;> simp only at h <;> try (cases h; done)
  exact ⟨_, args.toList, types, by simp, h⟩
theorem chkInv_ok {o : Op} {p : Operand → String → List Operand → Bool} (h : chkInv o p = true) : ∃ r n args types, o = .call { callee := .invoke r n, args := args.toArray, argTypes := types } ∧ p r n args = true := by
  cases o <;> simp only [chkInv] at h <;> try (cases h; done)
  rename_i c
  obtain ⟨callee, args, types⟩ := c
  cases callee <;> simp only at h <;> try (cases h; done)
  exact ⟨_, _, args.toList, types, by simp, h⟩
def chkOp (tt : T TypeInfo) (eqs : TypeId → Option (List IntKind)) (o : Op) (a : AOp) : Bool := match a with
  | .s s => chkS tt eqs o s
  | .f f => chkF tt o f
  | .e e => chkE tt o e
  | .call f args => chkCall o fun x xs => (match x with | .func g => decide (g = f) | _ => false) && chkXs xs args
  | .dyn f args => chkCall o fun x xs => chkX x f && chkXs xs args
  | .inv x n args => chkInv o fun r m xs => chkX r x && decide (m = n) && chkXs xs args
  | .bad => true
section
variable {P : Program} {tt : T TypeInfo} {eqs : TypeId → Option (List IntKind)} {op : Op} {h : Hp} {fr : T AV} {ck : CK} {mt : MT}
theorem doOp_ok (hT : TyOk P tt) (hE : EqOk P eqs) (hC : CkOk P ck) (hM : MtOk P mt) {o : AOp} {k : AV → Hp → Bool} (hc : chkOp tt eqs op o = true) (e : doOp ck mt o fr h k = true) : ∃ v h', k v h' = true ∧ OpS P op h fr v h' := by
  cases o <;> simp only [chkOp, doOp] at hc e
  case s s =>
    obtain ⟨v, h1, h2⟩ := sop_ok hT hE hc e
    exact ⟨v, h, h1, .still h2⟩
  case f f =>
    obtain ⟨v, a, h1, hl, h2⟩ := fop_ok hT hc e
    exact ⟨v, _, h1, .float hl h2⟩
  case e f =>
    obtain ⟨v, h', h1, h2⟩ := eop_ok hT hc e
    exact ⟨v, h', h1, .eff h2⟩
  case call f args =>
    obtain ⟨x, xs, types, rfl, hp⟩ := chkCall_ok hc
    simp only [Bool.and_eq_true] at hp
    obtain ⟨hx, hxs⟩ := hp
    cases x <;> simp only at hx <;> try (cases hx; done)
    rename_i g
    obtain rfl := of_decide_eq_true hx
    obtain ⟨vs, hvs, e⟩ := evs_vals e
    obtain ⟨v, h', hk, hf⟩ := hC _ _ _ _ e
    refine ⟨v, h', hk, fun S w0 ρ a w o next Q ho hF hI hn => ?_⟩
    have hr := hF.vals hxs hvs (fun o ho => ofOp_mem (by simp [Op.operands, Call.operands, ho]))
    have : (execOp a.eval o).run P w = (callFunc g (#[] ++ (xs.toArray.map a.eval) ++ #[])).run P w := by
      simp only [execOp, ho]; rfl
    rw [Oper.wp, this]
    exact hf S w0 ρ a w _ o next Q (by simpa using hr) hI hn
  case dyn f args =>
    obtain ⟨x, xs, types, rfl, hp⟩ := chkCall_ok hc
    simp only [Bool.and_eq_true] at hp
    obtain ⟨hx, hxs⟩ := hp
    obtain ⟨fv, hfv, e1⟩ := ev_val e
    obtain ⟨vs, hvs, e2⟩ := evs_vals e1
    clear e e1
    cases fv <;> simp only at e2 <;> try (cases e2; done)
    rename_i fn fi ca
    cases fn <;> simp only at e2 <;> try (cases e2; done)
    rename_i g
    have e := e2
    clear e2
    obtain ⟨v, h', hk, hf⟩ := hC _ _ _ _ e
    refine ⟨v, h', hk, fun S w0 ρ a w o next Q ho hF hI hn => ?_⟩
    have hr := hF.vals hxs hvs (fun o ho => ofOp_mem (by simp [Op.operands, Call.operands, ho]))
    have hg := hF.val hx hfv (ofOp_mem (by simp [Op.operands, Call.operands]))
    obtain ⟨fi', ca', i1, i2, i3⟩ := hg.inv_f
    have : (execOp a.eval o).run P w = (callFunc g ((fi'.toArray ++ (xs.toArray.map a.eval)) ++ ca'.toArray)).run P w := by
      simp only [execOp, ho, resolve, i1, Deferred.ofValue]; rfl
    rw [Oper.wp, this]
    exact hf S w0 ρ a w _ o next Q (by simpa using ((i2.append hr).append i3)) hI hn
  case inv x name args =>
    obtain ⟨r, n, xs, types, rfl, hp⟩ := chkInv_ok hc
    simp only [Bool.and_eq_true, decide_eq_true_eq] at hp
    obtain ⟨⟨hx, rfl⟩, hxs⟩ := hp
    obtain ⟨u, hu, e1⟩ := ev_val e
    obtain ⟨vs, hvs, e2⟩ := evs_vals e1
    clear e e1
    cases u <;> try (cases e2; done)
    rename_i t u
    cases u <;> try (cases e2; done)
    rename_i id off
    simp only at e2
    have e := e2
    clear e2
    have key : ∀ (a : Act) (w : World) (o : Oper) (ad : Addr) (f : FuncId) (rv : Value), o.op = .call { callee := .invoke r n, args := xs.toArray, argTypes := types } → a.eval r = .iface t (.pointer (some ad)) →
        (method (P.types.size + Made.depth) t (.pointer (some ad)) n).run P w = .ok (f, rv) w → (execOp a.eval o).run P w = (callFunc f (#[rv] ++ xs.toArray.map a.eval)).run P w := by
      intro a w o ad f rv ho hr hm
      have h0 : (#[Value.iface t (.pointer (some ad))] ++ xs.toArray.map a.eval)[0]? = some (Value.iface t (.pointer (some ad))) := by simp
      have h1 : (#[Value.iface t (.pointer (some ad))] ++ xs.toArray.map a.eval).extract 1 (#[Value.iface t (.pointer (some ad))] ++ xs.toArray.map a.eval).size = xs.toArray.map a.eval := by
        simp
        exact List.take_of_length_le (by simp)
      have e1 : execOp a.eval o = invoke (.fn (.method n) #[]) (#[Value.iface t (.pointer (some ad))] ++ xs.toArray.map a.eval) := by
        simp only [execOp, ho, resolve, hr]; rfl
      have e2 : invoke (.fn (.method n) #[]) (#[Value.iface t (.pointer (some ad))] ++ xs.toArray.map a.eval) = callMethod (.iface t (.pointer (some ad))) n (xs.toArray.map a.eval) := by
        simp only [invoke, h0, h1]
      rw [e1, e2]
      simp only [callMethod, Sem.run_bind, run_program]
      show (Sem.run P (method (P.types.size + Made.depth) t (.pointer (some ad)) n) w).andThen _ = _
      rw [hm]; rfl
    cases hmt : mt t n with
    | none => rw [hmt] at e; cases e
    | some q =>
      obtain ⟨f, ptr⟩ := q
      rw [hmt] at e
      cases ptr with
      | true =>
        obtain ⟨v, h', hk, hf⟩ := hC _ _ _ _ e
        refine ⟨v, h', hk, fun S w0 ρ a w o next Q ho hF hI hn => ?_⟩
        have hr := hF.vals hxs hvs (fun o ho => ofOp_mem (by simp [Op.operands, Call.operands, ho]))
        obtain ⟨y, i1, i2⟩ := (hF.val hx hu (ofOp_mem (by simp [Op.operands, Call.operands]))).inv_ifc
        obtain ⟨q, hq, i3⟩ := i2.inv_p
        subst i3
        rw [Oper.wp, key a w o _ f _ ho i1 ((hM t n f).1 hmt _ w)]
        exact hf S w0 ρ a w _ o next Q (by simpa using hr.cons (VR.p id off q hq)) hI hn
      | false =>
        obtain ⟨c, lim, hg, e⟩ := rdC_ok e
        obtain ⟨y, hy, hlt, e⟩ := rd1_ok e
        obtain ⟨v, h', hk, hf⟩ := hC _ _ _ _ e
        refine ⟨v, h', hk, fun S w0 ρ a w o next Q ho hF hI hn => ?_⟩
        have hr := hF.vals hxs hvs (fun o ho => ofOp_mem (by simp [Op.operands, Call.operands, ho]))
        obtain ⟨z, i1, i2⟩ := (hF.val hx hu (ofOp_mem (by simp [Op.operands, Call.operands]))).inv_ifc
        obtain ⟨q, hq, i3⟩ := i2.inv_p
        subst i3
        obtain ⟨q', cs, et, fz, hq', hw, hr'⟩ := hI.cells hg
        rw [hq] at hq'; injection hq' with hq'; subst hq'
        obtain ⟨u, h1, h2⟩ := hr'.cell? hw hy hlt
        rw [Oper.wp, key a w o _ f _ ho i1 ((hM t n f).2 hmt _ w u h1)]
        exact hf S w0 ρ a w _ o next Q (by simpa using hr.cons h2) hI hn
  case bad => cases e
end
end
end Go.RE
/- A closed run's frames and plain regions. -/
namespace Go.RE
open Go.RowKit
noncomputable section

/-- What the slots hold; there are N of them at least, and nothing is put off. -/
structure FR (ρ : M) (N : Nat) (fr : T AV) (a : Act) : Prop where
  defers : a.defers = []
  size : N ≤ a.tmps.size
  slot : ∀ t v, fr.get t = some v → ∃ u, a.tmps[t]? = some u ∧ VR ρ v u
section
variable {ρ ρ' : M} {N : Nat} {fr : T AV} {a : Act}
theorem FR.on (h : FR ρ N fr a) (D : Nat → Prop) : FRon ρ D fr a := fun t v _ hv => h.slot t v hv
theorem FR.ext (e : Ext ρ ρ') (h : FR ρ N fr a) : FR ρ' N fr a := ⟨h.defers, h.size, fun t v hv => let ⟨u, h1, h2⟩ := h.slot t v hv; ⟨u, h1, h2.ext e⟩⟩
def dOk (N : Nat) : Option Nat → Bool
  | none => true
  | some t => Nat.blt t N
theorem FR.put (h : FR ρ N fr a) {d : Option Nat} {v : AV} {u : Value} (hd : dOk N d = true) (hv : VR ρ v u) : FR ρ N (putD fr d v) (a.put d u) := by
  cases d with
  | none => exact h
  | some t =>
    have ht : t < N := by simpa [dOk, Nat.blt_eq] using hd
    have hs := h.size
    refine ⟨h.defers, by simpa [Act.put] using h.size, fun s x hx => ?_⟩
    simp only [putD, T.get_put] at hx
    simp only [Act.put, Array.getElem?_setIfInBounds]
    by_cases hst : s = t
    · subst hst
      rw [if_pos rfl] at hx; injection hx with hx; subst hx
      exact ⟨u, by rw [if_pos rfl, if_pos (by omega)], hv⟩
    · rw [if_neg hst] at hx
      rw [if_neg (fun e => hst e.symm)]
      exact h.slot s x hx
end
/-! ### guards -/
/-- What the operation is guarded by, told by slot. -/
def chkG (ops : Array Oper) : Option (Nat × Bool) → Option (Nat × Bool) → Bool
  | none, none => true
  | some (j, want), some (s, want') => (want == want') && (match ops[j]? with | some o => decide (o.dst = some s) | none => false)
  | _, _ => false
theorem wantB_ok {ops : Array Oper} {o : Oper} {g : Option (Nat × Bool)} {fr : T AV} {yes no : Bool} (hc : chkG ops o.guard g = true) (e : wantB fr g yes no = true) :
    (yes = true ∧ ∀ ρ a, FRon ρ (· ∈ o.looksAt ops) fr a → Region.wanted o (yielded ops a.tmps) = true) ∨ (no = true ∧ ∀ ρ a, FRon ρ (· ∈ o.looksAt ops) fr a → Region.wanted o (yielded ops a.tmps) = false) := by
  unfold chkG at hc
  split at hc
  · rename_i h1
    exact .inl ⟨e, fun ρ a _ => by simp [Region.wanted, h1]⟩
  · rename_i j want s want' h1
    simp only [Bool.and_eq_true, beq_iff_eq] at hc
    obtain ⟨rfl, hc⟩ := hc
    have hs : s ∈ o.looksAt ops := by
      refine List.mem_append_right _ ?_
      simp only [h1]
      cases hj : ops[j]? with
      | none => rw [hj] at hc; cases hc
      | some o' =>
        rw [hj] at hc
        have hd : o'.dst = some s := of_decide_eq_true hc
        simp [hd]
    have hy : ∀ ρ a, FRon ρ (· ∈ o.looksAt ops) fr a → ∀ v, fr.get s = some v → ∃ u, VR ρ v u ∧ yielded ops a.tmps j = (match u with | .bool b => some b | _ => none) := by
      intro ρ a hF v hv
      obtain ⟨u, h2, h3⟩ := hF s v hs hv
      refine ⟨u, h3, ?_⟩
      cases hj : ops[j]? with
      | none => rw [hj] at hc; cases hc
      | some o' =>
        rw [hj] at hc
        have hd : o'.dst = some s := of_decide_eq_true hc
        simp only [yielded, hj, hd, Option.bind_some, h2]
        cases u <;> rfl
    simp only [wantB] at e
    cases hg : fr.get s with
    | none => rw [hg] at e; cases e
    | some v =>
      rw [hg] at e
      cases v <;> simp only at e <;> try (cases e; done)
      · rename_i x
        cases hx : (x == want)
        · rw [hx] at e
          refine .inr ⟨e, fun ρ a hF => ?_⟩
          obtain ⟨u, h3, h4⟩ := hy ρ a hF _ hg
          cases h3
          simp only [Region.wanted, h1, h4]
          cases x <;> cases want <;> first | rfl | (cases hx; done)
        · rw [hx] at e
          refine .inl ⟨e, fun ρ a hF => ?_⟩
          obtain ⟨u, h3, h4⟩ := hy ρ a hF _ hg
          cases h3
          simp only [Region.wanted, h1, h4]
          cases x <;> cases want <;> first | rfl | (cases hx; done)
      · refine .inr ⟨e, fun ρ a hF => ?_⟩
        obtain ⟨u, h3, h4⟩ := hy ρ a hF _ hg
        cases h3
        simp only [Region.wanted, h1, h4]
        rfl
  · cases hc
/-! ### plain regions -/
def chkOper (tt : T TypeInfo) (eqs : TypeId → Option (List IntKind)) (N : Nat) (ops : Array Oper) (o : Oper) : AOper → Bool
  | .mk d g op => decide (o.dst = d) && dOk N d && chkG ops o.guard g && chkOp tt eqs o.op op
def chkOpers (tt : T TypeInfo) (eqs : TypeId → Option (List IntKind)) (N : Nat) (ops : Array Oper) : List Oper → List AOper → Bool
  | [], [] => true
  | o :: os, a :: as => chkOper tt eqs N ops o a && chkOpers tt eqs N ops os as
  | _, _ => false
/-- The operations of a plain region lead from one frame and heap to another. -/
def RegS (P : Program) (N : Nat) (ops : Array Oper) (l : List Oper) (fr : T AV) (h : Hp) (fr' : T AV) (h' : Hp) : Prop :=
  ∀ (S : Nat → Prop) (w0 : World) (ρ : M) (a : Act) (w : World) (Q : Exit → Act → World → Prop), FR ρ N fr a → Inv S w0 h ρ w →
    (∀ ρ' a' w', FR ρ' N fr' a' → Inv S w0 h' ρ' w' → ExtN h.n ρ ρ' → h.n ≤ h'.n → Q .normal a' w') → wpList P ops Q l a w
section
variable {P : Program} {tt : T TypeInfo} {eqs : TypeId → Option (List IntKind)} {ck : CK} {mt : MT} {N : Nat} {ops : Array Oper}
theorem runOps_ok (hT : TyOk P tt) (hE : EqOk P eqs) (hC : CkOk P ck) (hM : MtOk P mt) : ∀ {l : List Oper} {as : List AOper} {fr : T AV} {h : Hp} {k : T AV → Hp → Bool},
    chkOpers tt eqs N ops l as = true → runOps ck mt as fr h k = true → ∃ fr' h', k fr' h' = true ∧ RegS P N ops l fr h fr' h' := by
  intro l
  induction l with
  | nil =>
    intro as fr h k hc e
    cases as with
    | nil => exact ⟨fr, h, e, fun S w0 ρ a w Q hF hI hn => hn ρ a w hF hI (ExtN.refl _ _) (Nat.le_refl _)⟩
    | cons b as => cases hc
  | cons o l ih =>
    intro as fr h k hc e
    cases as with
    | nil => cases hc
    | cons b as =>
      simp only [chkOpers, Bool.and_eq_true] at hc
      obtain ⟨hb, hc⟩ := hc
      obtain ⟨d, g, op⟩ := b
      simp only [chkOper, Bool.and_eq_true, decide_eq_true_eq] at hb
      obtain ⟨⟨⟨rfl, hd⟩, hg⟩, ho⟩ := hb
      simp only [runOps, runOp] at e
      rcases wantB_ok hg e with ⟨e, hw⟩ | ⟨e, hw⟩
      · obtain ⟨v, h1, e, hop⟩ := doOp_ok hT hE hC hM ho e
        obtain ⟨fr', h', e, hr⟩ := ih hc e
        refine ⟨fr', h', e, fun S w0 ρ a w Q hF hI hn => ?_⟩
        unfold wpList
        rw [if_pos (hw ρ a (hF.on _))]
        refine .inl (hop S w0 ρ a w o _ Q rfl (hF.on _) hI fun ρ1 v1 w1 hv hI1 he hle => ?_)
        exact hr S w0 ρ1 _ w1 Q ((hF.ext he.ext).put hd hv) hI1 fun ρ2 a2 w2 hF2 hI2 he2 hle2 => hn ρ2 a2 w2 hF2 hI2 (he.trans he2 hle) (Nat.le_trans hle hle2)
      · obtain ⟨fr', h', e, hr⟩ := ih hc e
        refine ⟨fr', h', e, fun S w0 ρ a w Q hF hI hn => ?_⟩
        unfold wpList
        rw [if_neg (by rw [hw ρ a (hF.on _)]; simp)]
        exact hr S w0 ρ _ w Q (hF.put hd VR.undef) hI hn
end
end
end Go.RE
/- The code of a closed run, and its calls. -/
namespace Go.RE
open Go.RowKit
noncomputable section

/-! ### results -/
def chkRes1 (tt : T TypeInfo) : ResultVar → ARes → Bool
  | .tmp t, .t n => decide (t = n)
  | .cell a t, .c1 n => decide (a = n) && chkT tt t (fun d => !aggD d)
  | .cell a t, .cn n m => decide (a = n) && chkT tt t aggD && sizIs tt t m
  | _, _ => false
def chkRes (tt : T TypeInfo) : List ResultVar → List ARes → Bool
  | [], [] => true
  | r :: rs, x :: xs => chkRes1 tt r x && chkRes tt rs xs
  | _, _ => false
section
variable {P : Program} {tt : T TypeInfo}
/-- What one result is. -/
def resV (tmps : Array Value) : ResultVar → Sem Value
  | .tmp t => pure (tmps.getD t undef)
  | .cell a t => do loadVar t (← asAddr (tmps.getD a undef))
theorem results_list {fn : Func} {tmps : Array Value} {w : World} {vs : List Value} (h : (fn.results.toList.mapM (resV tmps)).run P w = .ok vs w) :
    (results fn tmps).run P w = .ok (if h : vs.length = 1 then vs[0] else .tuple vs.toArray) w := by
  have e : results fn tmps = (do let vs ← fn.results.mapM (resV tmps); pure (if h : vs.size = 1 then vs[0] else .tuple vs)) := by
    unfold results
    congr 1
  rw [e, Array.mapM_eq_mapM_toList, Sem.run_bind, map_eq_pure_bind, Sem.run_bind, h]
  rfl
theorem mapM_one {α : Type} {f : α → Sem Value} {x : α} {xs : List α} {v : Value} {vs : List Value} {w : World} (h1 : (f x).run P w = .ok v w) (h2 : (xs.mapM f).run P w = .ok vs w) : ((x :: xs).mapM f).run P w = .ok (v :: vs) w := by
  rw [List.mapM_cons]
  simp [go_sem, h1, h2]
theorem resOf_ok (hT : TyOk P tt) : ∀ {rs : List ResultVar} {xs : List ARes} {fr : T AV} {h : Hp} {k : List AV → Bool}, chkRes tt rs xs = true → resOf fr h xs k = true →
    ∃ vs, k vs = true ∧ ∀ (S : Nat → Prop) (w0 : World) (ρ : M) (N : Nat) (a : Act) (w : World), FR ρ N fr a → Inv S w0 h ρ w → ∃ us, (rs.mapM (resV a.tmps)).run P w = .ok us w ∧ VRs ρ vs us := by
  intro rs
  induction rs with
  | nil =>
    intro xs fr h k hc e
    cases xs with
    | nil => exact ⟨[], e, fun S w0 ρ N a w hF hI => ⟨[], by simp [go_sem], .nil⟩⟩
    | cons x xs => cases hc
  | cons r rs ih =>
    intro xs fr h k hc e
    cases xs with
    | nil => cases hc
    | cons x xs =>
      simp only [chkRes, Bool.and_eq_true] at hc
      obtain ⟨h1, hc⟩ := hc
      cases x with
      | t n =>
        cases r <;> simp only [chkRes1] at h1 <;> try (cases h1; done)
        rename_i n0
        obtain rfl := of_decide_eq_true h1
        simp only [resOf] at e
        cases hg : fr.get n0 with
        | none => rw [hg] at e; cases e
        | some v =>
          rw [hg] at e
          obtain ⟨vs, e, hr⟩ := ih hc e
          refine ⟨_, e, fun S w0 ρ N a w hF hI => ?_⟩
          obtain ⟨us, h2, h3⟩ := hr S w0 ρ N a w hF hI
          obtain ⟨u, h4, h5⟩ := hF.slot n0 v hg
          exact ⟨u :: us, mapM_one (by simp [resV, h4, go_sem]) h2, h3.cons h5⟩
      | c1 n =>
        cases r <;> simp only [chkRes1] at h1 <;> try (cases h1; done)
        rename_i a0 t
        simp only [Bool.and_eq_true, decide_eq_true_eq] at h1
        obtain ⟨rfl, h1⟩ := h1
        obtain ⟨d, hd, hp⟩ := chkT_ok hT h1
        simp at hp
        simp only [resOf] at e
        cases hg : fr.get a0 with
        | none => rw [hg] at e; cases e
        | some v =>
          rw [hg] at e
          cases v <;> simp only at e <;> try (cases e; done)
          rename_i id o
          obtain ⟨c, lim, hg2, e⟩ := rdC_ok e
          obtain ⟨v, hv, hlt, e⟩ := rd1_ok e
          obtain ⟨vs, e, hr⟩ := ih hc e
          refine ⟨_, e, fun S w0 ρ N a w hF hI => ?_⟩
          obtain ⟨us, h2, h3⟩ := hr S w0 ρ N a w hF hI
          obtain ⟨u, h4, h5⟩ := hF.slot a0 _ hg
          obtain ⟨q, hq, i3⟩ := h5.inv_p
          subst i3
          obtain ⟨q', cs, et, fz, hq', hw, hr'⟩ := hI.cells hg2
          rw [hq] at hq'; injection hq' with hq'; subst hq'
          obtain ⟨u, h6, h7⟩ := hr'.cell? hw hv hlt
          exact ⟨u :: us, mapM_one (by simp [resV, h4, go_sem, loadVar, run_agg hd, hp, h6]) h2, h3.cons h7⟩
      | cn n m =>
        cases r <;> simp only [chkRes1] at h1 <;> try (cases h1; done)
        rename_i a0 t
        simp only [Bool.and_eq_true, decide_eq_true_eq] at h1
        obtain ⟨⟨rfl, h1⟩, hs⟩ := h1
        obtain ⟨d, hd, hp⟩ := chkT_ok hT h1
        have hs := sizIs_ok hT hs
        simp only [resOf] at e
        cases hg : fr.get a0 with
        | none => rw [hg] at e; cases e
        | some v =>
          rw [hg] at e
          cases v <;> simp only at e <;> try (cases e; done)
          rename_i id o
          obtain ⟨c, lim, hg2, e⟩ := rdC_ok e
          obtain ⟨ws, hl, hv, e⟩ := rdn_ok e
          obtain ⟨vs, e, hr⟩ := ih hc e
          refine ⟨_, e, fun S w0 ρ N a w hF hI => ?_⟩
          obtain ⟨us, h2, h3⟩ := hr S w0 ρ N a w hF hI
          obtain ⟨u, h4, h5⟩ := hF.slot a0 _ hg
          obtain ⟨q, hq, i3⟩ := h5.inv_p
          subst i3
          obtain ⟨q', cs, et, fz, hq', hw, hr'⟩ := hI.cells hg2
          rw [hq] at hq'; injection hq' with hq'; subst hq'
          obtain ⟨xs', h6, h7⟩ := hr'.load (P := P) hw hl hv
          exact ⟨.agg xs'.toArray :: us, mapM_one (by simp [resV, h4, asAddr, loadVar, run_agg hd, hp, run_siz hs, h7]) h2, h3.cons h6.ag⟩
end
end
end Go.RE
/- Code and calls of a closed run. -/
namespace Go.RE
open Go.RowKit
noncomputable section

/-- A loop in its middle: its body, then again. -/
def Lw (P : Program) (c : Code) (Q : Exit → Act → World → Prop) (a : Act) (w : World) : Prop :=
  ∀ (b : Frame) (k : List Item) (cs : List Frame), ∃ e a' w', Q e a' w' ∧ Arrives P (lone (b.at a (.code c :: .inLoop c :: k)) cs w) b k cs e a' w'
def Cw (P : Program) (c : Code) (Q : Exit → Act → World → Prop) (a : Act) (w : World) : Prop := match c with
  | .loop c => Lw P c Q a w
  | c => c.wp P Q a w
section
variable {P : Program} {Q : Exit → Act → World → Prop} {a : Act} {w : World}
theorem Lw.wp {c : Code} (h : Lw P c Q a w) : (Code.loop c).wp P Q a w := fun b k cs =>
  let ⟨e, a', w', hq, harr⟩ := h b k cs
  ⟨e, a', w', hq, .of_steps (.one step_loop) harr⟩
theorem Cw.wp {c : Code} (h : Cw P c Q a w) : c.wp P Q a w := by
  cases c with
  | loop c => exact Lw.wp h
  | _ => exact h
theorem lw_step {c : Code} (h : c.wp P (Exit.then (Lw P c Q) Q) a w) : Lw P c Q a w := by
  intro b k cs
  obtain ⟨e, a₁, w₁, hq, harr⟩ := h b (.inLoop c :: k) cs
  cases e with
  | normal =>
    obtain ⟨e₂, a₂, w₂, hq₂, harr₂⟩ := hq b k cs
    exact ⟨e₂, a₂, w₂, hq₂, .of_steps (Steps.trans harr (.one step_inLoop)) harr₂⟩
  | exit id => exact ⟨_, a₁, w₁, hq, .pass (x := .inLoop c) rfl (fun _ _ => .inl (by simp)) harr⟩
  | goto l => exact ⟨_, a₁, w₁, hq, .pass (x := .inLoop c) rfl (fun _ _ => .inl (by simp)) harr⟩
  | ret => exact ⟨_, a₁, w₁, hq, .pass (x := .inLoop c) rfl (fun _ _ => .inl (by simp)) harr⟩
  | panic ch => exact ⟨_, a₁, w₁, hq, .pass (x := .inLoop c) rfl (fun _ _ => .inl (by simp)) harr⟩
  | outgrown => exact ⟨_, a₁, w₁, hq, .pass (x := .inLoop c) rfl (fun _ _ => .inl (by simp)) harr⟩
end
def exOf : X → Exit
  | .normal => .normal
  | .exit i => .exit i
  | .ret => .ret
def CodeS (P : Program) (N : Nat) (c : Code) (fr : T AV) (h : Hp) (x : X) (fr' : T AV) (h' : Hp) : Prop :=
  ∀ (S : Nat → Prop) (w0 : World) (ρ : M) (a : Act) (w : World) (Q : Exit → Act → World → Prop), FR ρ N fr a → Inv S w0 h ρ w →
    (∀ ρ' a' w', FR ρ' N fr' a' → Inv S w0 h' ρ' w' → ExtN h.n ρ ρ' → h.n ≤ h'.n → Q (exOf x) a' w') → Cw P c Q a w
/-- The same of a region that draws its order. -/
def DregS (P : Program) (N : Nat) (ops : Array Oper) (fr : T AV) (h : Hp) (fr' : T AV) (h' : Hp) : Prop :=
  ∀ (id : Nat) (S : Nat → Prop) (w0 : World) (ρ : M) (a : Act) (w : World) (Q : Exit → Act → World → Prop), FR ρ N fr a → Inv S w0 h ρ w →
    (∀ ρ' a' w', FR ρ' N fr' a' → Inv S w0 h' ρ' w' → ExtN h.n ρ ρ' → h.n ≤ h'.n → Q .normal a' w') → (Code.region id ops true).wp P Q a w
abbrev CkD := Nat → Array Oper → Nat → List DI → Bool
def DOk (P : Program) (mt : MT) (chkD : CkD) : Prop := ∀ (ck : CK) (N : Nat) (ops : Array Oper) (nf : Nat) (items : List DI) (fr : T AV) (h : Hp) (k : T AV → Hp → Bool), CkOk P ck → chkD N ops nf items = true →
  noneAt h.t h.n nf = true → drun ck mt h.n nf items [] [] fr ⟨h.t, h.n + nf⟩ k = true → ∃ fr' h', k fr' h' = true ∧ DregS P N ops fr h fr' h'
def chkC (tt : T TypeInfo) (eqs : TypeId → Option (List IntKind)) (chkD : CkD) (N : Nat) : Code → AC → Bool
  | .skip, .skip => true
  | .region _ ops d, .reg as => !d && chkOpers tt eqs N ops ops.toList as
  | .region _ ops d, .dreg nf items => d && chkD N ops nf items
  | .seq a b, .seq x y => chkC tt eqs chkD N a x && chkC tt eqs chkD N b y
  | .cond c a b, .cond z x y => chkX c z && chkC tt eqs chkD N a x && chkC tt eqs chkD N b y
  | .block i a, .block j x => decide (i = j) && chkC tt eqs chkD N a x
  | .loop a, .loop x => chkC tt eqs chkD N a x
  | .exit i, .exit j => decide (i = j)
  | .ret, .ret => true
  | _, .bad => true
  | _, _ => false
def FnOk (P : Program) (tt : T TypeInfo) (eqs : TypeId → Option (List IntKind)) (chkD : CkD) (f : FuncId) : AFn → Prop
  | .code n c res => ∃ fn c', P.funcs[f]? = some fn ∧ fn.body = some c' ∧ (fn.name == "runtime.NumGoroutine") = false ∧ fn.ntmps = n ∧ chkC tt eqs chkD n c' c = true ∧ chkRes tt fn.results.toList res = true
  | .sum g => ∀ vs h v, g vs h = some v → FnS P f vs h v h
  | .ext g => ∀ vs v, g vs = some v → ∀ h, FnS P f vs h v h
def TblOk (P : Program) (tt : T TypeInfo) (eqs : TypeId → Option (List IntKind)) (chkD : CkD) (tbl : T AFn) : Prop := ∀ f a, tbl.get f = some a → FnOk P tt eqs chkD f a
def RunOk (P : Program) (tt : T TypeInfo) (eqs : TypeId → Option (List IntKind)) (chkD : CkD) (ih : AC → T AV → Hp → (X → T AV → Hp → Bool) → Bool) : Prop :=
  ∀ (N : Nat) (c : Code) (ac : AC) (fr : T AV) (h : Hp) (k : X → T AV → Hp → Bool), chkC tt eqs chkD N c ac = true → ih ac fr h k = true → ∃ x fr' h', k x fr' h' = true ∧ CodeS P N c fr h x fr' h'
section
variable {P : Program} {tt : T TypeInfo} {eqs : TypeId → Option (List IntKind)} {chkD : CkD} {tbl : T AFn} {mt : MT} {ih : AC → T AV → Hp → (X → T AV → Hp → Bool) → Bool}
theorem pack_ok {ρ : M} {vs : List AV} {us : List Value} (h : VRs ρ vs us) : VR ρ (packR vs) (if h : us.length = 1 then us[0] else .tuple us.toArray) := by
  have hl := h.1
  cases vs with
  | nil =>
    have : us = [] := List.eq_nil_of_length_eq_zero hl.symm
    subst this
    exact VR.undef
  | cons v l =>
    cases us with
    | nil => simp at hl
    | cons u m =>
      cases l with
      | nil =>
        have : m = [] := List.eq_nil_of_length_eq_zero (by simpa using hl.symm)
        subst this
        exact h.2 0 v u rfl rfl
      | cons v2 l =>
        rw [dif_neg (by simp only [List.length_cons] at hl ⊢; omega)]
        exact .tu _ _ (by simpa using hl) fun j x y hx hy => h.2 j x y hx (by simpa using hy)
theorem callF_ok (hT : TyOk P tt) (hR : RunOk P tt eqs chkD ih) (hB : TblOk P tt eqs chkD tbl) : CkOk P (callF ih tbl) := by
  intro f vs h k e
  unfold callF at e
  cases hg : tbl.get f with
  | none => rw [hg] at e; cases e
  | some a =>
    rw [hg] at e
    have hb := hB f a hg
    cases a with
    | sum g =>
      simp only at e
      cases hv : g vs h with
      | none => rw [hv] at e; cases e
      | some v => rw [hv] at e; exact ⟨v, h, e, hb vs h v hv⟩
    | ext g =>
      simp only at e
      cases hv : g vs with
      | none => rw [hv] at e; cases e
      | some v => rw [hv] at e; exact ⟨v, h, e, hb vs v hv h⟩
    | code n c res =>
      obtain ⟨fn, c', h1, h2, h3, h4, h5, h6⟩ := hb
      simp only at e
      obtain ⟨x, fr1, h1', e, hs⟩ := hR n c' c _ h _ h5 e
      have key : resOf fr1 h1' res (fun vs => k (packR vs) h1') = true ∧ (x = .normal ∨ x = .ret) := by
        cases x with
        | normal => exact ⟨e, .inl rfl⟩
        | ret => exact ⟨e, .inr rfl⟩
        | exit i => cases e
      obtain ⟨e, hx⟩ := key
      obtain ⟨rs, e, hr⟩ := resOf_ok hT h6 e
      refine ⟨_, _, e, fun S w0 ρ a w us o next Q hV hI hn => ?_⟩
      have hcf : (callFunc f us).run P w = .ok (.enter f us) w := by
        have h3' : ¬ fn.name = "runtime.NumGoroutine" := by simpa using h3
        simp [callFunc, go_sem, h1, h2, h3']
      rw [hcf, Oper.upon_enter]
      refine calls_of_wp h1 h2 (Cw.wp (hs S w0 ρ _ w _ ⟨rfl, by simp [h4]; omega, fun t v hv => ?_⟩ hI fun ρ' a' w' hF' hI' he hle => ?_))
      · rw [get_putL] at hv
        by_cases ht : 0 ≤ t ∧ t < 0 + vs.length
        · rw [if_pos ht] at hv
          obtain ⟨u, hu, hvu⟩ := hV.at_ hv
          refine ⟨u, ?_, hvu⟩
          have hlt : t < us.size := by
            have := (List.getElem?_eq_some_iff.1 hu).1
            simpa using this
          rw [Array.getElem?_append_left hlt]
          simpa using hu
        · rw [if_neg ht] at hv
          cases hv
      · obtain ⟨us', h7, h8⟩ := hr S w0 ρ' n a' w' hF' hI'
        have := results_list (fn := fn) h7
        rcases hx with rfl | rfl
        · exact ⟨hF'.defers, _, this, hn ρ' _ w' (pack_ok h8) hI' he hle⟩
        · exact ⟨hF'.defers, _, this, hn ρ' _ w' (pack_ok h8) hI' he hle⟩
theorem runB_ok (hT : TyOk P tt) (hE : EqOk P eqs) (hM : MtOk P mt) (hD : DOk P mt chkD) (hB : TblOk P tt eqs chkD tbl) (hR : RunOk P tt eqs chkD ih) : RunOk P tt eqs chkD (runB tbl mt ih) := by
  have hC := callF_ok hT hR hB
  intro N c ac fr h k hc e
  unfold chkC at hc
  split at hc
  · exact ⟨.normal, fr, h, e, fun S w0 ρ a w Q hF hI hn => wp_skip (hn ρ a w hF hI (ExtN.refl _ _) (Nat.le_refl _))⟩
  · simp only [Bool.and_eq_true, Bool.not_eq_true'] at hc
    obtain ⟨rfl, hc⟩ := hc
    simp only [runB] at e
    obtain ⟨fr', h', e, hr⟩ := runOps_ok hT hE hC hM hc e
    exact ⟨.normal, fr', h', e, fun S w0 ρ a w Q hF hI hn => wp_region_list (hr S w0 ρ a w Q hF hI hn)⟩
  · simp only [Bool.and_eq_true] at hc
    obtain ⟨rfl, hc⟩ := hc
    simp only [runB] at e
    obtain ⟨hn0, e⟩ := bif_t e
    obtain ⟨fr', h', e, hr⟩ := hD _ N _ _ _ fr h _ hC hc hn0 e
    exact ⟨.normal, fr', h', e, fun S w0 ρ a w Q hF hI hn => hr _ S w0 ρ a w Q hF hI hn⟩
  · simp only [Bool.and_eq_true] at hc
    simp only [runB] at e
    obtain ⟨x1, fr1, h1, e, s1⟩ := hR N _ _ fr h _ hc.1 e
    cases x1 with
    | normal =>
      obtain ⟨x2, fr2, h2, e, s2⟩ := hR N _ _ fr1 h1 _ hc.2 e
      refine ⟨x2, fr2, h2, e, fun S w0 ρ a w Q hF hI hn => wp_seq (Cw.wp (s1 S w0 ρ a w _ hF hI fun ρ1 a1 w1 hF1 hI1 he1 hl1 => ?_))⟩
      exact Cw.wp (s2 S w0 ρ1 a1 w1 Q hF1 hI1 fun ρ2 a2 w2 hF2 hI2 he2 hl2 => hn ρ2 a2 w2 hF2 hI2 (he1.trans he2 hl1) (Nat.le_trans hl1 hl2))
    | exit i => exact ⟨.exit i, fr1, h1, e, fun S w0 ρ a w Q hF hI hn => wp_seq (Cw.wp (s1 S w0 ρ a w _ hF hI hn))⟩
    | ret => exact ⟨.ret, fr1, h1, e, fun S w0 ρ a w Q hF hI hn => wp_seq (Cw.wp (s1 S w0 ρ a w _ hF hI hn))⟩
  · simp only [Bool.and_eq_true] at hc
    simp only [runB] at e
    obtain ⟨v, hv, e⟩ := ev_val e
    cases v <;> simp only at e <;> try (cases e; done)
    rename_i t
    have hcv : ∀ ρ a, FR ρ N fr a → a.eval _ = .bool t := fun ρ a hF => ((hF.on (fun _ => True)).val hc.1.1 hv (fun _ _ => trivial)).inv_b
    cases t with
    | true =>
      obtain ⟨x, fr1, h1, e, s1⟩ := hR N _ _ fr h _ hc.1.2 e
      exact ⟨x, fr1, h1, e, fun S w0 ρ a w Q hF hI hn => wp_cond_true (hcv ρ a hF) (Cw.wp (s1 S w0 ρ a w Q hF hI hn))⟩
    | false =>
      obtain ⟨x, fr1, h1, e, s1⟩ := hR N _ _ fr h _ hc.2 e
      exact ⟨x, fr1, h1, e, fun S w0 ρ a w Q hF hI hn => wp_cond_false (hcv ρ a hF) (Cw.wp (s1 S w0 ρ a w Q hF hI hn))⟩
  · simp only [Bool.and_eq_true, decide_eq_true_eq] at hc
    obtain ⟨rfl, hc⟩ := hc
    rename_i i a0 x0
    simp only [runB] at e
    obtain ⟨x1, fr1, h1, e, s1⟩ := hR N _ _ fr h _ hc e
    cases x1 with
    | normal => exact ⟨.normal, fr1, h1, e, fun S w0 ρ a w Q hF hI hn => wp_block (Cw.wp (s1 S w0 ρ a w _ hF hI hn))⟩
    | exit j =>
      simp only at e
      by_cases hj : j = i
      · subst hj
        simp only [Nat.beq_refl, cond_true] at e
        refine ⟨.normal, fr1, h1, e, fun S w0 ρ a w Q hF hI hn => wp_block (Cw.wp (s1 S w0 ρ a w _ hF hI fun ρ1 a1 w1 hF1 hI1 he1 hl1 => ?_))⟩
        simp only [exOf, Exit.inBlock, if_true]
        exact hn ρ1 a1 w1 hF1 hI1 he1 hl1
      · have : Nat.beq j i = false := by
          cases hb : Nat.beq j i
          · rfl
          · exact absurd (Nat.eq_of_beq_eq_true hb) hj
        rw [this] at e
        refine ⟨.exit j, fr1, h1, e, fun S w0 ρ a w Q hF hI hn => wp_block (Cw.wp (s1 S w0 ρ a w _ hF hI fun ρ1 a1 w1 hF1 hI1 he1 hl1 => ?_))⟩
        simp only [exOf, Exit.inBlock, if_neg hj]
        exact hn ρ1 a1 w1 hF1 hI1 he1 hl1
    | ret => exact ⟨.ret, fr1, h1, e, fun S w0 ρ a w Q hF hI hn => wp_block (Cw.wp (s1 S w0 ρ a w _ hF hI hn))⟩
  · rename_i c0 x0
    simp only [runB] at e
    obtain ⟨x1, fr1, h1, e, s1⟩ := hR N _ _ fr h _ hc e
    cases x1 with
    | normal =>
      obtain ⟨x2, fr2, h2, e, s2⟩ := hR N (.loop c0) (.loop x0) fr1 h1 _ (by unfold chkC; exact hc) e
      refine ⟨x2, fr2, h2, e, fun S w0 ρ a w Q hF hI hn => lw_step (Cw.wp (s1 S w0 ρ a w _ hF hI fun ρ1 a1 w1 hF1 hI1 he1 hl1 => ?_))⟩
      exact s2 S w0 ρ1 a1 w1 Q hF1 hI1 fun ρ2 a2 w2 hF2 hI2 he2 hl2 => hn ρ2 a2 w2 hF2 hI2 (he1.trans he2 hl1) (Nat.le_trans hl1 hl2)
    | exit i => exact ⟨.exit i, fr1, h1, e, fun S w0 ρ a w Q hF hI hn => lw_step (Cw.wp (s1 S w0 ρ a w _ hF hI hn))⟩
    | ret => exact ⟨.ret, fr1, h1, e, fun S w0 ρ a w Q hF hI hn => lw_step (Cw.wp (s1 S w0 ρ a w _ hF hI hn))⟩
  · obtain rfl := of_decide_eq_true hc
    exact ⟨.exit _, fr, h, e, fun S w0 ρ a w Q hF hI hn => wp_exit (hn ρ a w hF hI (ExtN.refl _ _) (Nat.le_refl _))⟩
  · exact ⟨.ret, fr, h, e, fun S w0 ρ a w Q hF hI hn => wp_ret (hn ρ a w hF hI (ExtN.refl _ _) (Nat.le_refl _))⟩
  · cases e
  · cases hc
theorem run_ok (hT : TyOk P tt) (hE : EqOk P eqs) (hM : MtOk P mt) (hD : DOk P mt chkD) (hB : TblOk P tt eqs chkD tbl) : ∀ f : Nat, RunOk P tt eqs chkD (run tbl mt f) := by
  intro f
  induction f with
  | zero => intro N c ac fr h k hc e; cases e
  | succ f ih => exact runB_ok hT hE hM hD hB ih
/-- A closed call, run by goK. -/
theorem go_ok (hT : TyOk P tt) (hE : EqOk P eqs) (hM : MtOk P mt) (hD : DOk P mt chkD) (hB : TblOk P tt eqs chkD tbl) (f : Nat) : CkOk P (goK tbl mt f) := by
  rw [goK_eq]
  exact callF_ok hT (run_ok hT hE hM hD hB f) hB
end
end
end Go.RE
/- Regions that draw their order: what a canonical run tells. -/
namespace Go.RE
open Go.RowKit
noncomputable section

/-! ### heaps within heaps -/
def Hp.sub (j h : Hp) : Prop := ∀ id b, j.t.get id = some b → h.t.get id = some b
/-- The blocks of a heap. -/
def Sof (h : Hp) (ρ : M) : Nat → Prop := fun k => ∃ id b q, h.t.get id = some b ∧ b.live ∧ ρ id = some q ∧ q.block = k
section
variable {S : Nat → Prop} {w0 w w2 : World} {h j h2 hh : Hp} {ρ ρ' : M}
theorem Inv.less (k : Inv S w0 h ρ w) (hs : j.sub h) (hn : j.n = h.n) : Inv S w0 j ρ w :=
  ⟨k.chg, fun id q hq => by rw [hn]; exact k.dom id q hq, fun id b hb hl => k.obj id b (hs id b hb) hl, fun id id' b b' q q' hb hl hb' hl' => k.inj id id' b b' q q' (hs id b hb) hl (hs id' b' hb') hl'⟩
theorem Inv.inner (k : Inv S w0 h ρ w) (hs : j.sub h) (hn : j.n = h.n) : Inv (Sof j ρ) w j ρ w := by
  refine ⟨Chg.refl _ _, fun id q hq => by rw [hn]; exact k.dom id q hq, fun id b hb hl => ?_, (k.less hs hn).inj⟩
  obtain ⟨q, h1, h2, o, h3, h4⟩ := k.obj id b (hs id b hb) hl
  exact ⟨q, h1, .inl ⟨id, b, q, hb, hl, h1, rfl⟩, o, h3, h4⟩
/-- Back into the larger heap. -/
theorem Inv.outer (k : Inv S w0 h ρ w) (hs : j.sub h) (hn : j.n = h.n) (k2 : Inv (Sof j ρ) w h2 ρ' w2) (he : ExtN j.n ρ ρ') (hle : j.n ≤ h2.n) (hn2 : hh.n = h2.n)
    (hg : ∀ id b, hh.t.get id = some b → h2.t.get id = some b ∨ (h.t.get id = some b ∧ j.t.get id = none ∧ id < j.n)) : Inv S w0 hh ρ' w2 := by
  have hS : ∀ i, Sof j ρ i → S i ∨ w0.heap.size ≤ i := by
    rintro i ⟨id, b, q, h1, h3, h4, rfl⟩
    obtain ⟨q', h5, h6, _⟩ := k.obj id b (hs id b h1) h3
    rw [h4] at h5; injection h5 with h5; subst h5
    exact h6
  have old : ∀ id b, h.t.get id = some b → b.live → j.t.get id = none → id < j.n → ∃ q, ρ' id = some q ∧ ρ id = some q ∧ (S q.block ∨ w0.heap.size ≤ q.block) ∧ q.block < w.heap.size ∧ ¬ Sof j ρ q.block ∧ ∃ o, w2.heap[q.block]? = some o ∧ ObR ρ' q b o := by
    intro id b hb hl hj hlt
    obtain ⟨q, h1, h3, o, h4, h5⟩ := k.obj id b hb hl
    have hlt' := k.lt hb hl h1
    have hns : ¬ Sof j ρ q.block := by
      rintro ⟨id', b', q', e1, e2, e3, e4⟩
      have := k.inj id' id b' b q' q (hs id' b' e1) e2 hb hl e3 h1 e4
      subst this
      rw [hj] at e1; cases e1
    exact ⟨q, by rw [he.low id hlt]; exact h1, h1, h3, hlt', hns, o, (k2.chg.old _ hlt' hns).trans h4, h5.ext he.ext⟩
  have new : ∀ id b, h2.t.get id = some b → b.live → ∃ q, ρ' id = some q ∧ (Sof j ρ q.block ∨ w.heap.size ≤ q.block) ∧ ∃ o, w2.heap[q.block]? = some o ∧ ObR ρ' q b o := fun id b hb hl => k2.obj id b hb hl
  refine ⟨?_, fun id q hq => by rw [hn2]; exact k2.dom id q hq, fun id b hb hl => ?_, fun id id' b b' q q' hb hl hb' hl' hq hq' heq => ?_⟩
  · refine k.chg.trans k2.chg fun i hi hs' => ?_
    rcases hS i hs' with h1 | h1
    · exact h1
    · omega
  · rcases hg id b hb with h1 | ⟨h1, h3, h4⟩
    · obtain ⟨q, e1, e2, o, e3, e4⟩ := new id b h1 hl
      refine ⟨q, e1, ?_, o, e3, e4⟩
      rcases e2 with e2 | e2
      · exact hS _ e2
      · exact .inr (Nat.le_trans k.chg.size e2)
    · obtain ⟨q, e1, _, e2, _, _, o, e3, e4⟩ := old id b h1 hl h3 h4
      exact ⟨q, e1, e2, o, e3, e4⟩
  · have mix : ∀ id id' b b' q q', h2.t.get id = some b → b.live → (h.t.get id' = some b' ∧ j.t.get id' = none ∧ id' < j.n) → b'.live → ρ' id = some q → ρ' id' = some q' → q.block = q'.block → False := by
      intro id id' b b' q q' hb hl ⟨h1, h3, h4⟩ hl' hq hq' heq
      obtain ⟨q1, e1, e2, _⟩ := new id b hb hl
      rw [hq] at e1; injection e1 with e1; subst e1
      obtain ⟨q2, f1, _, _, f2, f3, _⟩ := old id' b' h1 hl' h3 h4
      rw [hq'] at f1; injection f1 with f1; subst f1
      rw [heq] at e2
      rcases e2 with e2 | e2
      · exact f3 e2
      · omega
    rcases hg id b hb with h1 | h1 <;> rcases hg id' b' hb' with h3 | h3
    · exact k2.inj id id' b b' q q' h1 hl h3 hl' hq hq' heq
    · exact (mix id id' b b' q q' h1 hl h3 hl' hq hq' heq).elim
    · exact (mix id' id b' b q' q h3 hl' h1 hl hq' hq heq.symm).elim
    · obtain ⟨q1, e1, e2, _⟩ := old id b h1.1 hl h1.2.1 h1.2.2
      obtain ⟨q2, f1, f2, _⟩ := old id' b' h3.1 hl' h3.2.1 h3.2.2
      rw [hq] at e1; injection e1 with e1; subst e1
      rw [hq'] at f1; injection f1 with f1; subst f1
      exact k.inj id id' b b' q q' h1.1 hl h3.1 hl' e2 f2 heq
end

/-! ### dependencies -/
/-- i waits for d at once. -/
def Dep (ops : Array Oper) (i d : Nat) : Prop := ∃ o e, ops[i]? = some o ∧ e ∈ o.after ∧ Region.binds .any e = true ∧ e.on = d
inductive TD (ops : Array Oper) : Nat → Nat → Prop where
  | one {i d : Nat} (h : Dep ops i d) : TD ops i d
  | step {i d c : Nat} (h : Dep ops i d) (k : TD ops d c) : TD ops i c
theorem TD.into {ops : Array Oper} {L : Nat → Prop} (hL : ∀ i d, L i → Dep ops i d → L d) {i d : Nat} (h : TD ops i d) (hi : ∀ d, Dep ops i d → L d) : L d := by
  have key : ∀ i d, TD ops i d → (∀ d, Dep ops i d → L d) → L d := by
    intro i d h
    induction h with
    | one h => intro hi; exact hi _ h
    | step h _ ih => intro hi; exact ih fun d' hd' => hL _ _ (hi _ h) hd'
  exact key i d h hi

/-! ### records -/
inductive Kd where
  | st (reads : Bool)
  | fl (j : Nat) (a : AO)
  | ef
structure Rec where
  i : Nat
  o : Oper
  v : AV
  want : Bool
  kd : Kd
structure Base (ops : Array Oper) (N : Nat) (pre : List Rec) (fr : T AV) (r : Rec) : Prop where
  at_ : ops[r.i]? = some r.o
  new : ∀ q ∈ pre, q.i ≠ r.i
  c1 : ∀ q ∈ pre, ∀ s, q.o.dst = some s → s ∈ r.o.looksAt ops → TD ops r.i q.i
  c2 : ∀ q ∈ pre, ∀ s, r.o.dst = some s → s ∈ q.o.looksAt ops → TD ops r.i q.i
  c3 : ∀ q ∈ pre, ∀ s, q.o.dst = some s → r.o.dst ≠ some s
  dst : dOk N r.o.dst = true
  deps : ∀ d, Dep ops r.i d → ∃ q ∈ pre, q.i = d
  want : ∀ ρ a, FRon ρ (· ∈ r.o.looksAt ops) fr a → Region.wanted r.o (yielded ops a.tmps) = r.want
/-- Looked at again, the record's value is the same, or it is not wanted. -/
def Again (P : Program) (ops : Array Oper) (q : Rec) (h : Hp) (fr : T AV) : Prop := StillS P q.o.op h fr q.v ∨ ∀ ρ a, FRon ρ (· ∈ q.o.looksAt ops) fr a → Region.wanted q.o (yielded ops a.tmps) = false
/-- The canonical run of the rest. -/
inductive Tr (P : Program) (ops : Array Oper) (N base nf : Nat) : List Rec → List Nat → Pend → T AV → Hp → List Rec → T AV → Hp → Prop where
  | nil {pre jn ps fr h} : Tr P ops N base nf pre jn ps fr h [] fr ⟨joinF h.t (List.range nf) ps, h.n⟩
  | st {pre jn ps fr h r rest fr' h' b} (hb : Base ops N pre fr r) (hk : r.kd = .st b) (h0 : r.want = false → r.v = .tu []) (h1 : r.want = true → StillS P r.o.op h fr r.v)
      (h2 : b = false → r.want = true → ∀ g, StillS P r.o.op g fr r.v) (h3 : b = true → ∀ q ∈ pre, q.kd = .ef → TD ops r.i q.i) (k : Tr P ops N base nf (pre ++ [r]) jn ps (putD fr r.o.dst r.v) h rest fr' h') :
      Tr P ops N base nf pre jn ps fr h (r :: rest) fr' h'
  | fl {pre jn ps fr h r rest fr' h' j a} (hb : Base ops N pre fr r) (hk : r.kd = .fl j a) (hw : r.want = true) (hj : j < nf) (hl : a.live) (h1 : FloatS P r.o.op fr (base + j) r.v a)
      (h2 : ∀ q ∈ pre, ∀ j' a', q.kd = .fl j' a' → j' ≠ j) (h3 : j ∉ jn) (k : Tr P ops N base nf (pre ++ [r]) jn ((j, base + j, a) :: ps) (putD fr r.o.dst r.v) h rest fr' h') :
      Tr P ops N base nf pre jn ps fr h (r :: rest) fr' h'
  | ef {pre jn ps fr h r rest fr' h' use h2} (hb : Base ops N pre fr r) (hk : r.kd = .ef) (hc : ∀ q ∈ pre, q.kd = .ef → TD ops r.i q.i)
      (hu : ∀ j ∈ use, ∃ q ∈ pre, ∃ a, q.kd = .fl j a ∧ TD ops r.i q.i)
      (h0 : r.want = false → r.v = .tu [] ∧ h2 = ⟨joinF h.t use ps, h.n⟩) (h1 : r.want = true → OpS P r.o.op ⟨joinF h.t use ps, h.n⟩ fr r.v h2)
      (hn : ∀ j, j < nf → j ∉ use ++ jn → h2.t.get (base + j) = none)
      (hr : ∀ q ∈ pre, q.kd = .st true → q.want = true → ¬ TD ops r.i q.i → Again P ops q h2 fr ∧ ∀ p ∈ pre, ∀ s, p.o.dst = some s → s ∈ q.o.looksAt ops → TD ops q.i p.i)
      (k : Tr P ops N base nf (pre ++ [r]) (use ++ jn) (leftF use ps) (putD fr r.o.dst r.v) h2 rest fr' h') :
      Tr P ops N base nf pre jn ps fr h (r :: rest) fr' h'
end
end Go.RE
/- Regions that draw their order: facts out of a canonical run. -/
namespace Go.RE
open Go.RowKit
noncomputable section
section
variable {P : Program} {ops : Array Oper} {N base nf : Nat}
theorem Tr.bse {pre jn ps fr h r rest fr' h'} (t : Tr P ops N base nf pre jn ps fr h (r :: rest) fr' h') : Base ops N pre fr r := by
  cases t <;> assumption
theorem Tr.next {pre jn ps fr h r rest fr' h'} (t : Tr P ops N base nf pre jn ps fr h (r :: rest) fr' h') : ∃ jn1 ps1 h1, Tr P ops N base nf (pre ++ [r]) jn1 ps1 (putD fr r.o.dst r.v) h1 rest fr' h' := by
  cases t <;> exact ⟨_, _, _, by assumption⟩
theorem Tr.later : ∀ {rest pre jn ps fr h fr' h'}, Tr P ops N base nf pre jn ps fr h rest fr' h' → ∀ q ∈ rest, ∀ p ∈ pre, q.i ≠ p.i ∧ (∀ s, q.o.dst = some s → s ∈ p.o.looksAt ops → TD ops q.i p.i) ∧ (∀ s, p.o.dst = some s → q.o.dst ≠ some s) ∧ (∀ j a b, q.kd = .fl j a → p.kd = .fl j b → False) := by
  intro rest
  induction rest with
  | nil => intro pre jn ps fr h fr' h' _ q hq; cases hq
  | cons r rest ih =>
    intro pre jn ps fr h fr' h' t q hq p hp
    rcases List.mem_cons.1 hq with rfl | hq
    · have b := t.bse
      refine ⟨fun e => b.new p hp e.symm, fun s h1 h2 => b.c2 p hp s h1 h2, fun s h1 => b.c3 p hp s h1, fun j a c h1 h2 => ?_⟩
      cases t with
      | st _ hk => rw [h1] at hk; cases hk
      | fl _ hk _ _ _ _ h3 => rw [h1] at hk; cases hk; exact h3 p hp j c h2 rfl
      | ef _ hk => rw [h1] at hk; cases hk
    · obtain ⟨jn1, ps1, h1, t'⟩ := t.next
      exact ih t' q hq p (List.mem_append_left _ hp)
/-- What a frame holds behind some records. -/
def FrIs (fr0 : T AV) (pre : List Rec) (fr : T AV) : Prop := ∀ s, (∀ q ∈ pre, q.o.dst = some s → fr.get s = some q.v) ∧ ((∀ q ∈ pre, q.o.dst ≠ some s) → fr.get s = fr0.get s)
theorem FrIs.nil (fr0 : T AV) : FrIs fr0 [] fr0 := fun s => ⟨(fun q hq => by cases hq), fun _ => rfl⟩
theorem FrIs.snoc {fr0 fr : T AV} {pre : List Rec} {r : Rec} (h : FrIs fr0 pre fr) (hd : ∀ q ∈ pre, ∀ s, q.o.dst = some s → r.o.dst ≠ some s) : FrIs fr0 (pre ++ [r]) (putD fr r.o.dst r.v) := by
  intro s
  obtain ⟨h1, h2⟩ := h s
  cases hr : r.o.dst with
  | none =>
    refine ⟨fun q hq he => ?_, fun hn => ?_⟩
    · rcases List.mem_append.1 hq with hq | hq
      · exact h1 q hq he
      · obtain rfl := List.mem_singleton.1 hq
        rw [hr] at he; cases he
    · exact h2 fun q hq => hn q (List.mem_append_left _ hq)
  | some d =>
    simp only [putD, T.get_put]
    refine ⟨fun q hq he => ?_, fun hn => ?_⟩
    · rcases List.mem_append.1 hq with hq | hq
      · rw [if_neg (fun e => hd q hq s he (by rw [hr, e]))]
        exact h1 q hq he
      · obtain rfl := List.mem_singleton.1 hq
        rw [hr] at he; injection he with he
        rw [if_pos he.symm]
    · rw [if_neg (fun e => hn r (List.mem_append_right _ (List.mem_singleton.2 rfl)) (by rw [hr, e]))]
      exact h2 fun q hq => hn q (List.mem_append_left _ hq)
/-- The frame serves the record's own looks, whatever the order. -/
def Use (ops : Array Oper) (all : List Rec) (fr0 : T AV) (r : Rec) (fr : T AV) : Prop := ∀ s ∈ r.o.looksAt ops, ∀ v, fr.get s = some v →
  (∃ q ∈ all, q.o.dst = some s ∧ q.v = v ∧ TD ops r.i q.i) ∨ (fr0.get s = some v ∧ ∀ q ∈ all, q.o.dst = some s → q.i = r.i ∨ TD ops q.i r.i)
theorem Tr.use {fr0 pre jn ps fr h r rest fr' h'} (t : Tr P ops N base nf pre jn ps fr h (r :: rest) fr' h') (hf : FrIs fr0 pre fr) : Use ops (pre ++ r :: rest) fr0 r fr := by
  intro s hs v hv
  have b := t.bse
  by_cases hq : ∃ q ∈ pre, q.o.dst = some s
  · obtain ⟨q, hq, hd⟩ := hq
    left
    have := (hf s).1 q hq hd
    rw [hv] at this; injection this with this
    exact ⟨q, List.mem_append_left _ hq, hd, this.symm, b.c1 q hq s hd hs⟩
  · have hq' : ∀ q ∈ pre, q.o.dst ≠ some s := fun q h1 h2 => hq ⟨q, h1, h2⟩
    right
    refine ⟨by rw [← (hf s).2 hq']; exact hv, fun q h1 h2 => ?_⟩
    rcases List.mem_append.1 h1 with h1 | h1
    · exact absurd h2 (hq' q h1)
    · rcases List.mem_cons.1 h1 with rfl | h1
      · exact .inl rfl
      · obtain ⟨jn1, ps1, g, t'⟩ := t.next
        exact .inr ((t'.later q h1 r (List.mem_append_right _ (List.mem_singleton.2 rfl))).2.1 s h2 hs)
/-- An earlier record, looked at again. -/
theorem Tr.use_again {fr0 pre jn ps fr h r rest fr' h'} (t : Tr P ops N base nf pre jn ps fr h (r :: rest) fr' h') (hf : FrIs fr0 pre fr) {q : Rec} (hq : q ∈ pre)
    (hr : ∀ p ∈ pre, ∀ s, p.o.dst = some s → s ∈ q.o.looksAt ops → TD ops q.i p.i) : Use ops (pre ++ r :: rest) fr0 q fr := by
  intro s hs v hv
  by_cases hp : ∃ p ∈ pre, p.o.dst = some s
  · obtain ⟨p, hp, hd⟩ := hp
    left
    have := (hf s).1 p hp hd
    rw [hv] at this; injection this with this
    exact ⟨p, List.mem_append_left _ hp, hd, this.symm, hr p hp s hd hs⟩
  · have hp' : ∀ p ∈ pre, p.o.dst ≠ some s := fun p h1 h2 => hp ⟨p, h1, h2⟩
    right
    refine ⟨by rw [← (hf s).2 hp']; exact hv, fun p h1 h2 => ?_⟩
    rcases List.mem_append.1 h1 with h1 | h1
    · exact absurd h2 (hp' p h1)
    · exact .inr ((t.later p h1 q hq).2.1 s h2 hs)
/-- What waits to be joined. -/
def PsOk (base : Nat) (pre : List Rec) (jn : List Nat) (ps : Pend) : Prop := (∀ q ∈ pre, ∀ j a, q.kd = .fl j a → j ∉ jn → (j, base + j, a) ∈ ps) ∧ ∀ p ∈ ps, ∃ q ∈ pre, q.kd = .fl p.1 p.2.2 ∧ p.2.1 = base + p.1 ∧ p.1 ∉ jn
/-- Records that are no effects lead on in the same heap. -/
theorem Tr.walk {fr0 : T AV} : ∀ {mid pre rest jn ps fr h fr' h'}, Tr P ops N base nf pre jn ps fr h (mid ++ rest) fr' h' → FrIs fr0 pre fr → PsOk base pre jn ps → (∀ q ∈ mid, q.kd ≠ .ef) →
    ∃ ps1 fr1, Tr P ops N base nf (pre ++ mid) jn ps1 fr1 h rest fr' h' ∧ FrIs fr0 (pre ++ mid) fr1 ∧ PsOk base (pre ++ mid) jn ps1 ∧
      ∀ q ∈ mid, q.kd = .st true → q.want = true → ∃ fr2, Use ops (pre ++ (mid ++ rest)) fr0 q fr2 ∧ StillS P q.o.op h fr2 q.v := by
  intro mid
  induction mid with
  | nil =>
    intro pre rest jn ps fr h fr' h' t hf hp _
    exact ⟨ps, fr, by simpa using t, by simpa using hf, by simpa using hp, fun q hq => by cases hq⟩
  | cons r mid ih =>
    intro pre rest jn ps fr h fr' h' t hf hp hm
    have hb := t.bse
    have hu := t.use hf
    have hf' := hf.snoc (r := r) hb.c3
    have ea : ∀ x : List Rec, pre ++ r :: x = (pre ++ [r]) ++ x := fun x => by simp
    cases t with
    | st _ hk h0 h1 h2 h3 k =>
      have hp' : PsOk base (pre ++ [r]) jn ps := by
        refine ⟨fun q hq j a hj hn => ?_, fun p hp1 => ?_⟩
        · rcases List.mem_append.1 hq with hq | hq
          · exact hp.1 q hq j a hj hn
          · obtain rfl := List.mem_singleton.1 hq
            rw [hk] at hj; cases hj
        · obtain ⟨q, e1, e2⟩ := hp.2 p hp1
          exact ⟨q, List.mem_append_left _ e1, e2⟩
      obtain ⟨ps1, fr1, e1, e2, e3, e4⟩ := ih k hf' hp' fun q hq => hm q (List.mem_cons_of_mem _ hq)
      refine ⟨ps1, fr1, by rw [ea]; exact e1, by rw [ea]; exact e2, by rw [ea]; exact e3, fun q hq g1 g2 => ?_⟩
      rcases List.mem_cons.1 hq with rfl | hq
      · exact ⟨fr, by simpa using hu, h1 g2⟩
      · obtain ⟨fr2, g3, g4⟩ := e4 q hq g1 g2
        exact ⟨fr2, by simpa using g3, g4⟩
    | @fl _ _ _ _ _ _ _ _ _ j a _ hk hw hj hl h1 h2 h3 k =>
      have hp' : PsOk base (pre ++ [r]) jn ((j, base + j, a) :: ps) := by
        refine ⟨fun q hq j' a' hj' hn => ?_, fun p hp1 => ?_⟩
        · rcases List.mem_append.1 hq with hq | hq
          · exact List.mem_cons_of_mem _ (hp.1 q hq j' a' hj' hn)
          · obtain rfl := List.mem_singleton.1 hq
            rw [hk] at hj'; cases hj'
            exact List.mem_cons_self ..
        · rcases List.mem_cons.1 hp1 with rfl | hp1
          · exact ⟨r, List.mem_append_right _ (List.mem_singleton.2 rfl), hk, rfl, h3⟩
          · obtain ⟨q, e1, e2⟩ := hp.2 p hp1
            exact ⟨q, List.mem_append_left _ e1, e2⟩
      obtain ⟨ps1, fr1, e1, e2, e3, e4⟩ := ih k hf' hp' fun q hq => hm q (List.mem_cons_of_mem _ hq)
      refine ⟨ps1, fr1, by rw [ea]; exact e1, by rw [ea]; exact e2, by rw [ea]; exact e3, fun q hq g1 g2 => ?_⟩
      rcases List.mem_cons.1 hq with rfl | hq
      · rw [hk] at g1; cases g1
      · obtain ⟨fr2, g3, g4⟩ := e4 q hq g1 g2
        exact ⟨fr2, by simpa using g3, g4⟩
    | ef _ hk => exact absurd hk (hm r (List.mem_cons_self ..))
theorem Tr.split : ∀ {mid rest pre jn ps fr h fr' h'}, Tr P ops N base nf pre jn ps fr h (mid ++ rest) fr' h' → ∃ jn1 ps1 fr1 h1, Tr P ops N base nf (pre ++ mid) jn1 ps1 fr1 h1 rest fr' h' := by
  intro mid
  induction mid with
  | nil => intro rest pre jn ps fr h fr' h' t; exact ⟨_, _, _, _, by simpa using t⟩
  | cons q mid ih =>
    intro rest pre jn ps fr h fr' h' t
    obtain ⟨jn1, ps1, h1, t'⟩ := t.next
    obtain ⟨jn2, ps2, fr2, h2, e⟩ := ih t'
    exact ⟨jn2, ps2, fr2, h2, by simpa using e⟩
/-- One record of the rest, and the frame when it came. -/
theorem Tr.at_ {fr0 : T AV} : ∀ {rest pre jn ps fr h fr' h'}, Tr P ops N base nf pre jn ps fr h rest fr' h' → FrIs fr0 pre fr → ∀ r ∈ rest, ∃ mid post jn1 ps1 fr1 h1, rest = mid ++ r :: post ∧ Tr P ops N base nf (pre ++ mid) jn1 ps1 fr1 h1 (r :: post) fr' h' ∧ FrIs fr0 (pre ++ mid) fr1 := by
  intro rest
  induction rest with
  | nil => intro pre jn ps fr h fr' h' _ _ r hr; cases hr
  | cons q rest ih =>
    intro pre jn ps fr h fr' h' t hf r hr
    rcases List.mem_cons.1 hr with rfl | hr
    · exact ⟨[], rest, jn, ps, fr, h, rfl, by simpa using t, by simpa using hf⟩
    · obtain ⟨jn1, ps1, h1, t'⟩ := t.next
      obtain ⟨mid, post, jn2, ps2, fr2, h2, rfl, e2, e3⟩ := ih t' (hf.snoc t.bse.c3) r hr
      exact ⟨q :: mid, post, jn2, ps2, fr2, h2, rfl, by simpa using e2, by simpa using e3⟩
theorem Tr.last {fr0 : T AV} : ∀ {rest pre jn ps fr h fr' h'}, Tr P ops N base nf pre jn ps fr h rest fr' h' → FrIs fr0 pre fr → FrIs fr0 (pre ++ rest) fr' := by
  intro rest
  induction rest with
  | nil => intro pre jn ps fr h fr' h' t hf; cases t; simpa using hf
  | cons q rest ih =>
    intro pre jn ps fr h fr' h' t hf
    obtain ⟨jn1, ps1, h1, t'⟩ := t.next
    have := ih t' (hf.snoc t.bse.c3)
    simpa using this
end
end
end Go.RE
/- Regions that draw their order: the state behind some operations. -/
namespace Go.RE
open Go.RowKit
noncomputable section
section
variable {P : Program} {ops : Array Oper} {N base nf : Nat}
structure Glob (P : Program) (ops : Array Oper) (N base nf : Nat) (all : List Rec) (fr0 fr' : T AV) : Prop where
  uniq : ∀ q ∈ all, ∀ r ∈ all, q.i = r.i → q = r
  at_ : ∀ r ∈ all, ops[r.i]? = some r.o
  dst : ∀ r ∈ all, dOk N r.o.dst = true
  dist : ∀ q ∈ all, ∀ r ∈ all, ∀ s, q.o.dst = some s → r.o.dst = some s → q = r
  want : ∀ r ∈ all, ∃ fr, Use ops all fr0 r fr ∧ ∀ ρ a, FRon ρ (· ∈ r.o.looksAt ops) fr a → Region.wanted r.o (yielded ops a.tmps) = r.want
  free : ∀ r ∈ all, r.kd = .st false → r.want = true → ∃ fr, Use ops all fr0 r fr ∧ ∀ g, StillS P r.o.op g fr r.v
  skip : ∀ r ∈ all, r.want = false → r.v = .tu []
  float : ∀ r ∈ all, ∀ j a, r.kd = .fl j a → r.want = true ∧ j < nf ∧ a.live ∧ ∃ fr, Use ops all fr0 r fr ∧ FloatS P r.o.op fr (base + j) r.v a
  fdist : ∀ q ∈ all, ∀ r ∈ all, ∀ j a b, q.kd = .fl j a → r.kd = .fl j b → q = r
  last : FrIs fr0 all fr'
  ready : ∀ L : Nat → Prop, (∃ r ∈ all, ¬ L r.i) → ∃ r ∈ all, ¬ L r.i ∧ ∀ d, Dep ops r.i d → L d
theorem Tr.glob {all jn ps fr0 h fr' h'} (t : Tr P ops N base nf [] jn ps fr0 h all fr' h') : Glob P ops N base nf all fr0 fr' := by
  have at' : ∀ r ∈ all, ∃ mid post jn1 ps1 fr1 h1, all = mid ++ r :: post ∧ Tr P ops N base nf mid jn1 ps1 fr1 h1 (r :: post) fr' h' ∧ FrIs fr0 mid fr1 := fun r hr => by
    obtain ⟨mid, post, jn1, ps1, fr1, h1, e1, e2, e3⟩ := t.at_ (FrIs.nil fr0) r hr
    exact ⟨mid, post, jn1, ps1, fr1, h1, e1, by simpa using e2, by simpa using e3⟩
  have use : ∀ r ∈ all, ∃ mid post jn1 ps1 fr1 h1, all = mid ++ r :: post ∧ Tr P ops N base nf mid jn1 ps1 fr1 h1 (r :: post) fr' h' ∧ Use ops all fr0 r fr1 := fun r hr => by
    obtain ⟨mid, post, jn1, ps1, fr1, h1, e1, e2, e3⟩ := at' r hr
    have := e2.use e3
    rw [← e1] at this
    exact ⟨mid, post, jn1, ps1, fr1, h1, e1, e2, this⟩
  have split : ∀ q ∈ all, ∀ r ∈ all, ∃ mid post jn1 ps1 fr1 h1, all = mid ++ r :: post ∧ Tr P ops N base nf mid jn1 ps1 fr1 h1 (r :: post) fr' h' ∧ (q ∈ mid ∨ q = r ∨ (q ∈ post ∧ q.i ≠ r.i ∧ (∀ s, r.o.dst = some s → q.o.dst ≠ some s) ∧ (∀ j a b, q.kd = .fl j a → r.kd = .fl j b → False))) := fun q hq r hr => by
    obtain ⟨mid, post, jn1, ps1, fr1, h1, e1, e2, e3⟩ := at' r hr
    refine ⟨mid, post, jn1, ps1, fr1, h1, e1, e2, ?_⟩
    rw [e1] at hq
    rcases List.mem_append.1 hq with hq | hq
    · exact .inl hq
    · rcases List.mem_cons.1 hq with hq | hq
      · exact .inr (.inl hq)
      · obtain ⟨jn2, ps2, h2, t'⟩ := e2.next
        have := t'.later q hq r (List.mem_append_right _ (List.mem_singleton.2 rfl))
        exact .inr (.inr ⟨hq, this.1, this.2.2⟩)
  refine ⟨fun q hq r hr e => ?_, fun r hr => ?_, fun r hr => ?_, fun q hq r hr s h1 h2 => ?_, fun r hr => ?_, fun r hr hk hw => ?_, fun r hr hw => ?_, fun r hr j a hk => ?_, fun q hq r hr j a b h1 h2 => ?_, by simpa using t.last (FrIs.nil fr0), fun L hL => ?_⟩
  · obtain ⟨mid, post, _, _, _, _, e1, e2, e3⟩ := split q hq r hr
    rcases e3 with e3 | e3 | e3
    · exact absurd e (e2.bse.new q e3)
    · exact e3
    · exact absurd e e3.2.1
  · obtain ⟨mid, post, _, _, _, _, e1, e2, e3⟩ := at' r hr
    exact e2.bse.at_
  · obtain ⟨mid, post, _, _, _, _, e1, e2, e3⟩ := at' r hr
    exact e2.bse.dst
  · obtain ⟨mid, post, _, _, _, _, e1, e2, e3⟩ := split q hq r hr
    rcases e3 with e3 | e3 | e3
    · exact absurd h2 (e2.bse.c3 q e3 s h1)
    · exact e3
    · exact absurd h1 (e3.2.2.1 s h2)
  · obtain ⟨mid, post, _, _, fr1, _, e1, e2, e3⟩ := use r hr
    exact ⟨fr1, e3, e2.bse.want⟩
  · obtain ⟨mid, post, _, _, fr1, _, e1, e2, e3⟩ := use r hr
    refine ⟨fr1, e3, ?_⟩
    cases e2 with
    | st _ hk' _ _ h2 _ _ => rw [hk] at hk'; injection hk' with hk'; exact h2 hk'.symm hw
    | fl _ hk' => rw [hk] at hk'; cases hk'
    | ef _ hk' => rw [hk] at hk'; cases hk'
  · obtain ⟨mid, post, _, _, _, _, e1, e2, e3⟩ := at' r hr
    cases e2 with
    | st _ _ h0 => exact h0 hw
    | fl _ _ hw' => rw [hw] at hw'; cases hw'
    | ef _ _ _ _ h0 => exact (h0 hw).1
  · obtain ⟨mid, post, _, _, fr1, _, e1, e2, e3⟩ := use r hr
    cases e2 with
    | st _ hk' => rw [hk] at hk'; cases hk'
    | fl _ hk' hw hj hl h1 => rw [hk] at hk'; cases hk'; exact ⟨hw, hj, hl, fr1, e3, h1⟩
    | ef _ hk' => rw [hk] at hk'; cases hk'
  · obtain ⟨mid, post, _, _, _, _, e1, e2, e3⟩ := split q hq r hr
    rcases e3 with e3 | e3 | e3
    · cases e2 with
      | st _ hk' => rw [h2] at hk'; cases hk'
      | fl _ hk' _ _ _ _ h3 => rw [h2] at hk'; cases hk'; exact absurd rfl (h3 q e3 j a h1)
      | ef _ hk' => rw [h2] at hk'; cases hk'
    · exact e3
    · exact (e3.2.2.2 j a b h1 h2).elim
  · -- the first that is not in L
    have key : ∀ (mid : List Rec) (rest : List Rec), all = mid ++ rest → (∀ r ∈ mid, L r.i) → (∃ r ∈ rest, ¬ L r.i) → ∃ r ∈ all, ¬ L r.i ∧ ∀ d, Dep ops r.i d → L d := by
      intro mid rest
      induction rest generalizing mid with
      | nil => rintro _ _ ⟨r, hr, _⟩; cases hr
      | cons r rest ih =>
        intro e hm hx
        by_cases hr : L r.i
        · refine ih (mid ++ [r]) (by simpa using e) (fun q hq => ?_) ?_
          · rcases List.mem_append.1 hq with hq | hq
            · exact hm q hq
            · obtain rfl := List.mem_singleton.1 hq; exact hr
          · obtain ⟨q, hq, hn⟩ := hx
            rcases List.mem_cons.1 hq with rfl | hq
            · exact absurd hr hn
            · exact ⟨q, hq, hn⟩
        · obtain ⟨_, _, _, _, t'⟩ := Tr.split (mid := mid) (rest := r :: rest) (by rw [← e]; exact t)
          refine ⟨r, by rw [e]; exact List.mem_append_right _ (List.mem_cons_self ..), hr, fun d hd => ?_⟩
          obtain ⟨q, h1, rfl⟩ := t'.bse.deps d hd
          exact hm q (by simpa using h1)
    exact key [] all rfl (fun r hr => by cases hr) hL
end
end
end Go.RE
/- Regions that draw their order: the state, step by step. -/
namespace Go.RE
open Go.RowKit
noncomputable section
section
variable {P : Program} {ops : Array Oper} {N base nf : Nat} {all : List Rec} {fr0 fr' : T AV} {h' : Hp} {S : Nat → Prop} {w0 : World} {ρ0 : M}
/-- The slots behind the operations of L. -/
def Slots (all : List Rec) (fr0 : T AV) (L : Nat → Prop) (ρ : M) (a : Act) : Prop :=
  ∀ s v, ((∃ q ∈ all, L q.i ∧ q.o.dst = some s ∧ q.v = v) ∨ ((∀ q ∈ all, L q.i → q.o.dst ≠ some s) ∧ fr0.get s = some v)) → ∃ u, a.tmps[s]? = some u ∧ VR ρ v u
structure St (P : Program) (ops : Array Oper) (N base nf : Nat) (all : List Rec) (fr0 fr' : T AV) (h' : Hp) (S : Nat → Prop) (w0 : World) (ρ0 : M) (L : Nat → Prop) (ρ : M) (a : Act) (w : World) : Prop where
  closed : ∀ i d, L i → Dep ops i d → L d
  defers : a.defers = []
  size : N ≤ a.tmps.size
  slot : Slots all fr0 L ρ a
  ext : ExtN base ρ0 ρ
  fresh : ∀ q ∈ all, ∀ j b, q.kd = .fl j b → ¬ L q.i → ρ (base + j) = none
  heap : ∃ pre rest jn ps fr h hh, Tr P ops N base nf pre jn ps fr h rest fr' h' ∧ pre ++ rest = all ∧ FrIs fr0 pre fr ∧ PsOk base pre jn ps ∧
    (∀ q ∈ pre, q.kd = .ef → L q.i) ∧ (∀ q ∈ rest, q.kd = .ef → ¬ L q.i) ∧ (∀ q ∈ all, ∀ j b, q.kd = .fl j b → j ∈ jn → L q.i) ∧
    (∀ r ∈ pre, r.kd = .st true → r.want = true → ¬ L r.i → ∃ fr, Use ops all fr0 r fr ∧ Again P ops r h fr) ∧
    (∀ j, j < nf → j ∉ jn → h.t.get (base + j) = none) ∧ base + nf ≤ h.n ∧
    Inv S w0 hh ρ w ∧ hh.n = h.n ∧ h.sub hh ∧ ∀ q ∈ all, ∀ j b, q.kd = .fl j b → L q.i → j ∉ jn → hh.t.get (base + j) = some b
theorem Slots.on {L : Nat → Prop} {ρ : M} {a : Act} (hs : Slots all fr0 L ρ a) (hL : ∀ i d, L i → Dep ops i d → L d) {r : Rec} {fr : T AV} (hu : Use ops all fr0 r fr) (hr : ¬ L r.i) (hd : ∀ d, Dep ops r.i d → L d) :
    FRon ρ (· ∈ r.o.looksAt ops) fr a := by
  intro s v hs' hv
  refine hs s v ?_
  rcases hu s hs' v hv with ⟨q, h1, h2, h3, h4⟩ | ⟨h1, h2⟩
  · exact .inl ⟨q, h1, h4.into hL hd, h2, h3⟩
  · refine .inr ⟨fun q hq hql he => ?_, h1⟩
    rcases h2 q hq he with e | e
    · exact hr (e ▸ hql)
    · exact hr (e.into hL fun d hd' => hL _ _ hql hd')
theorem FRon.op {ρ : M} {o : Oper} {fr : T AV} {a : Act} (h : FRon ρ (· ∈ o.looksAt ops) fr a) : FRon ρ (ofOp o.op) fr a := fun t v ht hv =>
  h t v (List.mem_append_left _ (List.mem_filterMap.2 ⟨.tmp t, by simpa [ofOp] using ht, rfl⟩)) hv
theorem Slots.put {L : Nat → Prop} {ρ ρ' : M} {a : Act} (hG : Glob P ops N base nf all fr0 fr') (hs : Slots all fr0 L ρ a) (he : Ext ρ ρ') (hN : N ≤ a.tmps.size) {r : Rec} (hr : r ∈ all) {u : Value} (hv : VR ρ' r.v u) :
    Slots all fr0 (fun i => L i ∨ i = r.i) ρ' (a.put r.o.dst u) := by
  intro s v h
  have keep : r.o.dst ≠ some s → (∃ u, a.tmps[s]? = some u ∧ VR ρ v u) → ∃ x, (a.put r.o.dst u).tmps[s]? = some x ∧ VR ρ' v x := by
    rintro hne ⟨x, h1, h2⟩
    refine ⟨x, ?_, h2.ext he⟩
    cases hd : r.o.dst with
    | none => exact h1
    | some d =>
      simp only [Act.put, Array.getElem?_setIfInBounds]
      rw [if_neg (fun e => hne (by rw [hd, e]))]
      exact h1
  rcases h with ⟨q, h1, h2, h3, h4⟩ | ⟨h1, h2⟩
  · by_cases hq : q = r
    · subst hq
      have hd := hG.dst q hr
      rw [h3] at hd ⊢
      have : s < N := by simpa [dOk, Nat.blt_eq] using hd
      refine ⟨u, ?_, h4 ▸ hv⟩
      simp only [Act.put, Array.getElem?_setIfInBounds]
      rw [if_pos trivial, if_pos (Nat.lt_of_lt_of_le this hN)]
    · refine keep (fun e => hq (hG.dist q h1 r hr s h3 e)) (hs s v (.inl ⟨q, h1, ?_, h3, h4⟩))
      rcases h2 with h2 | h2
      · exact h2
      · exact absurd (hG.uniq q h1 r hr h2) hq
  · exact keep (h1 r hr (.inr rfl)) (hs s v (.inr ⟨fun q hq hl => h1 q hq (.inl hl), h2⟩))
theorem closed_put {L : Nat → Prop} (hL : ∀ i d, L i → Dep ops i d → L d) {r : Nat} (hd : ∀ d, Dep ops r d → L d) : ∀ i d, (L i ∨ i = r) → Dep ops i d → (L d ∨ d = r) := by
  intro i d h1 h2
  rcases h1 with h1 | rfl
  · exact .inl (hL i d h1 h2)
  · exact .inl (hd d h2)
/-- A still operation, or one that is not wanted, was done: the heap is as before. -/
theorem St.quiet {L : Nat → Prop} {ρ : M} {a : Act} {w : World} (hG : Glob P ops N base nf all fr0 fr') (hs : St P ops N base nf all fr0 fr' h' S w0 ρ0 L ρ a w) {r : Rec} (hr : r ∈ all) (hk : ∃ b, r.kd = .st b) (hd : ∀ d, Dep ops r.i d → L d)
    {u : Value} (hv : VR ρ r.v u) : St P ops N base nf all fr0 fr' h' S w0 ρ0 (fun i => L i ∨ i = r.i) ρ (a.put r.o.dst u) w := by
  obtain ⟨b, hk⟩ := hk
  have hne : ∀ q ∈ all, (∀ b, q.kd ≠ .st b) → q.i ≠ r.i := fun q hq hn e => by
    have := hG.uniq q hq r hr e
    subst this
    exact hn b hk
  obtain ⟨pre, rest, jn, ps, fr, h, hh, t, e, hf, hp, h1, h2, h3, h4, h5, h6, h7, h8, h9, h10⟩ := hs.heap
  refine ⟨closed_put hs.closed hd, ?_, ?_, hs.slot.put hG (Ext.refl _) hs.size hr hv, hs.ext, fun q hq j b' hj hl => hs.fresh q hq j b' hj fun h => hl (.inl h),
    pre, rest, jn, ps, fr, h, hh, t, e, hf, hp, fun q hq hj => .inl (h1 q hq hj), fun q hq hj hl => ?_, fun q hq j b' hj hl => .inl (h3 q hq j b' hj hl), fun q hq h11 h12 h13 => h4 q hq h11 h12 fun h => h13 (.inl h), h5, h6, h7, h8, h9, fun q hq j b' hj hl hn => ?_⟩
  · cases hdst : r.o.dst <;> exact hs.defers
  · cases hdst : r.o.dst
    · exact hs.size
    · simpa [Act.put] using hs.size
  · rcases hl with hl | hl
    · exact h2 q hq hj hl
    · exact hne q (by rw [← e]; exact List.mem_append_right _ hq) (fun b' hb => by rw [hj] at hb; cases hb) hl
  · rcases hl with hl | hl
    · exact h10 q hq j b' hj hl hn
    · exact absurd hl (hne q hq (fun b'' hb => by rw [hj] at hb; cases hb))
/-- What a still operation tells in the heap as it is. -/
theorem St.still {L : Nat → Prop} {ρ : M} {a : Act} {w : World} (hG : Glob P ops N base nf all fr0 fr') (hs : St P ops N base nf all fr0 fr' h' S w0 ρ0 L ρ a w) {r : Rec} (hr : r ∈ all) {b : Bool} (hk : r.kd = .st b) (hw : r.want = true) (hl : ¬ L r.i) (hd : ∀ d, Dep ops r.i d → L d) :
    ∃ u, (execOp a.eval r.o).run P w = .ok (.value u) w ∧ VR ρ r.v u := by
  obtain ⟨pre, rest, jn, ps, fr, h, hh, t, e, hf, hp, h1, h2, h3, h4, h5, h6, h7, h8, h9, h10⟩ := hs.heap
  have key : ∃ fr, Use ops all fr0 r fr ∧ Again P ops r h fr := by
    cases b with
    | false =>
      obtain ⟨fr, u1, u2⟩ := hG.free r hr hk hw
      exact ⟨fr, u1, .inl (u2 h)⟩
    | true =>
      rw [← e] at hr
      rcases List.mem_append.1 hr with hr | hr
      · exact h4 r hr hk hw hl
      · obtain ⟨mid, post, jn1, ps1, fr1, g, rfl, t1, _⟩ := t.at_ hf r hr
        have hm : ∀ q ∈ mid, q.kd ≠ .ef := fun q hq hq' => by
          refine h2 q (List.mem_append_left _ hq) hq' ?_
          have : TD ops r.i q.i := by
            cases t1 with
            | st _ hk' _ _ _ h3' => rw [hk] at hk'; injection hk' with hk'; exact h3' hk'.symm q (List.mem_append_right _ hq) hq'
            | fl _ hk' => rw [hk] at hk'; cases hk'
            | ef _ hk' => rw [hk] at hk'; cases hk'
          exact this.into hs.closed hd
        have t' : Tr P ops N base nf pre jn ps fr h ((mid ++ [r]) ++ post) fr' h' := by simpa using t
        obtain ⟨_, _, _, _, _, hx⟩ := t'.walk hf hp fun q hq => by
          rcases List.mem_append.1 hq with hq | hq
          · exact hm q hq
          · obtain rfl := List.mem_singleton.1 hq; rw [hk]; exact fun h => by cases h
        obtain ⟨fr2, g1, g2⟩ := hx r (List.mem_append_right _ (List.mem_singleton.2 rfl)) hk hw
        exact ⟨fr2, by rw [← e]; simpa using g1, .inl g2⟩
  obtain ⟨fr2, g1, g2⟩ := key
  have hon := hs.slot.on hs.closed g1 hl hd
  rcases g2 with g2 | g2
  · exact g2 S w0 ρ a w r.o rfl hon.op (h7.less h9 h8.symm)
  · obtain ⟨frw, w1, w2⟩ := hG.want r (by first | exact hr | (rw [← e]; exact hr))
    have := w2 ρ a (hs.slot.on hs.closed w1 hl hd)
    rw [g2 ρ a hon, hw] at this; cases this
end
end
end Go.RE
/- Regions that draw their order: new objects and effects. -/
namespace Go.RE
open Go.RowKit
noncomputable section
section
variable {P : Program} {ops : Array Oper} {N base nf : Nat} {all : List Rec} {fr0 fr' : T AV} {h' : Hp} {S : Nat → Prop} {w0 : World} {ρ0 : M}
theorem putTmps_size {a : Act} {d : Option Tmp} {u : Value} {N : Nat} (h : N ≤ a.tmps.size) : N ≤ (a.put d u).tmps.size := by
  cases d
  · exact h
  · simpa [Act.put] using h
theorem putTmps_defers {a : Act} {d : Option Tmp} {u : Value} (h : a.defers = []) : (a.put d u).defers = [] := by
  cases d <;> exact h
theorem St.float {L : Nat → Prop} {ρ : M} {a : Act} {w : World} (hG : Glob P ops N base nf all fr0 fr') (hs : St P ops N base nf all fr0 fr' h' S w0 ρ0 L ρ a w) {r : Rec} (hr : r ∈ all) {j : Nat} {b : AO} (hk : r.kd = .fl j b) (hl : ¬ L r.i) (hd : ∀ d, Dep ops r.i d → L d) :
    ∃ u ob ρ', (execOp a.eval r.o).run P w = .ok (.value u) (w.alloc ob) ∧ St P ops N base nf all fr0 fr' h' S w0 ρ0 (fun i => L i ∨ i = r.i) ρ' (a.put r.o.dst u) (w.alloc ob) := by
  obtain ⟨hw, hj, hlive, fr1, hu, hf⟩ := hG.float r hr j b hk
  have hfree := hs.fresh r hr j b hk hl
  obtain ⟨u, ob, n, e1, e2, e3⟩ := hf ρ a w r.o rfl (hs.slot.on hs.closed hu hl hd).op hfree
  obtain ⟨pre, rest, jn, ps, fr, h, hh, t, e, hfr, hp, h1, h2, h3, h4, h5, h6, h7, h8, h9, h10⟩ := hs.heap
  have hjn : j ∉ jn := fun hm => hl (h3 r hr j b hk hm)
  have hlt : base + j < hh.n := by rw [h8]; omega
  have hi := h7.new (id := base + j) (n' := hh.n) hfree hlt (Nat.le_refl _) rfl hlive e3
  have hne : ∀ q ∈ all, q.kd ≠ r.kd → q.i ≠ r.i := fun q hq hn e => hn (by rw [hG.uniq q hq r hr e])
  refine ⟨u, ob, _, e1, closed_put hs.closed hd, putTmps_defers hs.defers, putTmps_size hs.size, hs.slot.put hG (M.put_ext ρ _ hfree) hs.size hr e2, hs.ext.trans (ExtN.put hfree (Nat.le_add_right _ _)) (Nat.le_refl _), fun q hq j' b' hj' hl' => ?_,
    pre, rest, jn, ps, fr, h, ⟨hh.t.put (base + j) b, hh.n⟩, t, e, hfr, hp, fun q hq hj => .inl (h1 q hq hj), fun q hq hj' hl' => ?_, fun q hq j' b' hj' hl' => .inl (h3 q hq j' b' hj' hl'), fun q hq h11 h12 h13 => h4 q hq h11 h12 fun h => h13 (.inl h), h5, h6, hi, h8, fun id b' hb' => ?_, fun q hq j' b' hj' hl' hn => ?_⟩
  · rw [M.put_ne _ _ (fun e => ?_)]
    · exact hs.fresh q hq j' b' hj' fun h => hl' (.inl h)
    · have : j' = j := by omega
      subst this
      exact hl' (.inr (by rw [hG.fdist q hq r hr j' b' b hj' hk]))
  · rcases hl' with hl' | hl'
    · exact h2 q hq hj' hl'
    · exact hne q (by rw [← e]; exact List.mem_append_right _ hq) (by rw [hj', hk]; exact fun h => by cases h) hl'
  · simp only [T.get_put]
    by_cases hid : id = base + j
    · subst hid; rw [h5 j hj hjn] at hb'; cases hb'
    · rw [if_neg hid]; exact h9 id b' hb'
  · simp only [T.get_put]
    by_cases hjj : j' = j
    · subst hjj
      rw [if_pos rfl]
      have := hG.fdist q hq r hr j' b' b hj' hk
      subst this
      rw [hk] at hj'; cases hj'; rfl
    · rw [if_neg (by omega)]
      rcases hl' with hl' | hl'
      · exact h10 q hq j' b' hj' hl' hn
      · have := hG.uniq q hq r hr hl'
        subst this
        rw [hk] at hj'; cases hj'; exact absurd rfl hjj
/-! ### effects -/
theorem joinF_get : ∀ (ps : Pend) (t : T AO) (use : List Nat) (id : Nat) (b : AO), (joinF t use ps).get id = some b → t.get id = some b ∨ ∃ p ∈ ps, p.2.1 = id ∧ p.2.2 = b ∧ memN p.1 use = true := by
  intro ps
  induction ps with
  | nil => intro t use id b h; exact .inl h
  | cons p ps ih =>
    intro t use id b h
    obtain ⟨j, i, x⟩ := p
    simp only [joinF] at h
    cases hm : memN j use
    · rw [hm] at h
      rcases ih t use id b h with h | ⟨p, h1, h2⟩
      · exact .inl h
      · exact .inr ⟨p, List.mem_cons_of_mem _ h1, h2⟩
    · rw [hm] at h
      rcases ih _ use id b h with h | ⟨p, h1, h2⟩
      · rw [T.get_put] at h
        by_cases hi : id = i
        · rw [if_pos hi] at h; injection h with h
          exact .inr ⟨(j, i, x), List.mem_cons_self .., hi.symm, h, hm⟩
        · rw [if_neg hi] at h; exact .inl h
      · exact .inr ⟨p, List.mem_cons_of_mem _ h1, h2⟩
theorem memN_iff {b : Nat} : ∀ {l : List Nat}, memN b l = true ↔ b ∈ l := by
  intro l
  induction l with
  | nil => simp [memN]
  | cons x l ih =>
    simp only [memN, List.mem_cons]
    cases hb : Nat.beq x b
    · have : x ≠ b := fun e => by rw [e, Nat.beq_refl] at hb; cases hb
      simp only [cond_false, ih]
      exact ⟨.inr, fun h => h.resolve_left fun e => this e.symm⟩
    · have := Nat.eq_of_beq_eq_true hb
      simp [this]
theorem leftF_mem : ∀ {ps : Pend} {use : List Nat} {p : Nat × Nat × AO}, p ∈ leftF use ps ↔ p ∈ ps ∧ p.1 ∉ use := by
  intro ps
  induction ps with
  | nil => intro use p; simp [leftF]
  | cons q ps ih =>
    intro use p
    obtain ⟨j, i, x⟩ := q
    simp only [leftF]
    cases hm : memN j use
    · have hn : j ∉ use := fun h => by rw [memN_iff.2 h] at hm; cases hm
      simp only [cond_false, List.mem_cons, ih]
      constructor
      · rintro (rfl | ⟨h1, h2⟩)
        · exact ⟨.inl rfl, hn⟩
        · exact ⟨.inr h1, h2⟩
      · rintro ⟨rfl | h1, h2⟩
        · exact .inl rfl
        · exact .inr ⟨h1, h2⟩
    · have hy := memN_iff.1 hm
      simp only [cond_true, ih, List.mem_cons]
      constructor
      · rintro ⟨h1, h2⟩; exact ⟨.inr h1, h2⟩
      · rintro ⟨rfl | h1, h2⟩
        · exact absurd hy h2
        · exact ⟨h1, h2⟩
/-- A tree with some entries more. -/
theorem ex_more (t : T AO) : ∀ l : List (Nat × AO), (∀ x ∈ l, ∀ y ∈ l, x.1 = y.1 → x = y) → ∃ t' : T AO, (∀ x ∈ l, t'.get x.1 = some x.2) ∧ ∀ id, (∀ x ∈ l, x.1 ≠ id) → t'.get id = t.get id := by
  intro l
  induction l with
  | nil => intro _; exact ⟨t, (fun x hx => by cases hx), fun id _ => rfl⟩
  | cons x l ih =>
    intro hu
    obtain ⟨t', h1, h2⟩ := ih fun a ha b hb => hu a (List.mem_cons_of_mem _ ha) b (List.mem_cons_of_mem _ hb)
    refine ⟨t'.put x.1 x.2, fun y hy => ?_, fun id hid => ?_⟩
    · rw [T.get_put]
      by_cases he : y.1 = x.1
      · rw [if_pos he, hu y hy x (List.mem_cons_self ..) he]
      · rw [if_neg he]
        rcases List.mem_cons.1 hy with rfl | hy
        · exact absurd rfl he
        · exact h1 y hy
    · rw [T.get_put, if_neg (fun e => hid x (List.mem_cons_self ..) e.symm)]
      exact h2 id fun y hy => hid y (List.mem_cons_of_mem _ hy)
/-- An effect is next: what it works on, and the state behind it. -/
theorem St.effect {L : Nat → Prop} {ρ : M} {a : Act} {w : World} (hG : Glob P ops N base nf all fr0 fr') (hs : St P ops N base nf all fr0 fr' h' S w0 ρ0 L ρ a w) {r : Rec} (hr : r ∈ all) (hk : r.kd = .ef) (hl : ¬ L r.i) (hd : ∀ d, Dep ops r.i d → L d) :
    ∃ (J h2 : Hp) (fr1 : T AV), Use ops all fr0 r fr1 ∧ (r.want = false → r.v = .tu [] ∧ h2 = J) ∧ (r.want = true → OpS P r.o.op J fr1 r.v h2) ∧ Inv (Sof J ρ) w J ρ w ∧
      ∀ ρ' u w', VR ρ' r.v u → Inv (Sof J ρ) w h2 ρ' w' → ExtN J.n ρ ρ' → J.n ≤ h2.n → St P ops N base nf all fr0 fr' h' S w0 ρ0 (fun i => L i ∨ i = r.i) ρ' (a.put r.o.dst u) w' := by
  obtain ⟨pre, rest, jn, ps, fr, h, hh, t, e, hfr, hp, h1, h2, h3, h4, h5, h6, h7, h8, h9, h10⟩ := hs.heap
  have hr' := hr
  rw [← e] at hr
  rcases List.mem_append.1 hr with hr | hr
  · exact absurd (h1 r hr hk) hl
  obtain ⟨mid, post, _, _, _, _, rfl, t0, _⟩ := t.at_ hfr r hr
  have hm : ∀ q ∈ mid, q.kd ≠ .ef := fun q hq hq' => by
    refine h2 q (List.mem_append_left _ hq) hq' ?_
    have : TD ops r.i q.i := by
      cases t0 with
      | st _ hk' => rw [hk] at hk'; cases hk'
      | fl _ hk' => rw [hk] at hk'; cases hk'
      | ef _ _ hc => exact hc q (List.mem_append_right _ hq) hq'
    exact this.into hs.closed hd
  obtain ⟨ps1, fr1, t1, f1, p1, hx⟩ := t.walk hfr hp hm
  have eall : (pre ++ mid) ++ r :: post = all := by rw [← e]; simp
  have huse := t1.use f1
  rw [eall] at huse
  have hlater := t1.next
  cases t1 with
  | st _ hk' => rw [hk] at hk'; cases hk'
  | fl _ hk' => rw [hk] at hk'; cases hk'
  | @ef _ _ _ _ _ _ _ _ _ use g hb _ hc hu e0 e1 hnone hrr k =>
    have again : ∀ q ∈ pre ++ mid, (∀ p ∈ pre ++ mid, ∀ s, p.o.dst = some s → s ∈ q.o.looksAt ops → TD ops q.i p.i) → Use ops all fr0 q fr1 := fun q hq hq' => by
      have := (Tr.ef hb hk hc hu e0 e1 hnone hrr k).use_again f1 hq hq'
      rwa [eall] at this
    have usedL : ∀ q ∈ all, ∀ j b, q.kd = .fl j b → j ∈ use → L q.i := fun q hq j b hq' hj => by
      obtain ⟨q2, g1, b2, g2, g3⟩ := hu j hj
      have hq2 : q2 ∈ all := by rw [← eall]; exact List.mem_append_left _ g1
      have := hG.fdist q hq q2 hq2 j b b2 hq' g2
      subst this
      exact g3.into hs.closed hd
    have floatlt : ∀ q ∈ all, ∀ j b, q.kd = .fl j b → j < nf := fun q hq j b hq' => (hG.float q hq j b hq').2.1
    have hJ : (⟨joinF h.t use ps1, h.n⟩ : Hp).sub hh := fun id b hb' => by
      rcases joinF_get ps1 h.t use id b hb' with hg | ⟨p, g1, g2, g3, g4⟩
      · exact h9 id b hg
      · obtain ⟨q, g5, g6, g7, g8⟩ := p1.2 p g1
        have hq : q ∈ all := by rw [← eall]; exact List.mem_append_left _ g5
        rw [← g2, g7, ← g3]
        exact h10 q hq p.1 p.2.2 g6 (usedL q hq _ _ g6 (memN_iff.1 g4)) g8
    have hJn : (⟨joinF h.t use ps1, h.n⟩ : Hp).n = hh.n := h8.symm
    refine ⟨⟨joinF h.t use ps1, h.n⟩, g, fr1, huse, e0, e1, h7.inner hJ hJn, fun ρ' u w' hv k2 he hle => ?_⟩
    have hle' : h.n ≤ g.n := hle
    -- the pending ones go on
    let L2 : List (Nat × AO) := all.filterMap fun q => match q.kd with
      | .fl j b => haveI := Classical.propDecidable (L q.i ∧ j ∉ use ++ jn); if L q.i ∧ j ∉ use ++ jn then some (base + j, b) else none
      | _ => none
    have mem2 : ∀ x, x ∈ L2 ↔ ∃ q ∈ all, ∃ j b, q.kd = .fl j b ∧ L q.i ∧ j ∉ use ++ jn ∧ x = (base + j, b) := fun x => by
      simp only [L2, List.mem_filterMap]
      constructor
      · rintro ⟨q, hq, hq'⟩
        cases hkq : q.kd with
        | st _ => rw [hkq] at hq'; cases hq'
        | ef => rw [hkq] at hq'; cases hq'
        | fl j b =>
          rw [hkq] at hq'
          simp only at hq'
          split at hq'
          · rename_i hc'
            injection hq' with hq'
            exact ⟨q, hq, j, b, hkq, hc'.1, hc'.2, hq'.symm⟩
          · cases hq'
      · rintro ⟨q, hq, j, b, hkq, g1, g2, rfl⟩
        refine ⟨q, hq, ?_⟩
        rw [hkq]
        simp only
        rw [if_pos ⟨g1, g2⟩]
    obtain ⟨t', m1, m2⟩ := ex_more g.t L2 fun x hx y hy hxy => by
      obtain ⟨q, hq, j, b, g1, _, _, rfl⟩ := (mem2 x).1 hx
      obtain ⟨q2, hq2, j2, b2, g2, _, _, rfl⟩ := (mem2 y).1 hy
      have : j = j2 := by simp only at hxy; omega
      subst this
      have := hG.fdist q hq q2 hq2 j b b2 g1 g2
      subst this
      rw [g1] at g2; cases g2; rfl
    have split2 : ∀ id, (∃ x ∈ L2, x.1 = id) ∨ ∀ x ∈ L2, x.1 ≠ id := fun id => by
      by_cases hx : ∃ x ∈ L2, x.1 = id
      · exact .inl hx
      · exact .inr fun x h1 h2 => hx ⟨x, h1, h2⟩
    have k3 : Inv S w0 ⟨t', g.n⟩ ρ' w' := by
      refine h7.outer hJ hJn k2 he hle rfl fun id b hb' => ?_
      rcases split2 id with ⟨x, hx, rfl⟩ | hx
      · obtain ⟨q, hq, j, b2, g1, g2, g3, rfl⟩ := (mem2 x).1 hx
        have g3' : j ∉ use ∧ j ∉ jn := ⟨fun h => g3 (List.mem_append_left _ h), fun h => g3 (List.mem_append_right _ h)⟩
        rw [m1 _ hx] at hb'
        injection hb' with hb'
        subst hb'
        refine .inr ⟨h10 q hq j _ g1 g2 g3'.2, ?_, by have := floatlt q hq j _ g1; show base + j < h.n; omega⟩
        cases hgj : (joinF h.t use ps1).get (base + j) with
        | none => rfl
        | some b3 =>
          exfalso
          rcases joinF_get ps1 h.t use _ _ hgj with hg | ⟨p, i1, i2, i3, i4⟩
          · rw [h5 j (floatlt q hq j _ g1) g3'.2] at hg; cases hg
          · obtain ⟨q2, i5, i6, i7, i8⟩ := p1.2 p i1
            have : p.1 = j := by omega
            exact g3'.1 (this ▸ memN_iff.1 i4)
      · rw [m2 id hx] at hb'
        exact .inl hb'
    have hne : ∀ q ∈ all, q.i = r.i → q = r := fun q hq h => hG.uniq q hq r hr' h
    refine ⟨closed_put hs.closed hd, putTmps_defers hs.defers, putTmps_size hs.size, hs.slot.put hG he.ext hs.size hr' hv, hs.ext.trans he (by show base ≤ h.n; omega), fun q hq j' b' hj' hl' => ?_,
      pre ++ mid ++ [r], post, use ++ jn, leftF use ps1, putD fr1 r.o.dst r.v, g, ⟨t', g.n⟩, k, by rw [← eall]; simp, f1.snoc hb.c3, ⟨fun q hq j b hj hn => ?_, fun p hpp => ?_⟩, fun q hq hj => ?_, fun q hq hj hl' => ?_, fun q hq j' b' hj' hm' => ?_, fun q hq hq1 hq2 hq3 => ?_, hnone, by omega, k3, rfl, fun id b hb' => ?_, fun q hq j' b' hj' hl' hn => ?_⟩
    · rw [he.low (base + j') (by have := floatlt q hq j' b' hj'; show base + j' < h.n; omega)]
      exact hs.fresh q hq j' b' hj' fun h => hl' (.inl h)
    · rcases List.mem_append.1 hq with hq | hq
      · exact leftF_mem.2 ⟨p1.1 q hq j b hj fun h => hn (List.mem_append_right _ h), fun h => hn (List.mem_append_left _ h)⟩
      · obtain rfl := List.mem_singleton.1 hq; rw [hk] at hj; cases hj
    · obtain ⟨i1, i2⟩ := leftF_mem.1 hpp
      obtain ⟨q, i3, i4, i5, i6⟩ := p1.2 p i1
      exact ⟨q, List.mem_append_left _ i3, i4, i5, fun h => (List.mem_append.1 h).elim i2 i6⟩
    · rcases List.mem_append.1 hq with hq | hq
      · rcases List.mem_append.1 hq with hq | hq
        · exact .inl (h1 q hq hj)
        · exact absurd hj (hm q hq)
      · obtain rfl := List.mem_singleton.1 hq; exact .inr rfl
    · rcases hl' with hl' | hl'
      · exact h2 q (List.mem_append_right _ (List.mem_cons_of_mem _ hq)) hj hl'
      · exact (k.later q hq r (List.mem_append_right _ (List.mem_singleton.2 rfl))).1 hl'
    · rcases List.mem_append.1 hm' with hm' | hm'
      · exact .inl (usedL q hq j' b' hj' hm')
      · exact .inl (h3 q hq j' b' hj' hm')
    · rcases List.mem_append.1 hq with hq | hq
      · have hnt : ¬ TD ops r.i q.i := fun ht => hq3 (.inl (ht.into hs.closed hd))
        obtain ⟨i1, i2⟩ := hrr q hq hq1 hq2 hnt
        exact ⟨fr1, again q hq i2, i1⟩
      · obtain rfl := List.mem_singleton.1 hq; exact absurd (.inr rfl) hq3
    · rcases split2 id with ⟨x, hx, rfl⟩ | hx
      · obtain ⟨q, hq, j, b2, g1, g2, g3, rfl⟩ := (mem2 x).1 hx
        rw [hnone j (floatlt q hq j _ g1) g3] at hb'; cases hb'
      · show t'.get id = some b
        rw [m2 id hx]; exact hb'
    · rcases hl' with hl' | hl'
      · exact m1 (base + j', b') ((mem2 _).2 ⟨q, hq, j', b', hj', hl', hn, rfl⟩)
      · have := hne q hq hl'
        subst this
        rw [hk] at hj'; cases hj'
end
end
end Go.RE
