import Derived.Test.YtkemmffdiclloaaGreatDoorRa
import Derived.Laws.CopyRow
import Derived.Laws.MakeOwn
import Derived.Great.BuildSlice
import Derived.Lib.FrozenHead
set_option linter.unusedVariables false
set_option linter.unusedSimpArgs false
/- What operations that leave the world alone yield: the model's own words for it. -/
namespace Go.RE
open Go.RowKit
noncomputable section

/-- Types whose values are rows of numbers, compared number by number. -/
def EqOk (P : Program) (eqs : TypeId → Option (List IntKind)) : Prop := ∀ t ks, eqs t = some ks → ∀ (as bs : List Int) (x y : Operand) (w : World), as.length = ks.length → bs.length = ks.length →
  (do eqGuard .eql t x y (.agg (List.zipWith Value.int ks as).toArray) (.agg (List.zipWith Value.int ks bs).toArray); binOp .eql t (.agg (List.zipWith Value.int ks as).toArray) (.agg (List.zipWith Value.int ks bs).toArray) : Sem Value).run P w = .ok (.bool (as == bs)) w ∧
  (do eqGuard .neq t x y (.agg (List.zipWith Value.int ks as).toArray) (.agg (List.zipWith Value.int ks bs).toArray); binOp .neq t (.agg (List.zipWith Value.int ks as).toArray) (.agg (List.zipWith Value.int ks bs).toArray) : Sem Value).run P w = .ok (.bool (!(as == bs))) w
def eqOp (neg : Bool) : BinOp → Bool
  | .eql => !neg
  | .neq => neg
  | _ => false
def chkO : Option Operand → Option AX → Bool
  | none, none => true
  | some o, some x => chkX o x
  | _, _ => false
def chkT (tt : T TypeInfo) (t : TypeId) (p : TypeDesc → Bool) : Bool := match und tt t with
  | some d => p d
  | none => false
def sizIs (tt : T TypeInfo) (t : TypeId) (n : Nat) : Bool := match siz tt t with
  | some m => decide (m = n)
  | none => false
def fieldAt (tt : T TypeInfo) (t : TypeId) (f : Nat) (p : Field → Bool) : Bool := match und tt t with
  | some (.struct fs) => match fs[f]? with
    | some x => p x
    | none => false
  | _ => false
def isNilC : Operand → Bool
  | .const .nilIface => true
  | _ => false
def bltn (b : Builtin) (o : Op) (p : List Operand → List TypeId → Bool) : Bool := match o with
  | .call c => match c.callee with
    | .builtin b' => decide (b = b') && p c.args.toList c.argTypes.toList
    | _ => false
  | _ => false
theorem bltn_ok {b : Builtin} {o : Op} {p : List Operand → List TypeId → Bool} (h : bltn b o p = true) : ∃ args types, o = .call { callee := .builtin b, args := args.toArray, argTypes := types.toArray } ∧ p args types = true := by
  cases o <;> simp only [bltn] at h <;> try (cases h; done)
  rename_i c
  obtain ⟨callee, args, types⟩ := c
  cases callee <;> simp only at h <;> try (cases h; done)
  simp only [Bool.and_eq_true, decide_eq_true_eq] at h
  obtain ⟨rfl, h⟩ := h
  exact ⟨args.toList, types.toList, by simp, h⟩
def two (p : Operand → Operand → Bool) : List Operand → List TypeId → Bool
  | [x, y], _ => p x y
  | _, _ => false
def one (p : Operand → TypeId → Bool) : List Operand → List TypeId → Bool
  | [x], [t] => p x t
  | _, _ => false
theorem two_ok {p : Operand → Operand → Bool} {l : List Operand} {m : List TypeId} (h : two p l m = true) : ∃ x y, l = [x, y] ∧ p x y = true := by
  unfold two at h; split at h
  · exact ⟨_, _, rfl, h⟩
  · cases h
theorem one_ok {p : Operand → TypeId → Bool} {l : List Operand} {m : List TypeId} (h : one p l m = true) : ∃ x t, l = [x] ∧ m = [t] ∧ p x t = true := by
  unfold one at h; split at h
  · exact ⟨_, _, rfl, rfl, h⟩
  · cases h
def chkS (tt : T TypeInfo) (eqs : TypeId → Option (List IntKind)) (o : Op) (s : SOp) : Bool :=
  match s with
  | .mv x => match o with
    | .move y => chkX y x
    | .assign y => chkX y x
    | _ => false
  | .pick c a b => match o with
    | .pick c' a' b' => chkX c' c && chkX a' a && chkX b' b
    | _ => false
  | .bin op x y => match o with
    | .binOp op' _ x' y' _ => decide (op = op') && chkX x' x && chkX y' y
    | _ => false
  | .eqb neg x y => match o with
    | .binOp op t x' y' _ => eqOp neg op && chkT tt t (fun d => d matches .bool) && chkX x' x && chkX y' y
    | _ => false
  | .cmpA ks neg x y => match o with
    | .binOp op t x' y' _ => eqOp neg op && decide (eqs t = some ks) && chkX x' x && chkX y' y
    | _ => false
  | .nilp neg x y => match o with
    | .binOp op t x' y' _ => eqOp neg op && chkT tt t (fun d => match d with | .pointer e => (match siz tt e with | some n => !(Nat.beq n 0) | none => false) | _ => false) && chkX x' x && chkX y' y
    | _ => false
  | .nils neg x y => match o with
    | .binOp op t x' y' _ => eqOp neg op && chkT tt t (fun d => d matches .slice _) && chkX x' x && chkX y' y
    | _ => false
  | .nili neg x y => match o with
    | .binOp op t x' y' _ => eqOp neg op && chkT tt t (fun d => d matches .interface _) && (isNilC x' || isNilC y') && chkX x' x && chkX y' y
    | _ => false
  | .un op x => match o with
    | .unOp op' _ x' => decide (op = op') && chkX x' x
    | _ => false
  | .cvi kd x => match o with
    | .convert s d x' => chkT tt s (fun d => d matches .int _) && chkT tt d (fun e => match e with | .int k => decide (k = kd) | _ => false) && chkX x' x
    | _ => false
  | .cvb x => match o with
    | .convert s d x' => chkT tt s (fun e => match e with | .slice t => chkT tt t (fun d => match d with | .int k => decide (k = .u8) | _ => false) | _ => false) && chkT tt d (fun d => d matches .string) && chkX x' x
    | _ => false
  | .ld1 x => match o with
    | .load t x' => chkT tt t (fun d => !aggD d) && chkX x' x
    | _ => false
  | .ldn n x => match o with
    | .load t x' => chkT tt t aggD && sizIs tt t n && chkX x' x
    | _ => false
  | .nilc x => match o with
    | .nilCheck x' => chkX x' x
    | _ => false
  | .fa off x => match o with
    | .fieldAddr t x' f => fieldAt tt t f (fun y => decide (y.offset = off) && (match siz tt y.type with | some n => !(Nat.beq n 0) | none => false)) && chkX x' x
    | _ => false
  | .fld1 off x => match o with
    | .field t x' f => fieldAt tt t f (fun y => decide (y.offset = off) && chkT tt y.type (fun d => !aggD d)) && chkX x' x
    | _ => false
  | .fldn off n x => match o with
    | .field t x' f => fieldAt tt t f (fun y => decide (y.offset = off) && chkT tt y.type aggD && sizIs tt y.type n) && chkX x' x
    | _ => false
  | .ia z x ix => match o with
    | .indexAddr t x' i' => chkT tt t (fun d => match d with | .slice e => sizIs tt e z | _ => false) && chkX x' x && chkX i' ix
    | _ => false
  | .iaa n z x ix => match o with
    | .indexAddr t x' i' => chkT tt t (fun d => match d with | .array m e => decide (m = n) && sizIs tt e z | _ => false) && chkX x' x && chkX i' ix
    | _ => false
  | .ixs x ix => match o with
    | .index t x' i' => chkT tt t (fun d => d matches .string) && chkX x' x && chkX i' ix
    | _ => false
  | .sls x lo hi => match o with
    | .slice t x' l h none => chkT tt t (fun d => d matches .string) && chkX x' x && chkO l lo && chkO h hi
    | _ => false
  | .slc z x lo hi mx => match o with
    | .slice t x' l h m => chkT tt t (fun d => match d with | .slice e => sizIs tt e z | _ => false) && chkX x' x && chkO l lo && chkO h hi && chkO m mx && (mx.isNone || hi.isSome)
    | _ => false
  | .sla n z x lo hi => match o with
    | .slice t x' l h none => chkT tt t (fun d => match d with | .array m e => decide (m = n) && sizIs tt e z | _ => false) && chkX x' x && chkO l lo && chkO h hi
    | _ => false
  | .mkif t x => match o with
    | .makeInterface t' x' => decide (t = t') && chkT tt t (fun d => match d with | .interface _ => false | _ => true) && chkX x' x
    | _ => false
  | .mkfn fn a b => match o with
    | .makeFunc fn' a' b' => decide (fn = fn') && chkXs a'.toList a && chkXs b'.toList b
    | _ => false
  | .ext x i => match o with
    | .extract x' j => decide (i = j) && chkX x' x
    | _ => false
  | .build zs ps => match o with
    | .build t parts => placeOk tt t && (match zer tt t with | some z => chkVs z.cells.toList zs | none => false) && chkParts tt t parts.toList ps
    | _ => false
  | .len x => bltn .len o (one fun x' t => chkT tt t (fun d => match d with | .slice _ => true | _ => false) && chkX x' x)
  | .lens x => bltn .len o (one fun x' t => chkT tt t (fun d => match d with | .string => true | _ => false) && chkX x' x)
  | .lenm x => bltn .len o (one fun x' t => chkT tt t (fun d => match d with | .map _ _ => true | _ => false) && chkX x' x)
  | .mx x y => bltn .max o (two fun x' y' => chkX x' x && chkX y' y)
  | .mn x y => bltn .min o (two fun x' y' => chkX x' x && chkX y' y)
  | .lkp zero ok m key => match o with
    | .lookup t m' key' ok' => decide (ok = ok') && chkT tt t (fun d => match d with | .map kt et => chkT tt kt (fun e => e matches .int _) && (match zer tt et with | some z => chkV z zero | none => false) | _ => false) && chkX m' m && chkX key' key
    | _ => false
  | .tas t x => match o with
    | .typeAssert x' _ t' true => decide (t = t') && chkT tt t (fun d => match d with | .interface _ => false | _ => true) && chkX x' x
    | _ => false
  | .entry x => match o with
    | .entry x' => chkX x' x
    | _ => false

/-- The operation yields v, and leaves the world alone. -/
def StillS (P : Program) (op : Op) (h : Hp) (fr : T AV) (v : AV) : Prop :=
  ∀ (S : Nat → Prop) (w0 : World) (ρ : M) (a : Act) (w : World) (o : Oper), o.op = op → FRon ρ (ofOp op) fr a → Inv S w0 h ρ w → ∃ v', (execOp a.eval o).run P w = .ok (.value v') w ∧ VR ρ v v'
theorem chkT_ok {P : Program} {tt : T TypeInfo} (hT : TyOk P tt) {t : TypeId} {p : TypeDesc → Bool} (h : chkT tt t p = true) : ∃ d, P.underlying t = some d ∧ p d = true := by
  unfold chkT at h
  split at h
  · exact ⟨_, und_ok hT ‹_›, h⟩
  · cases h
theorem sizIs_ok {P : Program} {tt : T TypeInfo} (hT : TyOk P tt) {t : TypeId} {n : Nat} (h : sizIs tt t n = true) : ∃ i, P.info? t = some i ∧ i.size = n := by
  unfold sizIs at h
  split at h
  · rename_i m hm
    obtain rfl : m = n := by simpa using h
    exact siz_ok hT hm
  · cases h
theorem fieldAt_ok {P : Program} {tt : T TypeInfo} (hT : TyOk P tt) {t : TypeId} {f : Nat} {p : Field → Bool} (h : fieldAt tt t f p = true) : ∃ fs x, P.underlying t = some (.struct fs) ∧ fs[f]? = some x ∧ p x = true := by
  unfold fieldAt at h
  split at h
  · rename_i fs hu
    split at h
    · exact ⟨fs, _, und_ok hT hu, ‹_›, h⟩
    · cases h
  · cases h
theorem evo_ok {fr : T AV} {x : Option AX} {d : Nat} {k : Nat → Bool} (h : evo fr x d k = true) : ∃ n, k n = true ∧ ((x = none ∧ n = d) ∨ ∃ y kd, x = some y ∧ y.val fr = some (.i kd (n : Int))) := by
  cases x with
  | none => exact ⟨d, h, .inl ⟨rfl, rfl⟩⟩
  | some y =>
    obtain ⟨v, h1, h⟩ := ev_val h
    obtain ⟨kd, n, rfl, h⟩ := asN_ok h
    exact ⟨n, h, .inr ⟨y, kd, rfl, h1⟩⟩
theorem bytesOf_ok : ∀ {vs : List AV} {k : List Nat → Bool}, bytesOf vs k = true → ∃ l : List UInt8, k (l.map UInt8.toNat) = true ∧ vs = l.map fun b => .i .u8 (b.toNat : Int) := by
  intro vs
  induction vs with
  | nil => intro k h; exact ⟨[], h, rfl⟩
  | cons v vs ih =>
    intro k h
    obtain ⟨kd, n, rfl, h⟩ := asI_ok h
    cases n with
    | negSucc m => cases h
    | ofNat m =>
      have h' : (bif (kEq kd .u8 && Nat.blt m 256) then bytesOf vs (fun l => k (m :: l)) else false) = true := h
      obtain ⟨hb, h3⟩ := bif_t h'
      simp only [Bool.and_eq_true, Nat.blt_eq] at hb
      have hk := kEq_eq hb.1
      subst hk
      obtain ⟨l, h1, rfl⟩ := ih h3
      have : (UInt8.ofNat m).toNat = m := by simp; omega
      refine ⟨UInt8.ofNat m :: l, ?_, ?_⟩
      · rw [List.map_cons, this]; exact h1
      · rw [List.map_cons, this]; rfl
section
variable {P : Program} {tt : T TypeInfo} {eqs : TypeId → Option (List IntKind)} {h : Hp} {fr : T AV} {k : AV → Bool} {op : Op}
theorem ofOp_mem {op : Op} {o : Operand} (h : o ∈ op.operands) : ∀ t, o = .tmp t → ofOp op t := fun t e => by subst e; exact h
theorem s_mv {x : AX} (hc : chkS tt eqs op (.mv x) = true) (e : sop h fr (.mv x) k = true) : ∃ v, k v = true ∧ StillS P op h fr v := by
  obtain ⟨v, hv, e'⟩ := ev_val e
  clear e
  have e := e'
  clear e'
  refine ⟨v, e, fun S w0 ρ a w o ho hF _ => ?_⟩
  cases op <;> simp only [chkS] at hc <;> try (cases hc; done)
  all_goals exact ⟨_, by simp [execOp, ho], hF.val hc hv (ofOp_mem (by simp [Op.operands]))⟩
theorem s_pick {c a b : AX} (hc : chkS tt eqs op (.pick c a b) = true) (e : sop h fr (.pick c a b) k = true) : ∃ v, k v = true ∧ StillS P op h fr v := by
  obtain ⟨v, hv, e'⟩ := ev_val e
  clear e
  have e := e'
  clear e'
  cases v <;> try (cases e; done)
  rename_i t
  cases op <;> simp only [chkS] at hc <;> try (cases hc; done)
  rename_i c' a' b'
  simp only [Bool.and_eq_true] at hc
  have key : ∀ (S : Nat → Prop) (w0 : World) (ρ : M) (ac : Act) (w : World) (o : Oper), o.op = .pick c' a' b' → FRon ρ (ofOp (.pick c' a' b')) fr ac →
      (execOp ac.eval o).run P w = .ok (.value (if t then ac.eval a' else ac.eval b')) w := fun S w0 ρ ac w o ho hF => by
    have h1 := (hF.val hc.1.1 hv (ofOp_mem (by simp [Op.operands]))).inv_b
    simp [execOp, ho, h1, asBool]
  cases t
  · obtain ⟨v, hv2, e'⟩ := ev_val e
    clear e
    have e := e'
    clear e'
    exact ⟨v, e, fun S w0 ρ ac w o ho hF _ => ⟨_, key S w0 ρ ac w o ho hF, hF.val hc.2 hv2 (ofOp_mem (by simp [Op.operands]))⟩⟩
  · obtain ⟨v, hv2, e'⟩ := ev_val e
    clear e
    have e := e'
    clear e'
    exact ⟨v, e, fun S w0 ρ ac w o ho hF _ => ⟨_, key S w0 ρ ac w o ho hF, hF.val hc.1.2 hv2 (ofOp_mem (by simp [Op.operands]))⟩⟩
theorem s_bin {bop : BinOp} {x y : AX} (hc : chkS tt eqs op (.bin bop x y) = true) (e : sop h fr (.bin bop x y) k = true) : ∃ v, k v = true ∧ StillS P op h fr v := by
  obtain ⟨u, hu, e'⟩ := ev_val e
  clear e
  have e := e'
  clear e'
  obtain ⟨v, hv, e'⟩ := ev_val e
  clear e
  have e := e'
  clear e'
  cases op <;> simp only [chkS] at hc <;> try (cases hc; done)
  rename_i bop' t x' y' t'
  simp only [Bool.and_eq_true, decide_eq_true_eq] at hc
  obtain ⟨⟨rfl, h1⟩, h2⟩ := hc
  cases u <;> try (cases e; done)
  · rename_i kd a
    cases v <;> try (cases e; done)
    rename_i k' b
    by_cases hs : bop = .shl ∨ bop = .shr
    · have e' : binI bop kd a b k = true := by rcases hs with rfl | rfl <;> exact e
      obtain ⟨v, hk, hrun⟩ := binI_ok (P := P) e'
      refine ⟨v, hk, fun S w0 ρ ac w o ho hF _ => ?_⟩
      have i1 := (hF.val h1 hu (ofOp_mem (by simp [Op.operands]))).inv_i
      have i2 := (hF.val h2 hv (ofOp_mem (by simp [Op.operands]))).inv_i
      obtain ⟨v', hr, hv'⟩ := hrun t ρ w
      refine ⟨v', ?_, hv'⟩
      have : binOp bop t (.int kd a) (.int k' b) = binOp bop t (.int kd a) (.int kd b) := by rcases hs with rfl | rfl <;> rfl
      have g : (eqGuard bop t x' y' (.int kd a) (.int k' b)).run P w = .ok () w := by rcases hs with rfl | rfl <;> rfl
      simp [execOp, ho, i1, i2, g, this, hr]
    · have e' : (bif kEq kd k' then binI bop kd a b k else false) = true := by
        cases bop <;> first | exact e | (exfalso; exact hs (by simp))
      obtain ⟨hk', e2⟩ := bif_t e'
      have hkk := kEq_eq hk'
      subst hkk
      obtain ⟨v, hk, hrun⟩ := binI_ok (P := P) e2
      refine ⟨v, hk, fun S w0 ρ ac w o ho hF _ => ?_⟩
      have i1 := (hF.val h1 hu (ofOp_mem (by simp [Op.operands]))).inv_i
      have i2 := (hF.val h2 hv (ofOp_mem (by simp [Op.operands]))).inv_i
      obtain ⟨v', hr, hv'⟩ := hrun t ρ w
      refine ⟨v', ?_, hv'⟩
      have g : (eqGuard bop t x' y' (.int kd a) (.int kd b)).run P w = .ok () w := by cases bop <;> rfl
      simp [execOp, ho, i1, i2, g, hr]
  · rename_i a
    cases v <;> try (cases e; done)
    rename_i b
    obtain ⟨v, hk, hrun⟩ := binS_ok (P := P) e
    refine ⟨v, hk, fun S w0 ρ ac w o ho hF _ => ?_⟩
    obtain ⟨s1, i1, j1⟩ := (hF.val h1 hu (ofOp_mem (by simp [Op.operands]))).inv_s
    obtain ⟨s2, i2, j2⟩ := (hF.val h2 hv (ofOp_mem (by simp [Op.operands]))).inv_s
    obtain ⟨v', hr, hv'⟩ := hrun t ρ w s1 s2 j1 j2
    refine ⟨v', ?_, hv'⟩
    have g : (eqGuard bop t x' y' (.string s1) (.string s2)).run P w = .ok () w := by cases bop <;> rfl
    simp [execOp, ho, i1, i2, g, hr]
theorem eqOp_cases {neg : Bool} {op : BinOp} (h : eqOp neg op = true) : (neg = false ∧ op = .eql) ∨ (neg = true ∧ op = .neq) := by
  cases op <;> simp [eqOp] at h <;> simp [h]
theorem eqn_bool (n : Nat) {t : TypeId} {a b : Bool} {w : World} (hd : P.underlying t = some .bool) : (Op.equalIn (n + 1) t (.bool a) (.bool b)).run P w = .ok (a == b) w := by
  rw [Op.equalIn]
  simp only [Sem.run_bind, run_und hd, Result.andThen_ok, Sem.run_pure]
theorem s_eqb {neg : Bool} {x y : AX} (hT : TyOk P tt) (hc : chkS tt eqs op (.eqb neg x y) = true) (e : sop h fr (.eqb neg x y) k = true) : ∃ v, k v = true ∧ StillS P op h fr v := by
  obtain ⟨u, hu, e'⟩ := ev_val e
  clear e
  have e := e'
  clear e'
  obtain ⟨v, hv, e'⟩ := ev_val e
  clear e
  have e := e'
  clear e'
  cases op <;> simp only [chkS] at hc <;> try (cases hc; done)
  rename_i bop t x' y' t'
  simp only [Bool.and_eq_true] at hc
  obtain ⟨⟨⟨h0, ht⟩, h1⟩, h2⟩ := hc
  obtain ⟨d, hd, hp⟩ := chkT_ok hT ht
  cases d <;> simp at hp
  cases u <;> try (cases e; done)
  cases v <;> try (cases e; done)
  rename_i a b
  refine ⟨_, e, fun S w0 ρ ac w o ho hF _ => ?_⟩
  have i1 := (hF.val h1 hu (ofOp_mem (by simp [Op.operands]))).inv_b
  have i2 := (hF.val h2 hv (ofOp_mem (by simp [Op.operands]))).inv_b
  have heq : (Op.equal t (.bool a) (.bool b)).run P w = .ok (a == b) w := eqn_bool 9999 hd
  rcases eqOp_cases h0 with ⟨rfl, rfl⟩ | ⟨rfl, rfl⟩
  · exact ⟨.bool (a == b), by simp [execOp, ho, i1, i2, eqGuard, binOp, heq], .b _⟩
  · exact ⟨.bool (!(a == b)), by simp [execOp, ho, i1, i2, eqGuard, binOp, heq], .b _⟩
theorem eqL_ok : ∀ {ks : List IntKind} {us vs : List AV} {k : Bool → Bool}, eqL ks us vs k = true → ∃ as bs : List Int, as.length = ks.length ∧ bs.length = ks.length ∧ us = List.zipWith AV.i ks as ∧ vs = List.zipWith AV.i ks bs ∧ k (as == bs) = true := by
  intro ks
  induction ks with
  | nil =>
    intro us vs k e
    cases us <;> cases vs <;> try (cases e; done)
    exact ⟨[], [], rfl, rfl, rfl, rfl, e⟩
  | cons kd ks ih =>
    intro us vs k e
    cases us <;> cases vs <;> try (cases e; done)
    rename_i u us v vs
    obtain ⟨ka, n, rfl, e1⟩ := asI_ok e
    obtain ⟨kb, m, rfl, e2⟩ := asI_ok e1
    obtain ⟨hb, e3⟩ := bif_t e2
    simp only [Bool.and_eq_true] at hb
    have q1 := kEq_eq hb.1
    have q2 := kEq_eq hb.2
    subst q1
    subst q2
    obtain ⟨as, bs, h1, h2, rfl, rfl, h3⟩ := ih e3
    exact ⟨n :: as, m :: bs, by simp [h1], by simp [h2], by simp, by simp, by simpa [iEq_eq, List.cons_beq_cons] using h3⟩
theorem VRs.ints {ρ : M} {ks : List IntKind} : ∀ {as : List Int} {l : List Value}, as.length = ks.length → VRs ρ (List.zipWith AV.i ks as) l → l = List.zipWith Value.int ks as := by
  induction ks with
  | nil => intro as l h hr; exact hr.inv_nil
  | cons kd ks ih =>
    intro as l h hr
    cases as with
    | nil => simp at h
    | cons a as =>
      obtain ⟨v, vs, rfl, h1, h2⟩ := hr.inv_cons
      rw [h1.inv_i, ih (by simpa using h) h2]
      rfl
theorem s_cmpA {ks : List IntKind} {neg : Bool} {x y : AX} (hE : EqOk P eqs) (hc : chkS tt eqs op (.cmpA ks neg x y) = true) (e : sop h fr (.cmpA ks neg x y) k = true) : ∃ v, k v = true ∧ StillS P op h fr v := by
  obtain ⟨u, hu, e1⟩ := ev_val e
  obtain ⟨v, hv, e2⟩ := ev_val e1
  clear e e1
  cases op <;> simp only [chkS] at hc <;> try (cases hc; done)
  rename_i bop t x' y' t'
  simp only [Bool.and_eq_true, decide_eq_true_eq] at hc
  obtain ⟨⟨⟨h0, ht⟩, h1⟩, h2⟩ := hc
  cases u <;> try (cases e2; done)
  cases v <;> try (cases e2; done)
  rename_i us vs
  obtain ⟨as, bs, l1, l2, rfl, rfl, e3⟩ := eqL_ok e2
  refine ⟨_, e3, fun S w0 ρ ac w o ho hF _ => ?_⟩
  obtain ⟨xs, i1, j1⟩ := (hF.val h1 hu (ofOp_mem (by simp [Op.operands]))).inv_ag
  obtain ⟨ys, i2, j2⟩ := (hF.val h2 hv (ofOp_mem (by simp [Op.operands]))).inv_ag
  rw [j1.ints l1] at i1
  rw [j2.ints l2] at i2
  obtain ⟨q1, q2⟩ := hE t ks ht as bs x' y' w l1 l2
  rcases eqOp_cases h0 with ⟨rfl, rfl⟩ | ⟨rfl, rfl⟩
  · exact ⟨.bool (as == bs), by simp only [execOp, ho, i1, i2]; rw [Sem.run_bind, q1]; rfl, .b _⟩
  · exact ⟨.bool (!(as == bs)), by simp only [execOp, ho, i1, i2]; rw [Sem.run_bind, q2]; rfl, .b _⟩
theorem eqn_ptr (n : Nat) {t e : TypeId} {w : World} (hd : P.underlying t = some (.pointer e)) :
    (∀ b, (Op.equalIn (n + 1) t (.pointer none) (.pointer b)).run P w = .ok b.isNone w) ∧ (∀ a, (Op.equalIn (n + 1) t (.pointer (some a)) (.pointer none)).run P w = .ok false w) := by
  constructor
  · intro b; rw [Op.equalIn]; simp only [Sem.run_bind, run_und hd, Result.andThen_ok, Sem.run_pure]
  · intro a; rw [Op.equalIn]; simp only [Sem.run_bind, run_und hd, Result.andThen_ok, Sem.run_pure]
theorem eqn_same (n m : Nat) {t e : TypeId} {w : World} {a : Addr} (hd : P.underlying t = some (.pointer e)) (hs : ∃ i, P.info? e = some i ∧ i.size = m) (hm : m ≠ 0) :
    (Op.equalIn (n + 1) t (.pointer (some a)) (.pointer (some a))).run P w = .ok true w := by
  rw [Op.equalIn]
  simp only [Sem.run_bind, run_und hd, Result.andThen_ok, run_siz hs, hm, ne_eq, not_false_eq_true, if_true, sameAddr, beq_self_eq_true, Sem.run_pure]
theorem s_nilp {neg : Bool} {x y : AX} (hT : TyOk P tt) (hc : chkS tt eqs op (.nilp neg x y) = true) (e : sop h fr (.nilp neg x y) k = true) : ∃ v, k v = true ∧ StillS P op h fr v := by
  obtain ⟨u, hu, e1⟩ := ev_val e
  obtain ⟨v, hv, e2⟩ := ev_val e1
  clear e e1
  cases op <;> simp only [chkS] at hc <;> try (cases hc; done)
  rename_i bop t x' y' t'
  simp only [Bool.and_eq_true] at hc
  obtain ⟨⟨⟨h0, ht⟩, h1⟩, h2⟩ := hc
  obtain ⟨d, hd, hp⟩ := chkT_ok hT ht
  cases d <;> try (cases hp; done)
  rename_i el
  have fin : ∀ (r : Bool) (u' v' : Value) (w : World) (ac : Act) (o : Oper), o.op = .binOp bop t x' y' t' → ac.eval x' = u' → ac.eval y' = v' → (∃ a, u' = .pointer a) → (Op.equalIn (9999 + 1) t u' v').run P w = .ok r w →
      (∃ b, v' = .pointer b) → (execOp ac.eval o).run P w = .ok (.value (.bool (bif neg then !r else r))) w := fun r u' v' w ac o ho i1 i2 ha hr hb => by
    obtain ⟨a, rfl⟩ := ha
    obtain ⟨b, rfl⟩ := hb
    have heq : (Op.equal t (.pointer a) (.pointer b)).run P w = .ok r w := hr
    rcases eqOp_cases h0 with ⟨rfl, rfl⟩ | ⟨rfl, rfl⟩
    · simp [execOp, ho, i1, i2, eqGuard, binOp, heq]
    · simp [execOp, ho, i1, i2, eqGuard, binOp, heq]
  cases u <;> try (cases e2; done)
  · cases v <;> try (cases e2; done)
    · refine ⟨_, e2, fun S w0 ρ ac w o ho hF _ => ⟨_, fin true _ _ w ac o ho (hF.val h1 hu (ofOp_mem (by simp [Op.operands]))).inv_pn (hF.val h2 hv (ofOp_mem (by simp [Op.operands]))).inv_pn ⟨_, rfl⟩ ((eqn_ptr 9999 hd).1 none) ⟨_, rfl⟩, ?_⟩⟩
      cases neg <;> exact .b _
    · refine ⟨_, e2, fun S w0 ρ ac w o ho hF _ => ?_⟩
      obtain ⟨q, hq, i2⟩ := (hF.val h2 hv (ofOp_mem (by simp [Op.operands]))).inv_p
      refine ⟨_, fin false _ _ w ac o ho (hF.val h1 hu (ofOp_mem (by simp [Op.operands]))).inv_pn i2 ⟨_, rfl⟩ ((eqn_ptr 9999 hd).1 (some _)) ⟨_, rfl⟩, ?_⟩
      cases neg <;> exact .b _
  · cases v <;> try (cases e2; done)
    · refine ⟨_, e2, fun S w0 ρ ac w o ho hF _ => ?_⟩
      obtain ⟨q, hq, i1⟩ := (hF.val h1 hu (ofOp_mem (by simp [Op.operands]))).inv_p
      refine ⟨_, fin false _ _ w ac o ho i1 (hF.val h2 hv (ofOp_mem (by simp [Op.operands]))).inv_pn ⟨_, rfl⟩ ((eqn_ptr 9999 hd).2 _) ⟨_, rfl⟩, ?_⟩
      cases neg <;> exact .b _
    · rename_i id o id' o'
      obtain ⟨hb, e3⟩ := bif_t e2
      simp only [Bool.and_eq_true, Nat.beq_eq] at hb
      obtain ⟨rfl, rfl⟩ := hb
      refine ⟨_, e3, fun S w0 ρ ac w o ho hF _ => ?_⟩
      obtain ⟨q, hq, i1⟩ := (hF.val h1 hu (ofOp_mem (by simp [Op.operands]))).inv_p
      obtain ⟨q', hq', i2⟩ := (hF.val h2 hv (ofOp_mem (by simp [Op.operands]))).inv_p
      rw [hq] at hq'; injection hq' with hq'; subst hq'
      have hs : ∃ m, siz tt el = some m ∧ m ≠ 0 := by
        simp only at hp
        split at hp
        · rename_i m hm
          exact ⟨m, hm, fun e => by subst e; cases hp⟩
        · cases hp
      obtain ⟨m, hs, hm⟩ := hs
      refine ⟨_, fin true _ _ w ac o ho i1 i2 ⟨_, rfl⟩ (eqn_same 9999 m hd (siz_ok hT hs) hm) ⟨_, rfl⟩, ?_⟩
      cases neg <;> exact .b _
theorem eqn_slice (n : Nat) {t e : TypeId} {w : World} (hd : P.underlying t = some (.slice e)) :
    (∀ a b l m c d, (Op.equalIn (n + 1) t (.slice a l c) (.slice b m d)).run P w = (if a.isNone then .ok b.isNone w else if b.isNone then .ok false w else (Op.equalIn (n + 1) t (.slice a l c) (.slice b m d)).run P w)) := by
  intro a b l m c d
  cases a with
  | none => rw [Op.equalIn]; simp only [Sem.run_bind, run_und hd, Result.andThen_ok, Sem.run_pure]; rfl
  | some a =>
    cases b with
    | none => rw [Op.equalIn]; simp only [Sem.run_bind, run_und hd, Result.andThen_ok, Sem.run_pure]; rfl
    | some b => rfl
theorem s_nils {neg : Bool} {x y : AX} (hT : TyOk P tt) (hc : chkS tt eqs op (.nils neg x y) = true) (e : sop h fr (.nils neg x y) k = true) : ∃ v, k v = true ∧ StillS P op h fr v := by
  obtain ⟨u, hu, e1⟩ := ev_val e
  obtain ⟨v, hv, e2⟩ := ev_val e1
  clear e e1
  cases op <;> simp only [chkS] at hc <;> try (cases hc; done)
  rename_i bop t x' y' t'
  simp only [Bool.and_eq_true] at hc
  obtain ⟨⟨⟨h0, ht⟩, h1⟩, h2⟩ := hc
  obtain ⟨d, hd, hp⟩ := chkT_ok hT ht
  cases d <;> simp at hp
  have fin : ∀ (r : Bool) (a b : Option Addr) (l m c d : Nat) (w : World) (ac : Act) (o : Oper), o.op = .binOp bop t x' y' t' → ac.eval x' = .slice a l c → ac.eval y' = .slice b m d → (Op.equalIn (9999 + 1) t (.slice a l c) (.slice b m d)).run P w = .ok r w →
      (execOp ac.eval o).run P w = .ok (.value (.bool (bif neg then !r else r))) w := fun r a b l m c d w ac o ho i1 i2 hr => by
    have heq : (Op.equal t (.slice a l c) (.slice b m d)).run P w = .ok r w := hr
    rcases eqOp_cases h0 with ⟨rfl, rfl⟩ | ⟨rfl, rfl⟩
    · simp [execOp, ho, i1, i2, eqGuard, binOp, heq]
    · simp [execOp, ho, i1, i2, eqGuard, binOp, heq]
  cases u <;> try (cases e2; done)
  · cases v <;> try (cases e2; done)
    · refine ⟨_, e2, fun S w0 ρ ac w o ho hF _ => ⟨_, fin true _ _ _ _ _ _ w ac o ho (hF.val h1 hu (ofOp_mem (by simp [Op.operands]))).inv_sn (hF.val h2 hv (ofOp_mem (by simp [Op.operands]))).inv_sn (by rw [eqn_slice 9999 hd]; rfl), ?_⟩⟩
      cases neg <;> exact .b _
    · refine ⟨_, e2, fun S w0 ρ ac w o ho hF _ => ?_⟩
      obtain ⟨q, ad, cap', _, i2, _⟩ := (hF.val h2 hv (ofOp_mem (by simp [Op.operands]))).inv_sl
      refine ⟨_, fin false _ _ _ _ _ _ w ac o ho (hF.val h1 hu (ofOp_mem (by simp [Op.operands]))).inv_sn i2 (by rw [eqn_slice 9999 hd]; rfl), ?_⟩
      cases neg <;> exact .b _
  · cases v <;> try (cases e2; done)
    refine ⟨_, e2, fun S w0 ρ ac w o ho hF _ => ?_⟩
    obtain ⟨q, ad, cap', _, i1, _⟩ := (hF.val h1 hu (ofOp_mem (by simp [Op.operands]))).inv_sl
    refine ⟨_, fin false _ _ _ _ _ _ w ac o ho i1 (hF.val h2 hv (ofOp_mem (by simp [Op.operands]))).inv_sn (by rw [eqn_slice 9999 hd]; rfl), ?_⟩
    cases neg <;> exact .b _
theorem eqn_iface (n : Nat) {t : TypeId} {ms : Array (String × TypeId)} {w : World} (hd : P.underlying t = some (.interface ms)) :
    (Op.equalIn (n + 1) t .nilIface .nilIface).run P w = .ok true w ∧ (∀ s v, (Op.equalIn (n + 1) t (.iface s v) .nilIface).run P w = .ok false w) ∧ (∀ s v, (Op.equalIn (n + 1) t .nilIface (.iface s v)).run P w = .ok false w) := by
  refine ⟨?_, fun s v => ?_, fun s v => ?_⟩ <;> (rw [Op.equalIn]; simp only [Sem.run_bind, run_und hd, Result.andThen_ok, Sem.run_pure])
theorem s_nili {neg : Bool} {x y : AX} (hT : TyOk P tt) (hc : chkS tt eqs op (.nili neg x y) = true) (e : sop h fr (.nili neg x y) k = true) : ∃ v, k v = true ∧ StillS P op h fr v := by
  obtain ⟨u, hu, e1⟩ := ev_val e
  obtain ⟨v, hv, e2⟩ := ev_val e1
  clear e e1
  cases op <;> simp only [chkS] at hc <;> try (cases hc; done)
  rename_i bop t x' y' t'
  simp only [Bool.and_eq_true] at hc
  obtain ⟨⟨⟨⟨h0, ht⟩, hn⟩, h1⟩, h2⟩ := hc
  obtain ⟨d, hd, hp⟩ := chkT_ok hT ht
  cases d <;> simp at hp
  have hcst : (∃ c, x' = .const c) ∨ ∃ c, y' = .const c := by
    rw [Bool.or_eq_true] at hn
    rcases hn with hn | hn
    · unfold isNilC at hn; split at hn
      · exact .inl ⟨_, rfl⟩
      · cases hn
    · unfold isNilC at hn; split at hn
      · exact .inr ⟨_, rfl⟩
      · cases hn
  have fin : ∀ (r : Bool) (u' v' : Value) (w : World) (ac : Act) (o : Oper), o.op = .binOp bop t x' y' t' → ac.eval x' = u' → ac.eval y' = v' → (Op.equalIn (9999 + 1) t u' v').run P w = .ok r w → (u' = .nilIface ∨ ∃ s v, u' = .iface s v) → (v' = .nilIface ∨ ∃ s v, v' = .iface s v) →
      (execOp ac.eval o).run P w = .ok (.value (.bool (bif neg then !r else r))) w := fun r u' v' w ac o ho i1 i2 hr hu' hv' => by
    have heq : (Op.equal t u' v').run P w = .ok r w := hr
    have g : ∀ b, b = .eql ∨ b = .neq → (eqGuard b t x' y' u' v').run P w = .ok () w := fun b hb => by
      have hb' : (!(b matches .eql | .neq)) = false := by rcases hb with rfl | rfl <;> rfl
      rcases hu' with rfl | ⟨s, v, rfl⟩ <;> rcases hv' with rfl | ⟨s', v', rfl⟩ <;> rcases hb with rfl | rfl <;> first
        | rfl
        | (rcases hcst with ⟨c, rfl⟩ | ⟨c, rfl⟩ <;> first | rfl | (cases x' <;> rfl))
    have g2 : binOp .eql t u' v' = (do pure (.bool (← Op.equal t u' v'))) ∧ binOp .neq t u' v' = (do pure (.bool (!(← Op.equal t u' v')))) := by
      rcases hu' with rfl | ⟨s, v, rfl⟩ <;> rcases hv' with rfl | ⟨s', v', rfl⟩ <;> exact ⟨rfl, rfl⟩
    rcases eqOp_cases h0 with ⟨rfl, rfl⟩ | ⟨rfl, rfl⟩
    · simp only [execOp, ho, i1, i2]
      rw [Sem.run_bind, Sem.run_bind, g .eql (.inl rfl), Result.andThen_ok, g2.1, Sem.run_bind, heq]
      rfl
    · simp only [execOp, ho, i1, i2]
      rw [Sem.run_bind, Sem.run_bind, g .neq (.inr rfl), Result.andThen_ok, g2.2, Sem.run_bind, heq]
      rfl
  cases u <;> try (cases e2; done)
  · cases v <;> try (cases e2; done)
    refine ⟨_, e2, fun S w0 ρ ac w o ho hF _ => ?_⟩
    obtain ⟨s, i1, _⟩ := (hF.val h1 hu (ofOp_mem (by simp [Op.operands]))).inv_ifc
    refine ⟨_, fin false _ _ w ac o ho i1 (hF.val h2 hv (ofOp_mem (by simp [Op.operands]))).inv_nif ((eqn_iface 9999 hd).2.1 _ _) (.inr ⟨_, _, rfl⟩) (.inl rfl), ?_⟩
    cases neg <;> exact .b _
  · cases v <;> try (cases e2; done)
    · refine ⟨_, e2, fun S w0 ρ ac w o ho hF _ => ?_⟩
      obtain ⟨s, i2, _⟩ := (hF.val h2 hv (ofOp_mem (by simp [Op.operands]))).inv_ifc
      refine ⟨_, fin false _ _ w ac o ho (hF.val h1 hu (ofOp_mem (by simp [Op.operands]))).inv_nif i2 ((eqn_iface 9999 hd).2.2 _ _) (.inl rfl) (.inr ⟨_, _, rfl⟩), ?_⟩
      cases neg <;> exact .b _
    · refine ⟨_, e2, fun S w0 ρ ac w o ho hF _ => ⟨_, fin true _ _ w ac o ho (hF.val h1 hu (ofOp_mem (by simp [Op.operands]))).inv_nif (hF.val h2 hv (ofOp_mem (by simp [Op.operands]))).inv_nif (eqn_iface 9999 hd).1 (.inl rfl) (.inl rfl), ?_⟩⟩
      cases neg <;> exact .b _
theorem s_un {uop : UnOp} {x : AX} (hc : chkS tt eqs op (.un uop x) = true) (e : sop h fr (.un uop x) k = true) : ∃ v, k v = true ∧ StillS P op h fr v := by
  obtain ⟨u, hu, e1⟩ := ev_val e
  clear e
  cases op <;> simp only [chkS] at hc <;> try (cases hc; done)
  rename_i uop' t x'
  simp only [Bool.and_eq_true, decide_eq_true_eq] at hc
  obtain ⟨rfl, h1⟩ := hc
  cases uop <;> cases u <;> try (cases e1; done)
  · refine ⟨_, e1, fun S w0 ρ ac w o ho hF _ => ⟨_, ?_, .i _ _⟩⟩
    have i1 := (hF.val h1 hu (ofOp_mem (by simp [Op.operands]))).inv_i
    rw [wr_eq]
    simp [execOp, ho, i1, Op.unary, Op.intArith]
  · refine ⟨_, e1, fun S w0 ρ ac w o ho hF _ => ⟨_, ?_, .i _ _⟩⟩
    have i1 := (hF.val h1 hu (ofOp_mem (by simp [Op.operands]))).inv_i
    rw [wr_eq]
    simp [execOp, ho, i1, Op.unary, Op.intBits]
  · refine ⟨_, e1, fun S w0 ρ ac w o ho hF _ => ⟨_, ?_, .b _⟩⟩
    have i1 := (hF.val h1 hu (ofOp_mem (by simp [Op.operands]))).inv_b
    simp [execOp, ho, i1, Op.unary]
theorem s_cvi {kd : IntKind} {x : AX} (hT : TyOk P tt) (hc : chkS tt eqs op (.cvi kd x) = true) (e : sop h fr (.cvi kd x) k = true) : ∃ v, k v = true ∧ StillS P op h fr v := by
  obtain ⟨u, hu, e1⟩ := ev_val e
  obtain ⟨k0, n, rfl, e2⟩ := asI_ok e1
  clear e e1
  cases op <;> simp only [chkS] at hc <;> try (cases hc; done)
  rename_i s d x'
  simp only [Bool.and_eq_true] at hc
  obtain ⟨⟨cs, cd⟩, h1⟩ := hc
  obtain ⟨sd, hs, hp⟩ := chkT_ok hT cs
  obtain ⟨dd, hd, hq⟩ := chkT_ok hT cd
  cases dd <;> simp at hq
  cases sd <;> simp at hp
  subst hq
  refine ⟨_, e2, fun S w0 ρ ac w o ho hF _ => ⟨_, ?_, .i _ _⟩⟩
  have i1 := (hF.val h1 hu (ofOp_mem (by simp [Op.operands]))).inv_i
  rw [wr_eq]
  simp [execOp, ho, i1, convert, run_und hs, run_und hd, Conv.intToInt]
theorem str_loop {w : World} (f : Value → ByteArray → Sem (ForInStep ByteArray)) (hf : ∀ (b : UInt8) s, f (.int .u8 (b.toNat : Int)) s = pure (.yield (s.push (UInt8.ofNat ((b.toNat : Int)).toNat)))) : ∀ (l : List UInt8) (s : ByteArray),
    (forIn (l.map fun b => Value.int .u8 (b.toNat : Int)).toArray s f : Sem ByteArray).run P w = .ok ⟨s.data ++ l.toArray⟩ w := by
  intro l
  induction l with
  | nil => intro s; simp
  | cons b l ih =>
    intro s
    have := ih (s.push b)
    simp only [List.forIn_toArray] at this ⊢
    rw [List.map_cons, List.forIn_cons, hf]
    simp only [Sem.run_bind, Sem.run_pure, Result.andThen_ok, Int.toNat_natCast, UInt8.ofNat_toNat]
    rw [this]
    simp [ByteArray.push]
theorem s_cvb {x : AX} (hT : TyOk P tt) (hc : chkS tt eqs op (.cvb x) = true) (e : sop h fr (.cvb x) k = true) : ∃ v, k v = true ∧ StillS P op h fr v := by
  obtain ⟨u, hu, e1⟩ := ev_val e
  clear e
  cases op <;> simp only [chkS] at hc <;> try (cases hc; done)
  rename_i s d x'
  simp only [Bool.and_eq_true] at hc
  obtain ⟨⟨cs, cd⟩, h1⟩ := hc
  obtain ⟨sd, hs, hp⟩ := chkT_ok hT cs
  obtain ⟨dd, hd, hq⟩ := chkT_ok hT cd
  cases dd <;> simp at hq
  cases sd <;> simp only at hp <;> try (cases hp; done)
  rename_i el
  obtain ⟨ed, he, hr⟩ := chkT_ok hT hp
  cases ed <;> simp at hr
  subst hr
  cases u <;> try (cases e1; done)
  · refine ⟨_, e1, fun S w0 ρ ac w o ho hF _ => ⟨.string .empty, ?_, .s _ _ rfl⟩⟩
    have i1 := (hF.val h1 hu (ofOp_mem (by simp [Op.operands]))).inv_sn
    simp [execOp, ho, i1, convert, run_und hs, run_und hd, run_und he, Conv.bytesToString]
  · rename_i id off n cap ex z
    obtain ⟨c, lim, hg, e2⟩ := rdC_ok e1
    obtain ⟨vs, hl, hv, e3⟩ := rdn_ok e2
    obtain ⟨l, e4, rfl⟩ := bytesOf_ok e3
    refine ⟨_, e4, fun S w0 ρ ac w o ho hF hI => ⟨.string ⟨l.toArray⟩, ?_, .s _ _ (by simp)⟩⟩
    obtain ⟨q, ad, cap', hq, i1, q1, q2, q3, q4, q0, q5⟩ := (hF.val h1 hu (ofOp_mem (by simp [Op.operands]))).inv_sl
    obtain ⟨q', cs, et, fz, hq', hw, hr⟩ := hI.cells hg
    rw [hq] at hq'; injection hq' with hq'; subst hq'
    have hload : (loadCells ad n).run P w = .ok (l.map fun b => Value.int .u8 (b.toNat : Int)).toArray w := by
      rcases q5 with h0 | ⟨rfl, _⟩
      · have hn : n = 0 := by omega
        subst hn
        have : l = [] := by simpa using hl
        subst this
        simp [loadCells, loadCellsFrom]
      · obtain ⟨us, h3, h4⟩ := hr.load (P := P) hw hl hv
        rw [h4]
        congr 2
        apply List.ext_getElem?
        intro j
        by_cases hj : j < l.length
        · have hj' : (l.map fun b => AV.i .u8 (b.toNat : Int))[j]? = some (.i .u8 ((l[j]).toNat : Int)) := by simp [hj]
          obtain ⟨u, h5, h6⟩ := h3.at_ hj'
          rw [h5, h6.inv_i]
          simp [hj]
        · have := h3.1
          simp at this
          rw [List.getElem?_eq_none (by omega), List.getElem?_eq_none (by simp; omega)]
    have hcv : (Conv.bytesToString (.slice (some ad) n cap')).run P w = .ok (.string ⟨l.toArray⟩) w := by
      simp only [Conv.bytesToString, Sem.run_bind, hload, Result.andThen_ok]
      rw [str_loop _ (fun _ _ => rfl)]
      simp [ByteArray.empty, ByteArray.emptyWithCapacity]
      rfl
    simp only [execOp, ho, i1, convert, Sem.run_bind, run_und hs, run_und hd, run_und he, Result.andThen_ok, hcv, Sem.run_pure]
theorem s_ld1 {x : AX} (hT : TyOk P tt) (hc : chkS tt eqs op (.ld1 x) = true) (e : sop h fr (.ld1 x) k = true) : ∃ v, k v = true ∧ StillS P op h fr v := by
  obtain ⟨u, hu, e1⟩ := ev_val e
  obtain ⟨id, off, rfl, e2⟩ := asP_ok e1
  obtain ⟨c, lim, hg, e3⟩ := rdC_ok e2
  obtain ⟨v, hv, hlt, e4⟩ := rd1_ok e3
  clear e e1 e2 e3
  cases op <;> simp only [chkS] at hc <;> try (cases hc; done)
  rename_i t x'
  simp only [Bool.and_eq_true] at hc
  obtain ⟨d, hd, hp⟩ := chkT_ok hT hc.1
  simp at hp
  refine ⟨v, e4, fun S w0 ρ ac w o ho hF hI => ?_⟩
  obtain ⟨q, hq, i1⟩ := (hF.val hc.2 hu (ofOp_mem (by simp [Op.operands]))).inv_p
  obtain ⟨q', cs, et, fz, hq', hw, hr⟩ := hI.cells hg
  rw [hq] at hq'; injection hq' with hq'; subst hq'
  obtain ⟨u, h1, h2⟩ := hr.cell? hw hv hlt
  exact ⟨u, by simp [execOp, ho, i1, Instr.loadAt, Instr.sureAddr, loadVar, run_agg hd, hp, h1], h2⟩
theorem s_ldn {n : Nat} {x : AX} (hT : TyOk P tt) (hc : chkS tt eqs op (.ldn n x) = true) (e : sop h fr (.ldn n x) k = true) : ∃ v, k v = true ∧ StillS P op h fr v := by
  obtain ⟨u, hu, e1⟩ := ev_val e
  obtain ⟨id, off, rfl, e2⟩ := asP_ok e1
  obtain ⟨c, lim, hg, e3⟩ := rdC_ok e2
  obtain ⟨vs, hl, hv, e4⟩ := rdn_ok e3
  clear e e1 e2 e3
  cases op <;> simp only [chkS] at hc <;> try (cases hc; done)
  rename_i t x'
  simp only [Bool.and_eq_true] at hc
  obtain ⟨d, hd, hp⟩ := chkT_ok hT hc.1.1
  have hs := sizIs_ok hT hc.1.2
  refine ⟨_, e4, fun S w0 ρ ac w o ho hF hI => ?_⟩
  obtain ⟨q, hq, i1⟩ := (hF.val hc.2 hu (ofOp_mem (by simp [Op.operands]))).inv_p
  obtain ⟨q', cs, et, fz, hq', hw, hr⟩ := hI.cells hg
  rw [hq] at hq'; injection hq' with hq'; subst hq'
  obtain ⟨us, h1, h2⟩ := hr.load (P := P) hw hl hv
  exact ⟨_, by simp [execOp, ho, i1, Instr.loadAt, Instr.sureAddr, loadVar, run_agg hd, hp, run_siz hs, h2], h1.ag⟩
theorem s_nilc {x : AX} (hc : chkS tt eqs op (.nilc x) = true) (e : sop h fr (.nilc x) k = true) : ∃ v, k v = true ∧ StillS P op h fr v := by
  obtain ⟨u, hu, e1⟩ := ev_val e
  clear e
  cases op <;> simp only [chkS] at hc <;> try (cases hc; done)
  rename_i x'
  have key : (k u = true) ∧ ((∃ id o, u = .p id o) ∨ (∃ t v, u = .ifc t v) ∨ ∃ f a b, u = .f (.func f) a b) := by
    cases u <;> try (cases e1; done)
    · exact ⟨e1, .inl ⟨_, _, rfl⟩⟩
    · rename_i fn a b
      cases fn <;> try (cases e1; done)
      exact ⟨e1, .inr (.inr ⟨_, _, _, rfl⟩)⟩
    · exact ⟨e1, .inr (.inl ⟨_, _, rfl⟩)⟩
  refine ⟨u, key.1, fun S w0 ρ ac w o ho hF hI => ⟨ac.eval x', ?_, hF.val hc hu (ofOp_mem (by simp [Op.operands]))⟩⟩
  have hv := hF.val hc hu (ofOp_mem (by simp [Op.operands]))
  rcases key.2 with ⟨id, off, rfl⟩ | ⟨t, v, rfl⟩ | ⟨f, a, b, rfl⟩
  · obtain ⟨q, _, i1⟩ := hv.inv_p
    simp [execOp, ho, i1]
  · obtain ⟨y, i1, _⟩ := hv.inv_ifc
    simp [execOp, ho, i1]
  · obtain ⟨y, z, i1, _⟩ := hv.inv_f
    simp [execOp, ho, i1]
theorem s_fa {off : Nat} {x : AX} (hT : TyOk P tt) (hc : chkS tt eqs op (.fa off x) = true) (e : sop h fr (.fa off x) k = true) : ∃ v, k v = true ∧ StillS P op h fr v := by
  obtain ⟨u, hu, e1⟩ := ev_val e
  obtain ⟨id, o0, rfl, e2⟩ := asP_ok e1
  clear e e1
  cases op <;> simp only [chkS] at hc <;> try (cases hc; done)
  rename_i t x' f
  simp only [Bool.and_eq_true] at hc
  obtain ⟨fs, y, hd, hy, hp⟩ := fieldAt_ok hT hc.1
  simp only [Bool.and_eq_true, decide_eq_true_eq] at hp
  obtain ⟨rfl, hp⟩ := hp
  have hs : ∃ m, siz tt y.type = some m ∧ m ≠ 0 := by
    split at hp
    · rename_i m hm
      exact ⟨m, hm, fun e => by subst e; cases hp⟩
    · cases hp
  obtain ⟨m, hs, hm⟩ := hs
  refine ⟨_, e2, fun S w0 ρ ac w o ho hF hI => ?_⟩
  obtain ⟨q, hq, i1⟩ := (hF.val hc.2 hu (ofOp_mem (by simp [Op.operands]))).inv_p
  refine ⟨.pointer (some ⟨q.block, q.shift + (o0 + y.offset), none⟩), ?_, .p _ _ q hq⟩
  simp [execOp, ho, i1, Instr.fieldAt, run_und hd, hy, Instr.sureAddr, fieldPlace, run_siz (siz_ok hT hs), hm, add_plain, Nat.add_assoc]
theorem s_fld1 {off : Nat} {x : AX} (hT : TyOk P tt) (hc : chkS tt eqs op (.fld1 off x) = true) (e : sop h fr (.fld1 off x) k = true) : ∃ v, k v = true ∧ StillS P op h fr v := by
  obtain ⟨u, hu, e1⟩ := ev_val e
  clear e
  cases op <;> simp only [chkS] at hc <;> try (cases hc; done)
  rename_i t x' f
  simp only [Bool.and_eq_true] at hc
  obtain ⟨fs, y, hd, hy, hp⟩ := fieldAt_ok hT hc.1
  simp only [Bool.and_eq_true, decide_eq_true_eq] at hp
  obtain ⟨rfl, hp⟩ := hp
  obtain ⟨d, hd2, hp⟩ := chkT_ok hT hp
  simp at hp
  cases u <;> try (cases e1; done)
  rename_i cs
  cases hcs : cs[y.offset]? with
  | none => simp only [hcs] at e1; cases e1
  | some v =>
    simp only [hcs] at e1
    refine ⟨v, e1, fun S w0 ρ ac w o ho hF hI => ?_⟩
    obtain ⟨vs, i1, j1⟩ := (hF.val hc.2 hu (ofOp_mem (by simp [Op.operands]))).inv_ag
    obtain ⟨v', h1, h2⟩ := j1.at_ hcs
    exact ⟨v', by simp [execOp, ho, i1, Instr.field, run_und hd, hy, asAgg, part, run_agg hd2, hp, h1], h2⟩
theorem s_fldn {off n : Nat} {x : AX} (hT : TyOk P tt) (hc : chkS tt eqs op (.fldn off n x) = true) (e : sop h fr (.fldn off n x) k = true) : ∃ v, k v = true ∧ StillS P op h fr v := by
  obtain ⟨u, hu, e1⟩ := ev_val e
  clear e
  cases op <;> simp only [chkS] at hc <;> try (cases hc; done)
  rename_i t x' f
  simp only [Bool.and_eq_true] at hc
  obtain ⟨fs, y, hd, hy, hp⟩ := fieldAt_ok hT hc.1
  simp only [Bool.and_eq_true, decide_eq_true_eq] at hp
  obtain ⟨⟨rfl, hp⟩, hs⟩ := hp
  obtain ⟨d, hd2, hp⟩ := chkT_ok hT hp
  have hs := sizIs_ok hT hs
  cases u <;> try (cases e1; done)
  rename_i cs
  refine ⟨_, e1, fun S w0 ρ ac w o ho hF hI => ?_⟩
  obtain ⟨vs, i1, j1⟩ := (hF.val hc.2 hu (ofOp_mem (by simp [Op.operands]))).inv_ag
  refine ⟨.agg (vs.toArray.extract y.offset (y.offset + n)), by simp [execOp, ho, i1, Instr.field, run_und hd, hy, asAgg, part, run_agg hd2, hp, run_siz hs], ?_⟩
  have := ((j1.drop y.offset).take n).ag
  have hx : vs.toArray.extract y.offset (y.offset + n) = ((vs.drop y.offset).take n).toArray := by
    simp [List.extract_toArray, List.extract_eq_take_drop]
  rw [hx]; exact this
theorem s_ia {z : Nat} {x ix : AX} (hT : TyOk P tt) (hc : chkS tt eqs op (.ia z x ix) = true) (e : sop h fr (.ia z x ix) k = true) : ∃ v, k v = true ∧ StillS P op h fr v := by
  obtain ⟨u, hu, e1⟩ := ev_val e
  obtain ⟨i, hi, e2⟩ := ev_val e1
  obtain ⟨kd, j, rfl, e3⟩ := asN_ok e2
  clear e e1 e2
  cases op <;> simp only [chkS] at hc <;> try (cases hc; done)
  rename_i t x' i'
  simp only [Bool.and_eq_true] at hc
  obtain ⟨⟨ct, h1⟩, h2⟩ := hc
  obtain ⟨d, hd, hp⟩ := chkT_ok hT ct
  cases d <;> simp only at hp <;> try (cases hp; done)
  have hs := sizIs_ok hT hp
  cases u <;> try (cases e3; done)
  rename_i id off n cap ex z'
  obtain ⟨hb, e4⟩ := bif_t e3
  have hb : j < n := by simpa [Nat.blt_eq] using hb
  refine ⟨_, e4, fun S w0 ρ ac w o ho hF hI => ?_⟩
  obtain ⟨q, ad, cap', hq, i1, q1, q2, q3, q4, q0, q5⟩ := (hF.val h1 hu (ofOp_mem (by simp [Op.operands]))).inv_sl
  have i2 := (hF.val h2 hi (ofOp_mem (by simp [Op.operands]))).inv_i
  rcases q5 with h0 | ⟨rfl, _⟩
  · omega
  · refine ⟨.pointer (some ⟨q.block, q.shift + (off + j * z), none⟩), ?_, .p _ _ q hq⟩
    simp [execOp, ho, i1, i2, Instr.indexAt, asIntOf, run_und hd, run_siz hs, hb, add_plain, Nat.add_assoc]
theorem s_iaa {n z : Nat} {x ix : AX} (hT : TyOk P tt) (hc : chkS tt eqs op (.iaa n z x ix) = true) (e : sop h fr (.iaa n z x ix) k = true) : ∃ v, k v = true ∧ StillS P op h fr v := by
  obtain ⟨u, hu, e1⟩ := ev_val e
  obtain ⟨i, hi, e2⟩ := ev_val e1
  obtain ⟨kd, j, rfl, e3⟩ := asN_ok e2
  obtain ⟨id, off, rfl, e4⟩ := asP_ok e3
  obtain ⟨hb, e5⟩ := bif_t e4
  clear e e1 e2 e3 e4
  have hb : j < n := by simpa [Nat.blt_eq] using hb
  cases op <;> simp only [chkS] at hc <;> try (cases hc; done)
  rename_i t x' i'
  simp only [Bool.and_eq_true] at hc
  obtain ⟨⟨ct, h1⟩, h2⟩ := hc
  obtain ⟨d, hd, hp⟩ := chkT_ok hT ct
  cases d <;> simp only at hp <;> try (cases hp; done)
  simp only [Bool.and_eq_true, decide_eq_true_eq] at hp
  obtain ⟨rfl, hp⟩ := hp
  have hs := sizIs_ok hT hp
  refine ⟨_, e5, fun S w0 ρ ac w o ho hF hI => ?_⟩
  obtain ⟨q, hq, i1⟩ := (hF.val h1 hu (ofOp_mem (by simp [Op.operands]))).inv_p
  have i2 := (hF.val h2 hi (ofOp_mem (by simp [Op.operands]))).inv_i
  refine ⟨.pointer (some ⟨q.block, q.shift + (off + j * z), none⟩), ?_, .p _ _ q hq⟩
  simp [execOp, ho, i1, i2, Instr.indexAt, Instr.sureAddr, asIntOf, run_und hd, run_siz hs, hb, add_plain, Nat.add_assoc]
end
end
end Go.RE
/- What operations that leave the world alone yield, continued. -/
namespace Go.RE
open Go.RowKit
noncomputable section
section
variable {P : Program} {tt : T TypeInfo} {eqs : TypeId → Option (List IntKind)} {h : Hp} {fr : T AV} {k : AV → Bool} {op : Op}
theorem s_ixs {x ix : AX} (hT : TyOk P tt) (hc : chkS tt eqs op (.ixs x ix) = true) (e : sop h fr (.ixs x ix) k = true) : ∃ v, k v = true ∧ StillS P op h fr v := by
  obtain ⟨u, hu, e1⟩ := ev_val e
  obtain ⟨i, hi, e2⟩ := ev_val e1
  obtain ⟨kd, j, rfl, e3⟩ := asN_ok e2
  clear e e1 e2
  cases op <;> simp only [chkS] at hc <;> try (cases hc; done)
  rename_i t x' i'
  simp only [Bool.and_eq_true] at hc
  obtain ⟨⟨ct, h1⟩, h2⟩ := hc
  obtain ⟨d, hd, hp⟩ := chkT_ok hT ct
  cases d <;> simp at hp
  cases u <;> try (cases e3; done)
  rename_i l
  cases hl : l[j]? with
  | none => simp only [hl] at e3; cases e3
  | some b =>
    simp only [hl] at e3
    refine ⟨_, e3, fun S w0 ρ ac w o ho hF hI => ?_⟩
    obtain ⟨s, i1, j1⟩ := (hF.val h1 hu (ofOp_mem (by simp [Op.operands]))).inv_s
    have i2 := (hF.val h2 hi (ofOp_mem (by simp [Op.operands]))).inv_i
    rw [← j1, List.getElem?_map] at hl
    cases hs : s.data.toList[j]? with
    | none => rw [hs] at hl; cases hl
    | some y =>
      rw [hs] at hl
      injection hl with hl
      subst hl
      have hs' : s[j]? = some y := by
        have : s[j]? = s.data[j]? := (Option.map_inj_right fun x y a => a).mp rfl
        rw [this]; simpa using hs
      refine ⟨.int .u8 (y.toNat : Int), ?_, .i _ _⟩
      simp [execOp, ho, i1, i2, Instr.index, asIntOf, run_und hd, hs']
theorem eval_o {ρ : M} {D : Nat → Prop} {a : Act} (hF : FRon ρ D fr a) {o : Option Operand} {x : Option AX} {d n : Nat} (hc : chkO o x = true) (hD : ∀ y, o = some y → ∀ t, y = .tmp t → D t)
    (h : (x = none ∧ n = d) ∨ ∃ y kd, x = some y ∧ y.val fr = some (.i kd (n : Int))) : (o = none ∧ x = none ∧ n = d) ∨ ∃ kd, o.map a.eval = some (.int kd (n : Int)) ∧ x.isSome = true := by
  rcases h with ⟨rfl, rfl⟩ | ⟨y, kd, rfl, hv⟩
  · cases o with
    | none => exact .inl ⟨rfl, rfl, rfl⟩
    | some o => cases hc
  · cases o with
    | none => cases hc
    | some o => exact .inr ⟨kd, by simp [(hF.val hc hv (hD o rfl)).inv_i], rfl⟩
theorem run_sliceBound {w : World} {kd : IntKind} {n y : Nat} {code : BoundsCode} (h : n ≤ y) : (Instr.sliceBound (.int kd (n : Int)) y code).run P w = .ok n w := by
  simp [Instr.sliceBound, asIntOf, h]
theorem run_bounds {w : World} {isS : Bool} {len cap a b m : Nat} {lo hi mx : Option Value} (hm : (mx = none ∧ m = cap) ∨ ∃ kd, mx = some (.int kd (m : Int))) (hb : (hi = none ∧ b = len) ∨ ∃ kd, hi = some (.int kd (b : Int)))
    (ha : (lo = none ∧ a = 0) ∨ ∃ kd, lo = some (.int kd (a : Int))) (h1 : a ≤ b) (h2 : b ≤ m) (h3 : m ≤ cap) (hx : mx.isSome = true → hi.isSome = true) :
    (Instr.sliceBounds isS len cap lo hi mx).run P w = .ok (a, b, m) w := by
  rcases hm with ⟨rfl, rfl⟩ | ⟨km, rfl⟩
  · rcases hb with ⟨rfl, rfl⟩ | ⟨kb, rfl⟩
    · rcases ha with ⟨rfl, rfl⟩ | ⟨ka, rfl⟩
      · simp [Instr.sliceBounds]
      · simp [Instr.sliceBounds, run_sliceBound h1]
    · rcases ha with ⟨rfl, rfl⟩ | ⟨ka, rfl⟩
      · simp [Instr.sliceBounds, run_sliceBound h2]
      · simp [Instr.sliceBounds, run_sliceBound h2, run_sliceBound h1]
  · rcases hb with ⟨rfl, rfl⟩ | ⟨kb, rfl⟩
    · simp at hx
    · rcases ha with ⟨rfl, rfl⟩ | ⟨ka, rfl⟩
      · simp [Instr.sliceBounds, run_sliceBound h2, run_sliceBound h3]
      · simp [Instr.sliceBounds, run_sliceBound h2, run_sliceBound h1, run_sliceBound h3]
theorem opt_of {o : Option Operand} {x : Option AX} {n d : Nat} {a : Act} (h : (o = none ∧ x = none ∧ n = d) ∨ ∃ kd, o.map a.eval = some (.int kd (n : Int)) ∧ x.isSome = true) :
    (o.map a.eval = none ∧ n = d) ∨ ∃ kd, o.map a.eval = some (.int kd (n : Int)) := by
  rcases h with ⟨rfl, _, rfl⟩ | ⟨kd, h, _⟩
  · exact .inl ⟨rfl, rfl⟩
  · exact .inr ⟨kd, h⟩
theorem s_sls {x : AX} {lo hi : Option AX} (hT : TyOk P tt) (hc : chkS tt eqs op (.sls x lo hi) = true) (e : sop h fr (.sls x lo hi) k = true) : ∃ v, k v = true ∧ StillS P op h fr v := by
  obtain ⟨u, hu, e1⟩ := ev_val e
  clear e
  cases u <;> try (cases e1; done)
  rename_i l
  obtain ⟨b, e2, hb⟩ := evo_ok e1
  obtain ⟨a, e3, ha⟩ := evo_ok e2
  obtain ⟨hab, e4⟩ := bif_t e3
  simp only [Bool.and_eq_true, Nat.ble_eq] at hab
  cases op <;> simp only [chkS] at hc <;> try (cases hc; done)
  rename_i t x' l' h' m'
  cases m' <;> simp only at hc <;> try (cases hc; done)
  simp only [Bool.and_eq_true] at hc
  obtain ⟨⟨⟨ct, h1⟩, h2⟩, h3⟩ := hc
  obtain ⟨d, hd, hp⟩ := chkT_ok hT ct
  cases d <;> simp at hp
  refine ⟨_, e4, fun S w0 ρ ac w o ho hF hI => ?_⟩
  obtain ⟨s, i1, j1⟩ := (hF.val h1 hu (ofOp_mem (by simp [Op.operands]))).inv_s
  have g1 := opt_of (eval_o hF h2 (fun y hy => ofOp_mem (by simp [Op.operands, hy])) ha)
  have g2 := opt_of (eval_o hF h3 (fun y hy => ofOp_mem (by simp [Op.operands, hy])) hb)
  have hsz : s.size = l.length := by rw [← j1, List.length_map, Array.length_toList]; rfl
  refine ⟨.string (s.extract a b), ?_, .s _ _ (by rw [Lib.extract_data, ← j1, List.map_take, List.map_drop])⟩
  have hr := run_bounds (P := P) (w := w) (isS := false) (len := s.size) (cap := s.size) (m := s.size) (mx := none) (.inl ⟨rfl, rfl⟩) (by rw [hsz]; exact g2) g1 hab.1 (by rw [hsz]; exact hab.2) (Nat.le_refl _) (by simp)
  simp [execOp, ho, i1, Instr.sliceAt, Instr.slice, run_und hd, hr]
theorem s_slc {z : Nat} {x : AX} {lo hi mx : Option AX} (hT : TyOk P tt) (hc : chkS tt eqs op (.slc z x lo hi mx) = true) (e : sop h fr (.slc z x lo hi mx) k = true) : ∃ v, k v = true ∧ StillS P op h fr v := by
  obtain ⟨u, hu, e1⟩ := ev_val e
  clear e
  cases op <;> simp only [chkS] at hc <;> try (cases hc; done)
  rename_i t x' l' h' m'
  simp only [Bool.and_eq_true] at hc
  obtain ⟨⟨⟨⟨⟨ct, h1⟩, h2⟩, h3⟩, h4⟩, h5⟩ := hc
  obtain ⟨d, hd, hp⟩ := chkT_ok hT ct
  cases d <;> simp only at hp <;> try (cases hp; done)
  have hs := sizIs_ok hT hp
  cases u <;> try (cases e1; done)
  · obtain ⟨a, e2, ha⟩ := evo_ok e1
    obtain ⟨b, e3, hb⟩ := evo_ok e2
    obtain ⟨m, e4, hm⟩ := evo_ok e3
    obtain ⟨hz, e5⟩ := bif_t e4
    simp only [Bool.and_eq_true, Nat.beq_eq] at hz
    obtain ⟨⟨rfl, rfl⟩, rfl⟩ := hz
    refine ⟨_, e5, fun S w0 ρ ac w o ho hF hI => ?_⟩
    have i1 := (hF.val h1 hu (ofOp_mem (by simp [Op.operands]))).inv_sn
    have g1 := opt_of (eval_o hF h2 (fun y hy => ofOp_mem (by simp [Op.operands, hy])) ha)
    have g2 := opt_of (eval_o hF h3 (fun y hy => ofOp_mem (by simp [Op.operands, hy])) hb)
    have g3 := opt_of (eval_o hF h4 (fun y hy => ofOp_mem (by simp [Op.operands, hy])) hm)
    have hx : (m'.map ac.eval).isSome = true → (h'.map ac.eval).isSome = true := fun hx => by
      cases m' with
      | none => cases hx
      | some m' => cases mx with
        | none => cases h4
        | some mx => cases hi with
          | none => cases h5
          | some hi => cases h' with
            | none => cases h3
            | some h' => rfl
    have hr := run_bounds (P := P) (w := w) (isS := true) (len := 0) (cap := 0) (m := 0) (by rcases g3 with ⟨g, _⟩ | g; exact .inl ⟨g, rfl⟩; exact .inr g) g2 g1 (Nat.le_refl _) (Nat.le_refl _) (Nat.le_refl _) hx
    exact ⟨.slice none 0 0, by simp [execOp, ho, i1, Instr.sliceAt, Instr.slice, run_und hd, hr, run_siz hs], .sn⟩
  · rename_i id off n cap ex z'
    obtain ⟨hz, e2⟩ := bif_t e1
    have hz : z = z' := by simpa using hz
    subst hz
    obtain ⟨m, e3, hm⟩ := evo_ok e2
    obtain ⟨b, e4, hb⟩ := evo_ok e3
    obtain ⟨a, e5, ha⟩ := evo_ok e4
    obtain ⟨hz, e6⟩ := bif_t e5
    simp only [Bool.and_eq_true, Nat.ble_eq] at hz
    refine ⟨_, e6, fun S w0 ρ ac w o ho hF hI => ?_⟩
    obtain ⟨q, ad, cap', hq, i1, q1, q2, q3, q4, q0, q5⟩ := (hF.val h1 hu (ofOp_mem (by simp [Op.operands]))).inv_sl
    have g1 := opt_of (eval_o hF h2 (fun y hy => ofOp_mem (by simp [Op.operands, hy])) ha)
    have g2 := opt_of (eval_o hF h3 (fun y hy => ofOp_mem (by simp [Op.operands, hy])) hb)
    have g3 := eval_o hF h4 (fun y hy => ofOp_mem (by simp [Op.operands, hy])) hm
    have hx : (m'.map ac.eval).isSome = true → (h'.map ac.eval).isSome = true := fun hx => by
      cases m' with
      | none => cases hx
      | some m' => cases mx with
        | none => cases h4
        | some mx => cases hi with
          | none => cases h5
          | some hi => cases h' with
            | none => cases h3
            | some h' => rfl
    -- the real bound of the capacity
    obtain ⟨M', hM1, hM2, hM3, hM4⟩ : ∃ M', ((m'.map ac.eval = none ∧ M' = cap') ∨ ∃ kd, m'.map ac.eval = some (.int kd (M' : Int))) ∧ m ≤ M' ∧ M' ≤ cap' ∧ ((ex || mx.isSome) = true → M' = m) := by
      rcases g3 with ⟨rfl, rfl, rfl⟩ | ⟨kd, g, hsome⟩
      · exact ⟨cap', .inl ⟨rfl, rfl⟩, q2, Nat.le_refl _, fun he => q3 (by simpa using he)⟩
      · exact ⟨m, .inr ⟨kd, g⟩, Nat.le_refl _, by omega, fun _ => rfl⟩
    have hr := run_bounds (P := P) (w := w) (isS := true) (len := n) (cap := cap') (m := M') hM1 g2 g1 hz.1.1 (by omega) hM3 hx
    have hbk : (if M' = a then ad else ad.add (a * z)).block = q.block := by
      split
      · exact q0
      · unfold Addr.add; split <;> exact q0
    refine ⟨.slice (some (if M' = a then ad else ad.add (a * z))) (b - a) (M' - a), ?_, .sl _ _ _ _ _ _ q _ _ hq (by omega) (by omega) (fun he => by rw [hM4 he]) (by omega) ⟨hbk, ?_⟩⟩
    · by_cases hma : M' = a
      · simp [execOp, ho, i1, Instr.sliceAt, Instr.slice, run_und hd, hr, run_siz hs, hma]
      · simp [execOp, ho, i1, Instr.sliceAt, Instr.slice, run_und hd, hr, run_siz hs, hma]
    · by_cases hma : M' = a
      · exact .inl (by omega)
      · right
        rw [if_neg hma]
        rcases q5 with h0 | ⟨rfl, hfit⟩
        · omega
        · refine ⟨by rw [add_plain, Nat.add_assoc], ?_⟩
          have : a * z + (M' - a) * z = M' * z := by rw [← Nat.add_mul, Nat.add_sub_cancel' (by omega)]
          have h6 : M' * z ≤ cap' * z := Nat.mul_le_mul_right _ hM3
          omega
theorem s_sla {n z : Nat} {x : AX} {lo hi : Option AX} (hT : TyOk P tt) (hc : chkS tt eqs op (.sla n z x lo hi) = true) (e : sop h fr (.sla n z x lo hi) k = true) : ∃ v, k v = true ∧ StillS P op h fr v := by
  obtain ⟨u, hu, e1⟩ := ev_val e
  obtain ⟨id, off, rfl, e2⟩ := asP_ok e1
  obtain ⟨c, lim, hg, e3⟩ := rdC_ok e2
  obtain ⟨b, e4, hb⟩ := evo_ok e3
  obtain ⟨a, e5, ha⟩ := evo_ok e4
  obtain ⟨hz, e6⟩ := bif_t e5
  simp only [Bool.and_eq_true, Nat.ble_eq] at hz
  clear e e1 e2 e3 e4 e5
  cases op <;> simp only [chkS] at hc <;> try (cases hc; done)
  rename_i t x' l' h' m'
  cases m' <;> simp only at hc <;> try (cases hc; done)
  simp only [Bool.and_eq_true] at hc
  obtain ⟨⟨⟨ct, h1⟩, h2⟩, h3⟩ := hc
  obtain ⟨d, hd, hp⟩ := chkT_ok hT ct
  cases d <;> simp only at hp <;> try (cases hp; done)
  simp only [Bool.and_eq_true, decide_eq_true_eq] at hp
  obtain ⟨rfl, hp⟩ := hp
  have hs := sizIs_ok hT hp
  rename_i n el
  refine ⟨_, e6, fun S w0 ρ ac w o ho hF hI => ?_⟩
  obtain ⟨q, hq, i1⟩ := (hF.val h1 hu (ofOp_mem (by simp [Op.operands]))).inv_p
  obtain ⟨q', cs, et, fz, hq', hw, hr⟩ := hI.cells hg
  rw [hq] at hq'; injection hq' with hq'; subst hq'
  have g1 := opt_of (eval_o hF h2 (fun y hy => ofOp_mem (by simp [Op.operands, hy])) ha)
  have g2 := opt_of (eval_o hF h3 (fun y hy => ofOp_mem (by simp [Op.operands, hy])) hb)
  have hrb := run_bounds (P := P) (w := w) (isS := false) (len := n) (cap := n) (m := n) (mx := none) (.inl ⟨rfl, rfl⟩) g2 g1 hz.1.1.1 hz.1.1.2 (Nat.le_refl _) (by simp)
  have hin := hr.inn
  refine ⟨.slice (some (if n = a then ⟨q.block, q.shift + off, none⟩ else ⟨q.block, q.shift + off + a * z, none⟩)) (b - a) (n - a), ?_, .sl _ _ _ _ _ _ q _ _ hq (by omega) (Nat.le_refl _) (fun _ => rfl) (by unfold maxLen; omega) ⟨by split <;> rfl, ?_⟩⟩
  · by_cases hma : n = a
    · subst hma
      simp [execOp, ho, i1, Instr.sliceAt, Instr.sureAddr, run_und hd, hrb, run_siz hs]
    · simp [execOp, ho, i1, Instr.sliceAt, Instr.sureAddr, run_und hd, hrb, run_siz hs, hma, add_plain]
  · by_cases hma : n = a
    · exact .inl (by omega)
    · right
      rw [if_neg hma]
      refine ⟨by rw [Nat.add_assoc], ?_⟩
      have : a * z + (n - a) * z = n * z := by rw [← Nat.add_mul, Nat.add_sub_cancel' (by omega)]
      omega
theorem s_mkif {t : TypeId} {x : AX} (hT : TyOk P tt) (hc : chkS tt eqs op (.mkif t x) = true) (e : sop h fr (.mkif t x) k = true) : ∃ v, k v = true ∧ StillS P op h fr v := by
  obtain ⟨u, hu, e1⟩ := ev_val e
  cases op <;> simp only [chkS] at hc <;> try (cases hc; done)
  rename_i t' x'
  simp only [Bool.and_eq_true, decide_eq_true_eq] at hc
  obtain ⟨⟨rfl, ct⟩, h1⟩ := hc
  obtain ⟨d, hd, hp⟩ := chkT_ok hT ct
  refine ⟨_, e1, fun S w0 ρ ac w o ho hF hI => ⟨.iface t (ac.eval x'), ?_, .ifc _ _ _ (hF.val h1 hu (ofOp_mem (by simp [Op.operands])))⟩⟩
  cases d <;> simp only at hp <;> first | (cases hp; done) | simp [execOp, ho, Instr.makeInterface, run_und hd]
theorem s_mkfn {fn : Fn} {a b : List AX} (hc : chkS tt eqs op (.mkfn fn a b) = true) (e : sop h fr (.mkfn fn a b) k = true) : ∃ v, k v = true ∧ StillS P op h fr v := by
  obtain ⟨us, hu, e1⟩ := evs_vals e
  obtain ⟨vs, hv, e2⟩ := evs_vals e1
  cases op <;> simp only [chkS] at hc <;> try (cases hc; done)
  rename_i fn' a' b'
  simp only [Bool.and_eq_true, decide_eq_true_eq] at hc
  obtain ⟨⟨rfl, h1⟩, h2⟩ := hc
  refine ⟨_, e2, fun S w0 ρ ac w o ho hF hI => ⟨.func fn (a'.map ac.eval) (b'.map ac.eval), by simp [execOp, ho, Instr.makeFunc], ?_⟩⟩
  have r1 := hF.vals h1 hu fun y hy => ofOp_mem (by simp [Op.operands]; exact .inl (by simpa using hy))
  have r2 := hF.vals h2 hv fun y hy => ofOp_mem (by simp [Op.operands]; exact .inr (by simpa using hy))
  have q : ∀ (A : Array Operand), A.map ac.eval = (A.toList.map ac.eval).toArray := fun A => by rw [← Array.toList_map, Array.toArray_toList]
  rw [q, q]
  exact r1.f r2
theorem s_ext {x : AX} {i : Nat} (hc : chkS tt eqs op (.ext x i) = true) (e : sop h fr (.ext x i) k = true) : ∃ v, k v = true ∧ StillS P op h fr v := by
  obtain ⟨u, hu, e1⟩ := ev_val e
  clear e
  cases op <;> simp only [chkS] at hc <;> try (cases hc; done)
  rename_i x' j
  simp only [Bool.and_eq_true, decide_eq_true_eq] at hc
  obtain ⟨rfl, h1⟩ := hc
  cases u <;> try (cases e1; done)
  rename_i vs
  cases hvi : vs[i]? with
  | none => simp only [hvi] at e1; cases e1
  | some v =>
    simp only [hvi] at e1
    refine ⟨v, e1, fun S w0 ρ ac w o ho hF hI => ?_⟩
    obtain ⟨us, i1, j1⟩ := (hF.val h1 hu (ofOp_mem (by simp [Op.operands]))).inv_tu
    obtain ⟨v', h2, h3⟩ := j1.at_ hvi
    exact ⟨v', by simp [execOp, ho, i1, Instr.extract, h2], h3⟩
theorem s_build {zs : List AV} {ps : List (Nat × Nat × AX)} (hT : TyOk P tt) (hc : chkS tt eqs op (.build zs ps) = true) (e : sop h fr (.build zs ps) k = true) : ∃ v, k v = true ∧ StillS P op h fr v := by
  obtain ⟨vs, hvs, e1⟩ := evps_vals e
  clear e
  cases op <;> simp only [chkS] at hc <;> try (cases hc; done)
  rename_i t parts
  simp only [Bool.and_eq_true] at hc
  obtain ⟨⟨hpo, hz⟩, hpt⟩ := hc
  cases hzt : zer tt t with
  | none => simp only [hzt] at hz; cases hz
  | some z =>
    simp only [hzt] at hz
    obtain ⟨cs', hR, e2⟩ := fillA_R e1
    refine ⟨_, e2, fun S w0 ρ ac w o ho hF hI => ?_⟩
    obtain ⟨hl, hp⟩ := evps_ok hF hpt (fun p hp => ofOp_mem (by
      simp only [Op.operands, List.mem_toArray, List.mem_map]
      exact ⟨p, hp, rfl⟩)) hvs
    obtain ⟨us', h1, h2⟩ := fillR_ok (place := place tt t) (qs := (parts.map fun (i, x) => (i, ac.eval x)).toList) (us := z.cells) hR (chkVs_ok hz ρ) (by simpa using hl) (fun j p q h1 h2 => hp j p q h1 (by simpa using h2))
    obtain ⟨it, hit, hitz⟩ := zer_ok hT hzt
    have hb : P.built t (parts.map fun (i, x) => (i, ac.eval x)).toList = some us' := built_of hT hit hitz hpo h1
    refine ⟨.agg us', by simp [execOp, ho, run_build w t _ us' hb], ?_⟩
    simpa using h2.ag
theorem s_len {x : AX} (hT : TyOk P tt) (hc : chkS tt eqs op (.len x) = true) (e : sop h fr (.len x) k = true) : ∃ v, k v = true ∧ StillS P op h fr v := by
  obtain ⟨u, hu, e1⟩ := ev_val e
  clear e
  obtain ⟨args, types, rfl, hp0⟩ := bltn_ok hc
  obtain ⟨x', t, rfl, rfl, hp⟩ := one_ok hp0
  rw [Bool.and_eq_true] at hp
  obtain ⟨d, hd, hq⟩ := chkT_ok hT hp.1
  cases d <;> simp only at hq <;> try (cases hq; done)
  cases u <;> try (cases e1; done)
  · refine ⟨_, e1, fun S w0 ρ ac w o ho hF hI => ?_⟩
    have i1 := (hF.val hp.2 hu (ofOp_mem (by simp [Op.operands, Call.operands]))).inv_sn
    exact ⟨_, by simp [execOp, ho, resolve, invoke, builtin, i1, Builtin.len_, run_und hd, goInt], .i _ _⟩
  · refine ⟨_, e1, fun S w0 ρ ac w o ho hF hI => ?_⟩
    obtain ⟨q, ad, cap', hq, i1, _⟩ := (hF.val hp.2 hu (ofOp_mem (by simp [Op.operands, Call.operands]))).inv_sl
    exact ⟨_, by simp [execOp, ho, resolve, invoke, builtin, i1, Builtin.len_, run_und hd, goInt], .i _ _⟩
theorem s_lens {x : AX} (hT : TyOk P tt) (hc : chkS tt eqs op (.lens x) = true) (e : sop h fr (.lens x) k = true) : ∃ v, k v = true ∧ StillS P op h fr v := by
  obtain ⟨u, hu, e1⟩ := ev_val e
  clear e
  obtain ⟨args, types, rfl, hp0⟩ := bltn_ok hc
  obtain ⟨x', t, rfl, rfl, hp⟩ := one_ok hp0
  rw [Bool.and_eq_true] at hp
  obtain ⟨d, hd, hq⟩ := chkT_ok hT hp.1
  cases d <;> simp only at hq <;> try (cases hq; done)
  cases u <;> try (cases e1; done)
  refine ⟨_, e1, fun S w0 ρ ac w o ho hF hI => ?_⟩
  obtain ⟨s, i1, hl⟩ := (hF.val hp.2 hu (ofOp_mem (by simp [Op.operands, Call.operands]))).inv_s
  have hsz : s.size = s.data.toList.length := by rw [Array.length_toList]; rfl
  refine ⟨.int .i64 (s.size : Int), by simp [execOp, ho, resolve, invoke, builtin, i1, Builtin.len_, run_und hd, goInt], ?_⟩
  rw [← hl, List.length_map, ← hsz]
  exact .i _ _
theorem rdM_ok {m : AV} {k : List (AV × AV × Nat) → Bool} (e : rdM h m k = true) : ∃ es, k es = true ∧ ∀ (S : Nat → Prop) (w0 : World) (ρ : M) (w : World) (v : Value), VR ρ m v → Inv S w0 h ρ w →
    (v = .map none ∧ es = []) ∨ ∃ b es' clock, v = .map (some b) ∧ w.heap[b]? = some (.map es' clock) ∧ EntR ρ es es'.toList := by
  unfold rdM at e
  split at e
  · exact ⟨_, e, fun S w0 ρ w v hv hI => .inl ⟨hv.inv_mn, rfl⟩⟩
  · rename_i id
    split at e
    · rename_i es clock hg
      refine ⟨_, e, fun S w0 ρ w v hv hI => .inr ?_⟩
      obtain ⟨q, hq, rfl⟩ := hv.inv_m
      obtain ⟨q', hq', _, o, hw, es', rfl, hr⟩ := hI.obj id _ hg trivial
      rw [hq] at hq'; injection hq' with hq'; subst hq'
      exact ⟨_, es', clock, rfl, hw, hr⟩
    · cases e
  · cases e
theorem run_getMap {w : World} {b : Nat} {es : Array MapEntry} {clock : Nat} (hw : w.heap[b]? = some (.map es clock)) : (getObj b).run P w = .ok (.map es clock) w := by
  simp [getObj, Sem.run, hw]
theorem s_lenm {x : AX} (hT : TyOk P tt) (hc : chkS tt eqs op (.lenm x) = true) (e : sop h fr (.lenm x) k = true) : ∃ v, k v = true ∧ StillS P op h fr v := by
  obtain ⟨u, hu, e1⟩ := ev_val e
  obtain ⟨es, e2, hm⟩ := rdM_ok e1
  clear e e1
  obtain ⟨args, types, rfl, hp0⟩ := bltn_ok hc
  obtain ⟨x', t, rfl, rfl, hp⟩ := one_ok hp0
  rw [Bool.and_eq_true] at hp
  obtain ⟨d, hd, hq⟩ := chkT_ok hT hp.1
  cases d <;> simp only at hq <;> try (cases hq; done)
  refine ⟨_, e2, fun S w0 ρ ac w o ho hF hI => ?_⟩
  rcases hm S w0 ρ w _ (hF.val hp.2 hu (ofOp_mem (by simp [Op.operands, Call.operands]))) hI with ⟨i1, rfl⟩ | ⟨b, es', clock, i1, hw, hr⟩
  · exact ⟨_, by simp [execOp, ho, resolve, invoke, builtin, i1, Builtin.len_, run_und hd, goInt], .i _ _⟩
  · refine ⟨.int .i64 (es'.size : Int), by simp [execOp, ho, resolve, invoke, builtin, i1, Builtin.len_, run_und hd, goInt, run_getMap hw], ?_⟩
    have : es.length = es'.size := by rw [hr.1]; simp
    rw [this]
    exact .i _ _
theorem s_mx {x y : AX} (hc : chkS tt eqs op (.mx x y) = true) (e : sop h fr (.mx x y) k = true) : ∃ v, k v = true ∧ StillS P op h fr v := by
  obtain ⟨u, hu, e1⟩ := ev_val e
  obtain ⟨v, hv, e2⟩ := ev_val e1
  obtain ⟨kd, a, rfl, e3⟩ := asI_ok e2
  obtain ⟨kd', b, rfl, e4⟩ := asI_ok e3
  clear e e1 e2 e3
  obtain ⟨args, types, rfl, hp0⟩ := bltn_ok hc
  obtain ⟨x', y', rfl, hp⟩ := two_ok hp0
  rw [Bool.and_eq_true] at hp
  refine ⟨_, e4, fun S w0 ρ ac w o ho hF hI => ⟨.int kd (if b > a then b else a), ?_, ?_⟩⟩
  · have i1 := (hF.val hp.1 hu (ofOp_mem (by simp [Op.operands, Call.operands]))).inv_i
    have i2 := (hF.val hp.2 hv (ofOp_mem (by simp [Op.operands, Call.operands]))).inv_i
    simp [execOp, ho, resolve, invoke, builtin, i1, i2, Builtin.max_, Builtin.max2]
  · rw [iLt_eq]
    by_cases hab : a < b
    · rw [if_pos (by omega)]; simp only [hab, decide_true, cond_true]; exact .i _ _
    · rw [if_neg (by omega)]; simp only [hab, decide_false, cond_false]; exact .i _ _
theorem s_mn {x y : AX} (hc : chkS tt eqs op (.mn x y) = true) (e : sop h fr (.mn x y) k = true) : ∃ v, k v = true ∧ StillS P op h fr v := by
  obtain ⟨u, hu, e1⟩ := ev_val e
  obtain ⟨v, hv, e2⟩ := ev_val e1
  obtain ⟨kd, a, rfl, e3⟩ := asI_ok e2
  obtain ⟨kd', b, rfl, e4⟩ := asI_ok e3
  clear e e1 e2 e3
  obtain ⟨args, types, rfl, hp0⟩ := bltn_ok hc
  obtain ⟨x', y', rfl, hp⟩ := two_ok hp0
  rw [Bool.and_eq_true] at hp
  refine ⟨_, e4, fun S w0 ρ ac w o ho hF hI => ⟨.int kd (if b < a then b else a), ?_, ?_⟩⟩
  · have i1 := (hF.val hp.1 hu (ofOp_mem (by simp [Op.operands, Call.operands]))).inv_i
    have i2 := (hF.val hp.2 hv (ofOp_mem (by simp [Op.operands, Call.operands]))).inv_i
    simp [execOp, ho, resolve, invoke, builtin, i1, i2, Builtin.min_, Builtin.min2]
  · rw [iLt_eq]
    by_cases hab : b < a
    · rw [if_pos (by omega)]; simp only [hab, decide_true, cond_true]; exact .i _ _
    · rw [if_neg (by omega)]; simp only [hab, decide_false, cond_false]; exact .i _ _
theorem fnd_ok (k0 : IntKind) {kd : IntKind} {a : Int} : ∀ {es : List (AV × AV × Nat)} {k : Option AV → Bool}, fnd kd a es k = true → ∃ r, k r = true ∧ ∀ (ρ : M) (es' : List MapEntry) (i : Nat), EntR ρ es es' →
    (r = none ∧ Instr.findNow (.int k0) (.int kd a) es' i = some none) ∨ ∃ u j v, r = some u ∧ VR ρ u v ∧ Instr.findNow (.int k0) (.int kd a) es' i = some (some (j, v)) := by
  intro es
  induction es with
  | nil =>
    intro k e
    refine ⟨none, e, fun ρ es' i hr => .inl ⟨rfl, ?_⟩⟩
    obtain rfl : es' = [] := List.eq_nil_of_length_eq_zero hr.1.symm
    rfl
  | cons en es ih =>
    intro k e
    obtain ⟨key, v, nb⟩ := en
    obtain ⟨k', b, rfl, e1⟩ := asI_ok e
    obtain ⟨hk, e2⟩ := bif_t e1
    have hkk := kEq_eq hk
    subst hkk
    have tailR : ∀ {ρ : M} {y : MapEntry} {ys : List MapEntry}, EntR ρ ((.i k' b, v, nb) :: es) (y :: ys) → EntR ρ es ys := fun hr =>
      ⟨by simpa using hr.1, fun j p q hp hq => hr.2 (j + 1) p q (by simpa using hp) (by simpa using hq)⟩
    cases hab : iEq a b
    · simp only [hab, cond_false] at e2
      obtain ⟨r, h1, h2⟩ := ih e2
      refine ⟨r, h1, fun ρ es' i hr => ?_⟩
      cases es' with
      | nil => have := hr.1; simp at this
      | cons y ys =>
        obtain ⟨y1, y2, y3⟩ := hr.2 0 _ y rfl rfl
        have hne : (a == b) = false := by rw [← iEq_eq]; exact hab
        have : Instr.findNow (.int k0) (.int k' a) (y :: ys) i = Instr.findNow (.int k0) (.int k' a) ys (i + 1) := by
          simp only [Instr.findNow, y1.inv_i, Instr.sameNow, if_true, hne]
        rw [this]
        exact h2 ρ ys (i + 1) (tailR hr)
    · simp only [hab, cond_true] at e2
      refine ⟨_, e2, fun ρ es' i hr => .inr ?_⟩
      cases es' with
      | nil => have := hr.1; simp at this
      | cons y ys =>
        obtain ⟨y1, y2, y3⟩ := hr.2 0 _ y rfl rfl
        have heq : (a == b) = true := by rw [← iEq_eq]; exact hab
        exact ⟨v, i, y.val, rfl, y2, by simp only [Instr.findNow, y1.inv_i, Instr.sameNow, if_true, heq]⟩
theorem run_checkKey {w : World} {t : TypeId} {k0 kd : IntKind} (hd : P.underlying t = some (.int k0)) (b : Bool) (n : Nat) (a : Int) : (Instr.checkKey b (n + 1) t (.int kd a)).run P w = .ok () w := by
  rw [Instr.checkKey]
  simp only [Sem.run_bind, run_und hd, Result.andThen_ok, Sem.run_pure]
theorem s_lkp {zero : AV} {ok : Bool} {m key : AX} (hT : TyOk P tt) (hc : chkS tt eqs op (.lkp zero ok m key) = true) (e : sop h fr (.lkp zero ok m key) k = true) : ∃ v, k v = true ∧ StillS P op h fr v := by
  obtain ⟨u, hu, e1⟩ := ev_val e
  obtain ⟨v, hv, e2⟩ := ev_val e1
  obtain ⟨kd, a, rfl, e3⟩ := asI_ok e2
  obtain ⟨es, e4, hm⟩ := rdM_ok e3
  clear e e1 e2 e3
  cases op <;> simp only [chkS] at hc <;> try (cases hc; done)
  rename_i t m' key' ok'
  simp only [Bool.and_eq_true, decide_eq_true_eq] at hc
  obtain ⟨⟨⟨rfl, ct⟩, h1⟩, h2⟩ := hc
  obtain ⟨d, hd, hp⟩ := chkT_ok hT ct
  cases d <;> simp only at hp <;> try (cases hp; done)
  rename_i kt et
  rw [Bool.and_eq_true] at hp
  obtain ⟨dk, hdk, hpk⟩ := chkT_ok hT hp.1
  cases dk <;> simp at hpk
  rename_i kd0
  obtain ⟨r, e5, hf⟩ := fnd_ok kd0 e4
  clear e4
  cases hz : zer tt et with
  | none => have := hp.2; rw [hz] at this; cases this
  | some z =>
    have hzz := hp.2
    simp only [hz] at hzz
    refine ⟨_, e5, fun S w0 ρ ac w o ho hF hI => ?_⟩
    have i2 := (hF.val h2 hv (ofOp_mem (by simp [Op.operands]))).inv_i
    have hfin : ∀ (es' : Array MapEntry) (W : World), EntR ρ es es'.toList → (∀ b, (Instr.checkKey b 10000 kt (.int kd a)).run P W = .ok () W) →
        ∃ x bo, ((do
          let (v, ok1) ← match ← Instr.findKey kt (.int kd a) es'.toList with
            | some (_, v) => pure (v, true)
            | none => pure (← zeroValue et, false)
          pure (if ok then .tuple #[v, .bool ok1] else v) : Sem Value).run P W = .ok (if ok then .tuple #[x, .bool bo] else x) W) ∧ (VR ρ (r.getD zero) x) ∧ bo = r.isSome := fun es' W hr hck => by
      rcases hf ρ es'.toList 0 hr with ⟨rfl, hn⟩ | ⟨u, j, v, rfl, hv', hn⟩
      · refine ⟨z, false, ?_, chkV_ok hzz ρ, rfl⟩
        simp [Instr.findKey, run_und hdk, hn, run_zer (zer_ok hT hz)]
      · refine ⟨v, true, ?_, hv', rfl⟩
        simp [Instr.findKey, run_und hdk, hn]
    have hck : ∀ (b : Bool), (Instr.checkKey b 10000 kt (.int kd a)).run P w = .ok () w := fun b => run_checkKey hdk b 9999 a
    have hmain : ∃ x bo, (Instr.lookup t (ac.eval m') (.int kd a) ok).run P w = .ok (if ok then .tuple #[x, .bool bo] else x) w ∧ (VR ρ (r.getD zero) x) ∧ bo = r.isSome := by
      rcases hm S w0 ρ w _ (hF.val h1 hu (ofOp_mem (by simp [Op.operands]))) hI with ⟨i1, rfl⟩ | ⟨b, es', clock, i1, hw, hr⟩
      · obtain ⟨x, bo, g1, g2, g3⟩ := hfin #[] w ⟨rfl, fun j e e' h => by simp at h⟩ hck
        refine ⟨x, bo, ?_, g2, g3⟩
        rw [i1]
        simp only [Instr.lookup, Sem.run_bind, run_und hd, Result.andThen_ok, Sem.run_pure, hck]
        simp only [Sem.run_bind] at g1
        exact g1
      · obtain ⟨x, bo, g1, g2, g3⟩ := hfin es' w hr hck
        refine ⟨x, bo, ?_, g2, g3⟩
        rw [i1]
        simp only [Instr.lookup, Sem.run_bind, run_und hd, Result.andThen_ok, Sem.run_pure, run_getMap hw, hck]
        simp only [Sem.run_bind] at g1
        exact g1
    obtain ⟨x, bo, g1, g2, rfl⟩ := hmain
    refine ⟨if ok then .tuple #[x, .bool r.isSome] else x, by simp [execOp, ho, i2, g1], ?_⟩
    cases ok
    · simpa using g2
    · have := (((VRs.nil (ρ := ρ)).cons (VR.b r.isSome)).cons g2).tu
      simpa using this
theorem s_tas {t : TypeId} {x : AX} (hT : TyOk P tt) (hc : chkS tt eqs op (.tas t x) = true) (e : sop h fr (.tas t x) k = true) : ∃ v, k v = true ∧ StillS P op h fr v := by
  obtain ⟨u, hu, e1⟩ := ev_val e
  clear e
  cases u <;> try (cases e1; done)
  rename_i s v
  obtain ⟨hst, e2⟩ := bif_t e1
  have hst : s = t := by simpa using hst
  subst hst
  cases op <;> simp only [chkS] at hc <;> try (cases hc; done)
  rename_i x' xt t' ok
  cases ok <;> simp only at hc <;> try (cases hc; done)
  simp only [Bool.and_eq_true, decide_eq_true_eq] at hc
  obtain ⟨⟨rfl, ct⟩, h1⟩ := hc
  obtain ⟨d, hd, hp⟩ := chkT_ok hT ct
  refine ⟨_, e2, fun S w0 ρ ac w o ho hF hI => ?_⟩
  obtain ⟨y, i1, j1⟩ := (hF.val h1 hu (ofOp_mem (by simp [Op.operands]))).inv_ifc
  refine ⟨.tuple #[y, .bool true], ?_, by have := (((VRs.nil (ρ := ρ)).cons (VR.b true)).cons j1).tu; simpa using this⟩
  cases d <;> simp only at hp <;> first | (cases hp; done) | simp [execOp, ho, i1, Instr.typeAssert, run_und hd]
theorem lastOf_ok : ∀ {l : List Nat} {b : Nat}, lastOf l = some b → l.toArray.back? = some b := by
  intro l
  induction l with
  | nil => intro b h; cases h
  | cons x l ih =>
    intro b h
    cases l with
    | nil => simp [lastOf] at h; simp [h]
    | cons y l =>
      have := ih (b := b) h
      simp only [List.back?_toArray] at this ⊢
      rw [List.getLast?_cons_cons]
      exact this
theorem fndB_ok {b : Nat} : ∀ {es : List (AV × AV × Nat)} {key v : AV}, fndB b es = some (key, v) → ∀ (ρ : M) (es' : List MapEntry), EntR ρ es es' → ∃ e, es'.find? (·.born == b) = some e ∧ VR ρ key e.key ∧ VR ρ v e.val := by
  intro es
  induction es with
  | nil => intro key v h; cases h
  | cons en es ih =>
    intro key v h ρ es' hr
    obtain ⟨k1, v1, n1⟩ := en
    cases es' with
    | nil => have := hr.1; simp at this
    | cons y ys =>
      obtain ⟨y1, y2, y3⟩ := hr.2 0 _ y rfl rfl
      simp only at y1 y2 y3
      simp only [fndB] at h
      cases hb : Nat.beq n1 b
      · rw [hb] at h
        have hne : (y.born == b) = false := by
          rw [y3, beq_eq_false_iff_ne]; rintro rfl; rw [Nat.beq_refl] at hb; cases hb
        rw [List.find?_cons, hne]
        exact ih h ρ ys ⟨by simpa using hr.1, fun j p q hp hq => hr.2 (j + 1) p q (by simpa using hp) (by simpa using hq)⟩
      · rw [hb] at h
        simp only [cond_true, Option.some.injEq, Prod.mk.injEq] at h
        obtain ⟨rfl, rfl⟩ := h
        have heq : (y.born == b) = true := by rw [y3]; simpa using hb
        exact ⟨y, by rw [List.find?_cons, heq], y1, y2⟩
theorem run_getIter {w : World} {b : Nat} {m : Option Nat} {a c : Nat} {l : Array Nat} (hw : w.heap[b]? = some (.mapIter m a l c)) : (getObj b).run P w = .ok (.mapIter m a l c) w := by
  simp [getObj, Sem.run, hw]
theorem s_entry {x : AX} (hc : chkS tt eqs op (.entry x) = true) (e : sop h fr (.entry x) k = true) : ∃ v, k v = true ∧ StillS P op h fr v := by
  obtain ⟨u, hu, e1⟩ := ev_val e
  clear e
  cases op <;> simp only [chkS] at hc <;> try (cases hc; done)
  rename_i x'
  cases u <;> try (cases e1; done)
  rename_i id off
  cases off with
  | succ off => cases e1
  | zero =>
    simp only at e1
    split at e1
    · rename_i m since seen stepped hg
      split at e1
      · rename_i es clock hgm
        split at e1
        · rename_i b hlast
          obtain ⟨hcs, e2⟩ := bif_t e1
          have hcs : clock = stepped := by simpa using hcs
          subst hcs
          cases hf : fndB b es with
          | none => simp only [hf] at e2; cases e2
          | some kv =>
            obtain ⟨key, v⟩ := kv
            simp only [hf] at e2
            refine ⟨_, e2, fun S w0 ρ ac w o ho hF hI => ?_⟩
            obtain ⟨q, hq, i1⟩ := (hF.val hc hu (ofOp_mem (by simp [Op.operands]))).inv_p
            obtain ⟨q', hq', _, ob, hw, hsh, qm, hqm, rfl⟩ := hI.obj id _ hg trivial
            rw [hq] at hq'; injection hq' with hq'; subst hq'
            obtain ⟨qm', hqm', _, ob, hw2, es', rfl, hr⟩ := hI.obj m _ hgm trivial
            rw [hqm] at hqm'; injection hqm' with hqm'; subst hqm'
            obtain ⟨en, h1, h2, h3⟩ := fndB_ok hf ρ es'.toList hr
            refine ⟨.tuple #[en.key, en.val], ?_, by have := ((VRs.nil.cons h3).cons h2).tu; simpa using this⟩
            have hl := lastOf_ok hlast
            rw [hsh, Nat.zero_add] at i1
            have h1' : es'.find? (fun e => e.born == b) = some en := by simpa using h1
            simp [execOp, ho, i1, Instr.entry, run_getIter hw, hl, run_getMap hw2, h1']
        · cases e1
      · cases e1
    · cases e1
end
end
end Go.RE
/- All still operations; new memory; stores. -/
namespace Go.RE
open Go.RowKit
noncomputable section
section
variable {P : Program} {tt : T TypeInfo} {eqs : TypeId → Option (List IntKind)} {h : Hp} {fr : T AV} {k : AV → Bool} {op : Op}
theorem sop_ok (hT : TyOk P tt) (hE : EqOk P eqs) {s : SOp} (hc : chkS tt eqs op s = true) (e : sop h fr s k = true) : ∃ v, k v = true ∧ StillS P op h fr v := by
  cases s with
  | mv x => exact s_mv hc e
  | pick c a b => exact s_pick hc e
  | bin o x y => exact s_bin hc e
  | eqb n x y => exact s_eqb hT hc e
  | cmpA ks n x y => exact s_cmpA hE hc e
  | nilp n x y => exact s_nilp hT hc e
  | nils n x y => exact s_nils hT hc e
  | nili n x y => exact s_nili hT hc e
  | un o x => exact s_un hc e
  | cvi kd x => exact s_cvi hT hc e
  | cvb x => exact s_cvb hT hc e
  | ld1 x => exact s_ld1 hT hc e
  | ldn n x => exact s_ldn hT hc e
  | nilc x => exact s_nilc hc e
  | fa off x => exact s_fa hT hc e
  | fld1 off x => exact s_fld1 hT hc e
  | fldn off n x => exact s_fldn hT hc e
  | ia z x ix => exact s_ia hT hc e
  | iaa n z x ix => exact s_iaa hT hc e
  | ixs x ix => exact s_ixs hT hc e
  | sls x lo hi => exact s_sls hT hc e
  | slc z x lo hi mx => exact s_slc hT hc e
  | sla n z x lo hi => exact s_sla hT hc e
  | mkif t x => exact s_mkif hT hc e
  | mkfn f a b => exact s_mkfn hc e
  | ext x i => exact s_ext hc e
  | build zs ps => exact s_build hT hc e
  | len x => exact s_len hT hc e
  | lens x => exact s_lens hT hc e
  | lenm x => exact s_lenm hT hc e
  | mx x y => exact s_mx hc e
  | mn x y => exact s_mn hc e
  | lkp z o m key => exact s_lkp hT hc e
  | tas t x => exact s_tas hT hc e
  | entry x => exact s_entry hc e
end

/-! ### trees out of lists -/
def putL (c : T AV) (o : Nat) : List AV → T AV
  | [] => c
  | v :: vs => putL (c.put o v) (o + 1) vs
theorem get_putL : ∀ (vs : List AV) (c : T AV) (o j : Nat), (putL c o vs).get j = if o ≤ j ∧ j < o + vs.length then vs[j - o]? else c.get j := by
  intro vs
  induction vs with
  | nil =>
    intro c o j
    simp only [putL, List.length_nil, Nat.add_zero]
    rw [if_neg (by omega)]
  | cons v vs ih =>
    intro c o j
    simp only [putL]
    rw [ih, T.get_put]
    simp only [List.length_cons]
    by_cases h1 : o + 1 ≤ j ∧ j < o + 1 + vs.length
    · rw [if_pos h1, if_pos (by omega), show j - o = (j - (o + 1)) + 1 by omega, List.getElem?_cons_succ]
    · rw [if_neg h1]
      by_cases h2 : j = o
      · subst h2; rw [if_pos rfl, if_pos (by omega)]; simp
      · rw [if_neg h2, if_neg (by omega)]
/-- The same value everywhere. -/
def T.full {α : Type} (v : α) (d : Nat) : T α := Nat.rec .e (fun _ t => .n (some v) t t) d
theorem T.get_full {α : Type} (v : α) : ∀ (d j : Nat) (u : α), (T.full v d).get j = some u → u = v := by
  intro d
  induction d with
  | zero => intro j u h; cases h
  | succ d ih =>
    intro j u h
    have e : T.full v (d + 1) = .n (some v) (T.full v d) (T.full v d) := rfl
    rw [e] at h
    cases j with
    | zero => injection h with h; exact h.symm
    | succ j => rw [T.get_s] at h; split at h <;> exact ih _ _ h

/-! ### new memory -/
inductive FOp where
  | alloc (z : List AV)
  | box (x : AX)
  | bsl (z len : Nat) (zs : List AV) (ps : List (Nat × Nat × AX))
  | mks (bytes : Nat) (v : AV) (l : AX)
  | mkm
def fop (fr : T AV) (o : FOp) (id : Nat) (k : AV → AO → Bool) : Bool :=
  match o with
  | .alloc z => k (.p id 0) (.cells (putL .e 0 z) z.length)
  | .box x => ev fr x fun v => k (.p id 0) (.cells (putL .e 0 v.cells) v.cells.length)
  | .bsl z len zs ps => evps fr ps fun vs => fillA zs vs fun cs => k (.sl id 0 len len true z) (.cells (putL .e 0 cs) cs.length)
  | .mks bytes v l => ev fr l fun u => asN u fun n => bif Nat.ble (bytes * n) 281474976710656 && Nat.ble n 9223372036854775807 then k (.sl id 0 n n true 1) (.cells (T.full v 50) n) else false
  | .mkm => k (.m id) (.map [] 0)
theorem foldl_size : ∀ (l : List (Value × Nat)) (off : Nat) (cs : Array Value), (l.foldl (fun (cs : Array Value) x => cs.setIfInBounds (off + x.2) x.1) cs).size = cs.size := by
  intro l
  induction l with
  | nil => intro off cs; rfl
  | cons x l ih => intro off cs; rw [List.foldl_cons, ih]; simp
theorem fill_size {place : Nat → Option (Nat × Nat)} : ∀ {ps : List (Nat × Value)} {us us' : Array Value}, Instr.fill place us ps = some us' → us'.size = us.size := by
  intro ps
  induction ps with
  | nil => intro us us' h; injection h with h; rw [h]
  | cons p ps ih =>
    intro us us' h
    obtain ⟨i, v⟩ := p
    simp only [Instr.fill] at h
    split at h
    · cases h
    · split at h
      · cases h
      · rw [ih h, ← Array.foldl_toList]
        exact foldl_size _ _ _
def chkPartsS (tt : T TypeInfo) (n : Nat) : List (Nat × Operand) → List (Nat × Nat × AX) → Bool
  | [], [] => true
  | (i, o) :: ps, (off, m, x) :: qs => decide (off = i * n) && decide (m = n) && chkX o x && chkPartsS tt n ps qs
  | _, _ => false
def chkF (tt : T TypeInfo) (o : Op) (f : FOp) : Bool :=
  match f with
  | .alloc z => match o with
    | .alloc t => (match zer tt t with | some v => chkVs v.cells.toList z | none => false)
    | _ => false
  | .box x => match o with
    | .box _ x' => chkX x' x
    | _ => false
  | .bsl z len zs ps => match o with
    | .buildSlice t n parts => decide (n = len) && chkT tt t (fun d => match d with | .slice e => sizIs tt e z && (match zer tt e with | some v => chkVs ((Array.range (len * z)).map (v.cells[· % v.cells.size]!)).toList zs | none => false) | _ => false) &&
        decide (len ≤ 16777216 ∧ len * z ≤ 16777216) && decide (len * z ≠ 0 ∨ parts.toList = []) && chkPartsS tt z parts.toList ps
    | _ => false
  | .mks bytes v l => match o with
    | .makeSlice t l' c' => chkT tt t (fun d => match d with | .slice e => (match tt.get e with | some i => decide (i.size = 1) && decide (i.bytes = bytes) && (match i.zero with | some z => chkVs z.cells.toList [v] | none => false) | none => false) | _ => false) && chkX l' l && chkX c' l
    | _ => false
  | .mkm => match o with
    | .makeMap _ none => true
    | _ => false
/-- The operation makes one object. -/
def FloatS (P : Program) (op : Op) (fr : T AV) (id : Nat) (v : AV) (a : AO) : Prop :=
  ∀ (ρ : M) (ac : Act) (w : World) (o : Oper), o.op = op → FRon ρ (ofOp op) fr ac → ρ id = none → ∃ v' ob n, (execOp ac.eval o).run P w = .ok (.value v') (w.alloc ob) ∧
    VR (ρ.put id ⟨w.heap.size, 0, n⟩) v v' ∧ ObR (ρ.put id ⟨w.heap.size, 0, n⟩) ⟨w.heap.size, 0, n⟩ a ob
theorem cells_new {ρ : M} {b : Nat} {vs : List AV} {cs : Array Value} (h : VRs ρ vs cs.toList) : CellsR ρ ⟨b, 0, cs.size⟩ (putL .e 0 vs) vs.length cs (0, 0) := by
  refine ⟨by simp, by have := h.1; simp at this; simp [this], fun j v hv hj => ?_, .inl rfl⟩
  rw [get_putL, if_pos (by omega)] at hv
  obtain ⟨u, h1, h2⟩ := h.at_ hv
  exact ⟨u, by simpa using h1, h2⟩
section
variable {P : Program} {tt : T TypeInfo} {h : Hp} {fr : T AV} {op : Op}
theorem chkPartsS_ok {n : Nat} : ∀ {ps : List (Nat × Operand)} {qs : List (Nat × Nat × AX)} {ρ : M} {D : Nat → Prop} {a : Act} {vs : List (Nat × Nat × AV)}, chkPartsS tt n ps qs = true → FRon ρ D fr a → (∀ p ∈ ps, ∀ s, p.2 = .tmp s → D s) →
    (∃ l : List AV, vals fr (qs.map (·.2.2)) = some l ∧ vs = (qs.zip l).map fun x => (x.1.1, x.1.2.1, x.2)) →
    vs.length = ps.length ∧ ∀ (j : Nat) (p : Nat × Nat × AV) (q : Nat × Value), vs[j]? = some p → (ps.map fun (i, x) => (i, a.eval x))[j]? = some q → (fun i => some (i * n, n)) q.1 = some (p.1, p.2.1) ∧ VR ρ p.2.2 q.2 := by
  intro ps
  induction ps with
  | nil =>
    intro qs ρ D a vs hc hF hD hv
    cases qs with
    | nil => obtain ⟨l, h1, rfl⟩ := hv; exact ⟨by simp, fun j p q h => by simp at h⟩
    | cons q qs => cases hc
  | cons p ps ih =>
    intro qs ρ D a vs hc hF hD hv
    cases qs with
    | nil => obtain ⟨i, o⟩ := p; cases hc
    | cons q qs =>
      obtain ⟨i, o⟩ := p
      obtain ⟨off, m, x⟩ := q
      simp only [chkPartsS, Bool.and_eq_true, decide_eq_true_eq] at hc
      obtain ⟨⟨⟨rfl, rfl⟩, h2⟩, h3⟩ := hc
      obtain ⟨l, h4, rfl⟩ := hv
      simp only [List.map_cons, vals] at h4
      split at h4
      · rename_i v ws hv hws
        injection h4 with h4
        subst h4
        have hi := ih (qs := qs) (vs := (qs.zip ws).map fun x => (x.1.1, x.1.2.1, x.2)) h3 hF (fun p hp => hD p (List.mem_cons_of_mem _ hp)) ⟨ws, hws, rfl⟩
        refine ⟨by simpa using hi.1, fun j p q hp hq => ?_⟩
        cases j with
        | zero =>
          simp at hp hq
          subst hp; subst hq
          exact ⟨rfl, hF.val h2 hv fun s hs => hD (i, o) (List.mem_cons_self ..) s hs⟩
        | succ j => exact hi.2 j p q (by simpa using hp) (by simpa using hq)
      · cases h4
theorem fop_ok (hT : TyOk P tt) {f : FOp} {id : Nat} {k : AV → AO → Bool} (hc : chkF tt op f = true) (e : fop fr f id k = true) : ∃ v a, k v a = true ∧ a.live ∧ FloatS P op fr id v a := by
  cases f with
  | alloc z =>
    cases op <;> simp only [chkF] at hc <;> try (cases hc; done)
    rename_i t
    cases hz : zer tt t with
    | none => rw [hz] at hc; cases hc
    | some v =>
      simp only [hz] at hc
      refine ⟨_, _, e, trivial, fun ρ ac w o ho hF hid => ⟨_, .cells v.cells t, v.cells.size, ?_, .p _ _ _ (M.put_same _ _ _), ?_⟩⟩
      · simp [execOp, ho, Instr.alloc, run_zer (zer_ok hT hz), newVar, newRow]
      · exact ⟨_, _, _, rfl, cells_new (chkVs_ok hc _)⟩
  | box x =>
    obtain ⟨v, hv, e1⟩ := ev_val e
    cases op <;> simp only [chkF] at hc <;> try (cases hc; done)
    rename_i t x'
    refine ⟨_, _, e1, trivial, fun ρ ac w o ho hF hid => ⟨_, .cells (ac.eval x').cells t, (ac.eval x').cells.size, ?_, .p _ _ _ (M.put_same _ _ _), ?_⟩⟩
    · simp [execOp, ho, Instr.box, newVar, newRow]
    · exact ⟨_, _, _, rfl, cells_new ((hF.val hc hv (ofOp_mem (by simp [Op.operands]))).cells.ext (M.put_ext _ _ hid))⟩
  | bsl z len zs ps =>
    obtain ⟨vs, hvs, e1⟩ := evps_vals e
    obtain ⟨cs', hR, e2⟩ := fillA_R e1
    clear e e1
    cases op <;> simp only [chkF] at hc <;> try (cases hc; done)
    rename_i t n parts
    simp only [Bool.and_eq_true, decide_eq_true_eq] at hc
    obtain ⟨⟨⟨⟨rfl, ct⟩, hsm⟩, hne⟩, hpt⟩ := hc
    obtain ⟨d, hd, hp⟩ := chkT_ok hT ct
    cases d <;> simp only at hp <;> try (cases hp; done)
    rename_i el
    rw [Bool.and_eq_true] at hp
    obtain ⟨i, hi, rfl⟩ := sizIs_ok hT hp.1
    cases hz : zer tt el with
    | none => have := hp.2; rw [hz] at this; cases this
    | some zv =>
      have hzs := hp.2
      simp only [hz] at hzs
      obtain ⟨i', hi', hiz⟩ := zer_ok hT hz
      rw [hi] at hi'; injection hi' with hi'; subst hi'
      refine ⟨_, _, e2, trivial, fun ρ ac w o ho hF hid => ?_⟩
      obtain ⟨hl, hpp⟩ := chkPartsS_ok hpt hF (fun p hp => ofOp_mem (by
        simp only [Op.operands, List.mem_toArray, List.mem_map]
        exact ⟨p, hp, rfl⟩)) hvs
      obtain ⟨us', h1, h2⟩ := fillR_ok (place := fun j => some (j * i.size, i.size)) (qs := (parts.map fun (i, x) => (i, ac.eval x)).toList) (us := (Array.range (n * i.size)).map (zv.cells[· % zv.cells.size]!)) hR (chkVs_ok hzs ρ) (by simpa using hl) (fun j p q h1 h2 => hpp j p q h1 (by simpa using h2))
      have hsz : us'.size = n * i.size := by
        have h3 := fill_size h1
        rw [h3]; simp
      refine ⟨.slice (some ⟨w.heap.size, 0, none⟩) n n, .cells us' el, us'.size, ?_, .sl _ _ _ _ _ _ _ _ _ (M.put_same _ _ _) (Nat.le_refl _) (Nat.le_refl _) (fun _ => rfl) ?_ ⟨rfl, .inr ⟨rfl, ?_⟩⟩, ?_⟩
      · by_cases h0 : n * i.size = 0
        · have hpe : parts.toList = [] := by rcases hne with h | h; exact absurd h0 h; exact h
          have hus : us' = #[] := Array.eq_empty_of_size_eq_zero (by rw [hsz, h0])
          subst hus
          have hpa : (parts.map fun (i, x) => (i, ac.eval x)).toList = [] := by simp [hpe]
          have hpb : parts = #[] := by simpa using hpe
          simp [execOp, ho, Instr.buildSlice, run_und hd, run_siz ⟨i, hi, rfl⟩, h0, hpb, Instr.fill, newRow, Array.range_zero']
        · simp only [execOp, ho, Sem.run_bind, run_buildSlice w t el n _ us' i zv hd hi hiz (by omega) h0 h1, Result.andThen_ok, Sem.run_pure]
      · unfold maxLen; omega
      · simp [hsz]
      · have e3 := cells_new (b := w.heap.size) (h2.ext (M.put_ext ρ ⟨w.heap.size, 0, us'.size⟩ hid))
        exact ⟨_, _, _, rfl, e3⟩
  | mks bytes v l =>
    obtain ⟨u, hu, e1⟩ := ev_val e
    obtain ⟨kd, n, rfl, e2⟩ := asN_ok e1
    obtain ⟨hb, e3⟩ := bif_t e2
    clear e e1 e2
    simp only [Bool.and_eq_true, Nat.ble_eq] at hb
    cases op <;> simp only [chkF] at hc <;> try (cases hc; done)
    rename_i t l' c'
    simp only [Bool.and_eq_true] at hc
    obtain ⟨⟨ct, h1⟩, h2⟩ := hc
    obtain ⟨d, hd, hp⟩ := chkT_ok hT ct
    cases d <;> simp only at hp <;> try (cases hp; done)
    rename_i el
    cases hi : tt.get el with
    | none => rw [hi] at hp; cases hp
    | some i =>
      simp only [hi, Bool.and_eq_true, decide_eq_true_eq] at hp
      obtain ⟨⟨hs1, rfl⟩, hz⟩ := hp
      have hinfo := hT el i hi
      cases hzz : i.zero with
      | none => rw [hzz] at hz; cases hz
      | some z =>
        simp only [hzz] at hz
        refine ⟨_, _, e3, trivial, fun ρ ac w o ho hF hid => ?_⟩
        have i1 := (hF.val h1 hu (ofOp_mem (by simp [Op.operands]))).inv_i
        have i2 := (hF.val h2 hu (ofOp_mem (by simp [Op.operands]))).inv_i
        have hbz : (i.bytes : Int) * (n : Int) ≤ 281474976710656 := by
          have : ((i.bytes * n : Nat) : Int) ≤ 281474976710656 := by omega
          rwa [Int.natCast_mul] at this
        have hr := run_make (P := P) w t el i z hd hinfo hzz kd kd n n (by omega) (Int.le_refl _) hbz (by omega)
        simp only [Int.toNat_natCast, hs1, Nat.mul_one] at hr
        have hsize : (madeCells z.cells n).size = n := size_madeCells _ _
        refine ⟨.slice (some ⟨w.heap.size, 0, none⟩) n n, .cells (madeCells z.cells n) el, n, by simp [execOp, ho, i1, i2, hr], .sl _ _ _ _ _ _ _ _ _ (M.put_same _ _ _) (Nat.le_refl _) (Nat.le_refl _) (fun _ => rfl) (by unfold maxLen; omega) ⟨rfl, .inr ⟨rfl, by show 0 + n * 1 ≤ n; omega⟩⟩, ?_⟩
        refine ⟨_, _, _, rfl, ⟨by simp [hsize], Nat.le_refl _, fun j u hu hj => ?_, .inl rfl⟩⟩
        have hv := T.get_full _ _ _ _ hu
        rw [hv]
        clear hu hv u
        have hzr := chkVs_ok hz (ρ.put id ⟨w.heap.size, 0, n⟩)
        obtain ⟨x, hx, hxr⟩ := hzr.at_ (j := 0) (u := v) rfl
        have hz1 : z.cells.size = 1 := by have := hzr.1; simp at this; omega
        refine ⟨x, ?_, hxr⟩
        simp only [madeCells, Nat.zero_add]
        rw [Array.getElem?_map, Array.getElem?_range, if_pos hj]
        have : z.cells[0]? = some x := by simpa using hx
        simp only [Option.map_some, hz1, Nat.mod_one]
        have h0 : z.cells[0]! = x := by rw [getElem!_def, this]
        rw [h0]
  | mkm =>
    cases op <;> simp only [chkF] at hc <;> try (cases hc; done)
    rename_i t r
    cases r <;> simp only at hc <;> try (cases hc; done)
    refine ⟨_, _, e, trivial, fun ρ ac w o ho hF hid => ⟨_, .map #[] 0, 0, ?_, .m _ _ (M.put_same _ _ _), ?_⟩⟩
    · simp [execOp, ho, Instr.makeMap]
    · exact ⟨#[], rfl, rfl, fun j a b h => by simp at h⟩
end
end
end Go.RE
