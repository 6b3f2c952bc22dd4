import Derived.Test.YtkemmffdiclloaaGreatDoorRc
set_option linter.unusedVariables false
set_option linter.unusedSimpArgs false
/- The run of a closed text. -/
namespace Go.RE
open Go.RowKit
noncomputable section
inductive AOp where
  | s (o : SOp)
  | f (o : FOp)
  | e (o : EOp)
  | call (f : FuncId) (args : List AX)
  | dyn (f : AX) (args : List AX)
  | inv (x : AX) (name : String) (args : List AX)
  | bad
/-- An operation: where its value goes, what guards it. -/
inductive AOper where
  | mk (d : Option Nat) (g : Option (Nat × Bool)) (op : AOp)
inductive DI where
  | st (i : Nat) (o : AOper)
  | fl (i : Nat) (o : AOper) (j : Nat)
  | ef (i : Nat) (o : AOper) (use : List Nat) (re : List (AOper))
inductive AC where
  | skip
  | reg (ops : List AOper)
  | dreg (nf : Nat) (items : List DI)
  | seq (a b : AC)
  | cond (c : AX) (a b : AC)
  | block (id : Nat) (a : AC)
  | loop (a : AC)
  | exit (id : Nat)
  | ret
  | bad
inductive X where
  | normal
  | exit (id : Nat)
  | ret
inductive ARes where
  | t (n : Nat)
  | c1 (n : Nat)
  | cn (n m : Nat)
inductive AFn where
  | code (n : Nat) (c : AC) (res : List ARes)
  | sum (g : List AV → Hp → Option AV)
  | ext (g : List AV → Option AV)
/-- Methods, by type and name: the function, and whether its receiver is the pointer. -/
abbrev MT := TypeId → String → Option (FuncId × Bool)
def putD (fr : T AV) (d : Option Nat) (v : AV) : T AV := match d with
  | some t => fr.put t v
  | none => fr
abbrev CK := FuncId → List AV → Hp → (AV → Hp → Bool) → Bool
/-- What a guarded operation is to do. -/
def wantB (fr : T AV) (g : Option (Nat × Bool)) (yes no : Bool) : Bool := match g with
  | none => yes
  | some (s, want) => match fr.get s with
    | some (.b x) => bif x == want then yes else no
    | some (.tu _) => no
    | _ => false
def doOp (ck : CK) (mt : MT) (op : AOp) (fr : T AV) (h : Hp) (k : AV → Hp → Bool) : Bool := match op with
  | .s so => sop h fr so fun v => k v h
  | .f fo => fop fr fo h.n fun v a => k v ⟨h.t.put h.n a, h.n + 1⟩
  | .e eo => eop h fr eo k
  | .call f args => evs fr args fun vs => ck f vs h k
  | .dyn f args => ev fr f fun fv => evs fr args fun vs => match fv with
    | .f fn a b => match fn with
      | .func g => ck g (a ++ vs ++ b) h k
      | _ => false
    | _ => false
  | .inv x name args => ev fr x fun u => evs fr args fun vs => match u with
    | .ifc t (.p id o) => match mt t name with
      | some (f, true) => ck f (.p id o :: vs) h k
      | some (f, false) => rdC h id fun c lim => rd1 c lim o fun v => ck f (v :: vs) h k
      | none => false
    | _ => false
  | .bad => false
def runOp (ck : CK) (mt : MT) (o : AOper) (fr : T AV) (h : Hp) (k : T AV → Hp → Bool) : Bool := match o with
  | .mk d g op => wantB fr g (doOp ck mt op fr h fun v h' => k (putD fr d v) h') (k (putD fr d (.tu [])) h)
def runOps (ck : CK) (mt : MT) : List AOper → T AV → Hp → (T AV → Hp → Bool) → Bool
  | [], fr, h, k => k fr h
  | o :: os, fr, h, k => runOp ck mt o fr h fun fr' h' => runOps ck mt os fr' h' k
/-! #### regions that draw their order -/
def fnEq (a b : Fn) : Bool := match a with
  | .func f => match b with
    | .func g => Nat.beq f g
    | _ => false
  | _ => false
mutual
def aeq : AV → AV → Bool
  | .b x, .b y => x == y
  | .i k n, .i j m => kEq k j && iEq n m
  | .s l, .s m => lEq l m
  | .pn, .pn => true
  | .p a b, .p c d => Nat.beq a c && Nat.beq b d
  | .sn, .sn => true
  | .sl a b c d e f, .sl a' b' c' d' e' f' => Nat.beq a a' && Nat.beq b b' && Nat.beq c c' && Nat.beq d d' && (e == e') && Nat.beq f f'
  | .mn, .mn => true
  | .m a, .m b => Nat.beq a b
  | .nf, .nf => true
  | .nif, .nif => true
  | .f fn x y, .f fn' x' y' => fnEq fn fn' && aeqs x x' && aeqs y y'
  | .ag l, .ag m => aeqs l m
  | .tu l, .tu m => aeqs l m
  | _, _ => false
def aeqs : List AV → List AV → Bool
  | [], [] => true
  | a :: l, b :: m => aeq a b && aeqs l m
  | _, _ => false
end
def recheck (h : Hp) (fr : T AV) : List AOper → Bool
  | [] => true
  | .mk d g op :: os => (match op with
    | .s so => wantB fr g (sop h fr so fun v => match d with
      | some t => match fr.get t with
        | some u => aeq u v
        | none => false
      | none => false) true
    | _ => false) && recheck h fr os
abbrev Pend := List (Nat × Nat × AO)
def joinF (t : T AO) : List Nat → Pend → T AO
  | _, [] => t
  | use, (j, id, a) :: ps => bif memN j use then joinF (t.put id a) use ps else joinF t use ps
def leftF : List Nat → Pend → Pend
  | _, [] => []
  | use, (j, id, a) :: ps => bif memN j use then leftF use ps else (j, id, a) :: leftF use ps
def noneAt (t : T AO) (base : Nat) : Nat → Bool
  | 0 => true
  | n + 1 => (match t.get (base + n) with
    | none => true
    | some _ => false) && noneAt t base n
/-- The ids from base on, but those that were joined. -/
def noneBut (t : T AO) (base : Nat) (joined : List Nat) : Nat → Bool
  | 0 => true
  | n + 1 => (bif memN n joined then true else match t.get (base + n) with
    | none => true
    | some _ => false) && noneBut t base joined n
/-- An operation, or nothing where its guard says so. -/
def efOp (ck : CK) (mt : MT) (g : Option (Nat × Bool)) (op : AOp) (fr : T AV) (h : Hp) (k : AV → Hp → Bool) : Bool := wantB fr g (doOp ck mt op fr h k) (k (.tu []) h)
def drun (ck : CK) (mt : MT) (base nf : Nat) : List DI → List Nat → Pend → T AV → Hp → (T AV → Hp → Bool) → Bool
  | [], _, ps, fr, h, k => k fr ⟨joinF h.t (List.range nf) ps, h.n⟩
  | .st _ (.mk d g op) :: is, jn, ps, fr, h, k => (match op with
    | .s so => wantB fr g (sop h fr so fun v => drun ck mt base nf is jn ps (putD fr d v) h k) (drun ck mt base nf is jn ps (putD fr d (.tu [])) h k)
    | _ => false)
  | .fl _ (.mk d g op) j :: is, jn, ps, fr, h, k => (match op with
    | .f fo => match g with
      | none => fop fr fo (base + j) fun v a => drun ck mt base nf is jn ((j, base + j, a) :: ps) (putD fr d v) h k
      | some _ => false
    | _ => false)
  | .ef _ (.mk d g op) use re :: is, jn, ps, fr, h, k =>
    efOp ck mt g op fr ⟨joinF h.t use ps, h.n⟩ fun v h2 => recheck h2 fr re && (noneBut h2.t base (use ++ jn) nf && drun ck mt base nf is (use ++ jn) (leftF use ps) (putD fr d v) h2 k)
def resOf (fr : T AV) (h : Hp) : List ARes → (List AV → Bool) → Bool
  | [], k => k []
  | .t n :: rs, k => match fr.get n with
    | some v => resOf fr h rs fun vs => k (v :: vs)
    | none => false
  | .c1 n :: rs, k => match fr.get n with
    | some (.p id o) => rdC h id fun c lim => rd1 c lim o fun v => resOf fr h rs fun vs => k (v :: vs)
    | _ => false
  | .cn n m :: rs, k => match fr.get n with
    | some (.p id o) => rdC h id fun c lim => rdn c lim m o fun us => resOf fr h rs fun vs => k (.ag us :: vs)
    | _ => false
def packR : List AV → AV
  | [v] => v
  | vs => .tu vs
def callF (ih : AC → T AV → Hp → (X → T AV → Hp → Bool) → Bool) (tbl : T AFn) : CK := fun f args h k => match tbl.get f with
  | some (.code _ c res) => ih c (putL .e 0 args) h fun x fr h' => match x with
    | .exit _ => false
    | _ => resOf fr h' res fun vs => k (packR vs) h'
  | some (.sum g) => match g args h with
    | some v => k v h
    | none => false
  | some (.ext g) => match g args with
    | some v => k v h
    | none => false
  | none => false
def runB (tbl : T AFn) (mt : MT) (ih : AC → T AV → Hp → (X → T AV → Hp → Bool) → Bool) (c : AC) (fr : T AV) (h : Hp) (k : X → T AV → Hp → Bool) : Bool := match c with
  | .skip => k .normal fr h
  | .reg ops => runOps (callF ih tbl) mt ops fr h fun fr' h' => k .normal fr' h'
  | .dreg nf items => bif noneAt h.t h.n nf then drun (callF ih tbl) mt h.n nf items [] [] fr ⟨h.t, h.n + nf⟩ fun fr' h' => k .normal fr' h' else false
  | .seq a b => ih a fr h fun x fr' h' => match x with
    | .normal => ih b fr' h' k
    | _ => k x fr' h'
  | .cond c a b => ev fr c fun v => match v with
    | .b t => bif t then ih a fr h k else ih b fr h k
    | _ => false
  | .block id a => ih a fr h fun x fr' h' => match x with
    | .exit j => bif Nat.beq j id then k .normal fr' h' else k x fr' h'
    | _ => k x fr' h'
  | .loop a => ih a fr h fun x fr' h' => match x with
    | .normal => ih (.loop a) fr' h' k
    | _ => k x fr' h'
  | .exit id => k (.exit id) fr h
  | .ret => k .ret fr h
  | .bad => false
def run (tbl : T AFn) (mt : MT) (f : Nat) : AC → T AV → Hp → (X → T AV → Hp → Bool) → Bool := Nat.rec (fun _ _ _ _ => false) (fun _ ih => runB tbl mt ih) f
end
end Go.RE
/- The run, quick for the kernel: recursors with closed minors, and values in normal form. -/
namespace Go.RE
open Go.RowKit
noncomputable section
/-! ### normal forms -/
def nN (n : Nat) (k : Nat → Bool) : Bool := Nat.rec (k (nat_lit 0)) (fun m _ => k (Nat.succ m)) n
theorem nN_eq (n : Nat) (k : Nat → Bool) : nN n k = k n := by cases n <;> rfl
def bN (b : Bool) (k : Bool → Bool) : Bool := Bool.rec (k false) (k true) b
theorem bN_eq (b : Bool) (k : Bool → Bool) : bN b k = k b := by cases b <;> rfl
def iN (n : Int) (k : Int → Bool) : Bool := Int.rec (motive := fun _ => (Int → Bool) → Bool) (fun m k => nN m fun m' => k (.ofNat m')) (fun m k => nN m fun m' => k (.negSucc m')) n k
theorem iN_eq (n : Int) (k : Int → Bool) : iN n k = k n := by cases n <;> simp only [iN, nN_eq]
def lN (l : List Nat) (k : List Nat → Bool) : Bool := List.rec (motive := fun _ => (List Nat → Bool) → Bool) (fun k => k []) (fun a _ ih k => nN a fun a' => ih fun l' => k (a' :: l')) l k
theorem lN_eq : ∀ (l : List Nat) (k : List Nat → Bool), lN l k = k l := by
  intro l
  induction l with
  | nil => intro k; rfl
  | cons a l ih =>
    intro k
    show nN a (fun a' => lN l fun l' => k (a' :: l')) = _
    rw [nN_eq, ih]
/-- The spine of a list. -/
def spN {α : Type} (l : List α) (k : List α → Bool) : Bool := List.rec (motive := fun _ => (List α → Bool) → Bool) (fun k => k []) (fun a _ ih k => ih fun l' => k (a :: l')) l k
theorem spN_eq {α : Type} : ∀ (l : List α) (k : List α → Bool), spN l k = k l := by
  intro l
  induction l with
  | nil => intro k; rfl
  | cons a l ih => intro k; exact (ih _).trans rfl
def vN (v : AV) (k : AV → Bool) : Bool := AV.rec (motive_1 := fun _ => (AV → Bool) → Bool) (motive_2 := fun _ => (List AV → Bool) → Bool) (fun x k => bN x fun x => k (.b x)) (fun kd n k => iN n fun n => k (.i kd n)) (fun l k => lN l fun l => k (.s l)) (fun k => k .pn) (fun id o k => nN id fun id => nN o fun o => k (.p id o)) (fun k => k .sn) (fun id o n c x z k => nN id fun id => nN o fun o => nN n fun n => nN c fun c => bN x fun x => nN z fun z => k (.sl id o n c x z)) (fun k => k .mn) (fun id k => nN id fun id => k (.m id)) (fun fn _ _ ha hb k => ha fun a => hb fun b => k (.f fn a b)) (fun k => k .nf) (fun t _ hv k => hv fun v => k (.ifc t v)) (fun k => k .nif) (fun _ hl k => hl fun l => k (.ag l)) (fun _ hl k => hl fun l => k (.tu l)) (fun k => k []) (fun _ _ ha hl k => ha fun a => hl fun l => k (a :: l)) v k
mutual
theorem vN_eq : ∀ (v : AV) (k : AV → Bool), vN v k = k v
  | .b x, k => by simp only [vN, bN_eq]
  | .i kd n, k => by simp only [vN, iN_eq]
  | .s l, k => by simp only [vN, lN_eq]
  | .pn, k => rfl
  | .p id o, k => by simp only [vN, nN_eq]
  | .sn, k => rfl
  | .sl id o n c x z, k => by simp only [vN, nN_eq, bN_eq]
  | .mn, k => rfl
  | .m id, k => by simp only [vN, nN_eq]
  | .f fn a b, k => by
    refine (vsN_eq a _).trans ?_
    exact (vsN_eq b _).trans rfl
  | .nf, k => rfl
  | .ifc t v, k => (vN_eq v _).trans rfl
  | .nif, k => rfl
  | .ag l, k => (vsN_eq l _).trans rfl
  | .tu l, k => (vsN_eq l _).trans rfl
theorem vsN_eq : ∀ (l : List AV) (k : List AV → Bool), (AV.rec_1 (motive_1 := fun _ => (AV → Bool) → Bool) (motive_2 := fun _ => (List AV → Bool) → Bool) (fun x k => bN x fun x => k (.b x)) (fun kd n k => iN n fun n => k (.i kd n)) (fun l k => lN l fun l => k (.s l)) (fun k => k .pn) (fun id o k => nN id fun id => nN o fun o => k (.p id o)) (fun k => k .sn) (fun id o n c x z k => nN id fun id => nN o fun o => nN n fun n => nN c fun c => bN x fun x => nN z fun z => k (.sl id o n c x z)) (fun k => k .mn) (fun id k => nN id fun id => k (.m id)) (fun fn _ _ ha hb k => ha fun a => hb fun b => k (.f fn a b)) (fun k => k .nf) (fun t _ hv k => hv fun v => k (.ifc t v)) (fun k => k .nif) (fun _ hl k => hl fun l => k (.ag l)) (fun _ hl k => hl fun l => k (.tu l)) (fun k => k []) (fun _ _ ha hl k => ha fun a => hl fun l => k (a :: l)) l k : Bool) = k l
  | [], k => rfl
  | a :: l, k => by
    refine (vN_eq a _).trans ?_
    exact (vsN_eq l _).trans rfl
end
/-! ### trees -/
section
variable {α : Type}
def gK (t : T α) (k : α → Bool) (i : Nat) : Bool := T.rec (motive := fun _ => (α → Bool) → Nat → Bool) (fun _ _ => false)
  (fun v _ _ hl hr k i => Nat.rec (Option.rec false k v) (fun j _ => Bool.rec (hr k (Nat.div j (nat_lit 2))) (hl k (Nat.div j (nat_lit 2))) (Nat.beq (Nat.mod j (nat_lit 2)) (nat_lit 0))) i) t k i
theorem gK_eq : ∀ (t : T α) (k : α → Bool) (i : Nat), gK t k i = (Option.rec false k (t.get i) : Bool) := by
  intro t
  induction t with
  | e => intro k i; rfl
  | n v l r hl hr =>
    intro k i
    cases i with
    | zero => rfl
    | succ j =>
      show (Bool.rec (gK r k (j / 2)) (gK l k (j / 2)) (Nat.beq (j % 2) 0) : Bool) = Option.rec false k (Bool.rec (r.get (j / 2)) (l.get (j / 2)) (Nat.beq (j % 2) 0))
      cases Nat.beq (j % 2) 0
      · exact hr k _
      · exact hl k _
def sK (f : Nat) (t : T α) (i : Nat) (x : α) (k : T α → Bool) : Bool :=
  Nat.rec (motive := fun _ => T α → Nat → α → (T α → Bool) → Bool) (fun t _ _ k => k t) (fun _ ih t i x k =>
    T.rec (motive := fun _ => (T α → Nat → α → (T α → Bool) → Bool) → Nat → α → (T α → Bool) → Bool)
      (fun ih i x k => Nat.rec (k (.n (some x) .e .e)) (fun j _ => Bool.rec (ih .e (Nat.div j (nat_lit 2)) x fun r => k (.n none .e r)) (ih .e (Nat.div j (nat_lit 2)) x fun l => k (.n none l .e)) (Nat.beq (Nat.mod j (nat_lit 2)) (nat_lit 0))) i)
      (fun v l r _ _ ih i x k => Nat.rec (k (.n (some x) l r)) (fun j _ => Bool.rec (ih r (Nat.div j (nat_lit 2)) x fun r => k (.n v l r)) (ih l (Nat.div j (nat_lit 2)) x fun l => k (.n v l r)) (Nat.beq (Nat.mod j (nat_lit 2)) (nat_lit 0))) i)
      t ih i x k) f t i x k
theorem sK_eq : ∀ (f : Nat) (t : T α) (i : Nat) (x : α) (k : T α → Bool), sK f t i x k = k (T.set f t i x) := by
  intro f
  induction f with
  | zero => intro t i x k; rfl
  | succ f ih =>
    intro t i x k
    cases t with
    | e =>
      cases i with
      | zero => rfl
      | succ j =>
        show (Bool.rec (sK f .e (j / 2) x fun r => k (.n none .e r)) (sK f .e (j / 2) x fun l => k (.n none l .e)) (Nat.beq (j % 2) 0) : Bool) = k (Bool.rec (.n none .e (T.set f .e (j / 2) x)) (.n none (T.set f .e (j / 2) x) .e) (Nat.beq (j % 2) 0))
        cases Nat.beq (j % 2) 0 <;> exact ih _ _ _ _
    | n v l r =>
      cases i with
      | zero => rfl
      | succ j =>
        show (Bool.rec (sK f r (j / 2) x fun r => k (.n v l r)) (sK f l (j / 2) x fun l => k (.n v l r)) (Nat.beq (j % 2) 0) : Bool) = k (Bool.rec (.n v l (T.set f r (j / 2) x)) (.n v (T.set f l (j / 2) x) r) (Nat.beq (j % 2) 0))
        cases Nat.beq (j % 2) 0 <;> exact ih _ _ _ _
def pK (t : T α) (i : Nat) (x : α) (k : T α → Bool) : Bool := sK (Nat.succ i) t i x k
theorem pK_eq (t : T α) (i : Nat) (x : α) (k : T α → Bool) : pK t i x k = k (t.put i x) := sK_eq _ _ _ _ _
/-- A value that is there is put back: nothing changes. -/
theorem T.put_back : ∀ (f : Nat) (t : T α) (i : Nat) (x : α), t.get i = some x → T.set f t i x = t := by
  intro f
  induction f with
  | zero => intro t i x h; rfl
  | succ f ih =>
    intro t i x h
    cases t with
    | e => cases h
    | n v l r =>
      cases i with
      | zero => rw [T.set_n0]; rw [T.get_0] at h; rw [h]
      | succ j =>
        rw [T.set_ns]; rw [T.get_s] at h
        split
        · rw [if_pos ‹_›] at h; rw [ih l _ x h]
        · rw [if_neg ‹_›] at h; rw [ih r _ x h]
end
def putLK (l : List AV) (c : T AV) (o : Nat) (k : T AV → Bool) : Bool := List.rec (motive := fun _ => T AV → Nat → (T AV → Bool) → Bool) (fun c _ k => k c) (fun v _ ih c o k => pK c o v fun c => nN (Nat.succ o) fun o => ih c o k) l c o k
theorem putLK_eq : ∀ (l : List AV) (c : T AV) (o : Nat) (k : T AV → Bool), putLK l c o k = k (putL c o l) := by
  intro l
  induction l with
  | nil => intro c o k; rfl
  | cons v l ih =>
    intro c o k
    refine (pK_eq _ _ _ _).trans ?_
    refine (nN_eq _ _).trans ?_
    exact (ih _ _ _).trans rfl
/-- The object at id, in normal form. -/
def aoN (o : AO) (k : AO → Bool) : Bool := AO.rec (motive := fun _ => (AO → Bool) → Bool) (fun k => k .dead) (fun c lim k => nN lim fun lim => k (.cells c lim)) (fun es n k => spN es fun es => nN n fun n => k (.map es n)) (fun m a l b k => lN l fun l => nN b fun b => k (.mit m a l b)) o k
theorem aoN_eq (o : AO) (k : AO → Bool) : aoN o k = k o := by cases o <;> simp only [aoN, nN_eq, spN_eq, lN_eq]
def tchK (id : Nat) (h : Hp) (k : Hp → Bool) : Bool := Bool.rec (k h) (gK h.t (fun o => aoN o fun o => pK h.t id o fun t => nN h.n fun n => k ⟨t, n⟩) id) (gK h.t (fun _ => true) id)
theorem tchK_eq (id : Nat) (h : Hp) (k : Hp → Bool) : tchK id h k = k h := by
  unfold tchK
  simp only [gK_eq, aoN_eq, pK_eq, nN_eq]
  cases hg : h.t.get id with
  | none => rfl
  | some o => show k ⟨h.t.put id o, h.n⟩ = k h; rw [T.put, T.put_back _ _ _ _ hg]
/-! ### readers of values -/
def vB (v : AV) (k : (Bool → Bool)) : Bool := AV.rec (motive_1 := fun _ => (Bool → Bool) → Bool) (motive_2 := fun _ => Unit) (fun x k => k x) (fun _ _ _ => false) (fun _ _ => false) (fun _ => false) (fun _ _ _ => false) (fun _ => false) (fun _ _ _ _ _ _ _ => false) (fun _ => false) (fun _ _ => false) (fun _ _ _ _ _ _ => false) (fun _ => false) (fun _ _ _ _ => false) (fun _ => false) (fun _ _ _ => false) (fun _ _ _ => false) () (fun _ _ _ _ => ()) v k
def vI (v : AV) (k : (IntKind → Int → Bool)) : Bool := AV.rec (motive_1 := fun _ => (IntKind → Int → Bool) → Bool) (motive_2 := fun _ => Unit) (fun _ _ => false) (fun kd n k => k kd n) (fun _ _ => false) (fun _ => false) (fun _ _ _ => false) (fun _ => false) (fun _ _ _ _ _ _ _ => false) (fun _ => false) (fun _ _ => false) (fun _ _ _ _ _ _ => false) (fun _ => false) (fun _ _ _ _ => false) (fun _ => false) (fun _ _ _ => false) (fun _ _ _ => false) () (fun _ _ _ _ => ()) v k
def vP (v : AV) (k : (Nat → Nat → Bool)) : Bool := AV.rec (motive_1 := fun _ => (Nat → Nat → Bool) → Bool) (motive_2 := fun _ => Unit) (fun _ _ => false) (fun _ _ _ => false) (fun _ _ => false) (fun _ => false) (fun id o k => k id o) (fun _ => false) (fun _ _ _ _ _ _ _ => false) (fun _ => false) (fun _ _ => false) (fun _ _ _ _ _ _ => false) (fun _ => false) (fun _ _ _ _ => false) (fun _ => false) (fun _ _ _ => false) (fun _ _ _ => false) () (fun _ _ _ _ => ()) v k
def vAg (v : AV) (k : (List AV → Bool)) : Bool := AV.rec (motive_1 := fun _ => (List AV → Bool) → Bool) (motive_2 := fun _ => Unit) (fun _ _ => false) (fun _ _ _ => false) (fun _ _ => false) (fun _ => false) (fun _ _ _ => false) (fun _ => false) (fun _ _ _ _ _ _ _ => false) (fun _ => false) (fun _ _ => false) (fun _ _ _ _ _ _ => false) (fun _ => false) (fun _ _ _ _ => false) (fun _ => false) (fun l _ k => k l) (fun _ _ _ => false) () (fun _ _ _ _ => ()) v k
def vTu (v : AV) (k : (List AV → Bool)) : Bool := AV.rec (motive_1 := fun _ => (List AV → Bool) → Bool) (motive_2 := fun _ => Unit) (fun _ _ => false) (fun _ _ _ => false) (fun _ _ => false) (fun _ => false) (fun _ _ _ => false) (fun _ => false) (fun _ _ _ _ _ _ _ => false) (fun _ => false) (fun _ _ => false) (fun _ _ _ _ _ _ => false) (fun _ => false) (fun _ _ _ _ => false) (fun _ => false) (fun _ _ _ => false) (fun l _ k => k l) () (fun _ _ _ _ => ()) v k
def vS (v : AV) (k : (List Nat → Bool)) : Bool := AV.rec (motive_1 := fun _ => (List Nat → Bool) → Bool) (motive_2 := fun _ => Unit) (fun _ _ => false) (fun _ _ _ => false) (fun l k => k l) (fun _ => false) (fun _ _ _ => false) (fun _ => false) (fun _ _ _ _ _ _ _ => false) (fun _ => false) (fun _ _ => false) (fun _ _ _ _ _ _ => false) (fun _ => false) (fun _ _ _ _ => false) (fun _ => false) (fun _ _ _ => false) (fun _ _ _ => false) () (fun _ _ _ _ => ()) v k
def vSl (v : AV) (n : Bool) (k : (Nat → Nat → Nat → Nat → Bool → Nat → Bool)) : Bool := AV.rec (motive_1 := fun _ => Bool → (Nat → Nat → Nat → Nat → Bool → Nat → Bool) → Bool) (motive_2 := fun _ => Unit) (fun _ _ _ => false) (fun _ _ _ _ => false) (fun _ _ _ => false) (fun _ _ => false) (fun _ _ _ _ => false) (fun n k => n) (fun a b c d e f n k => k a b c d e f) (fun _ _ => false) (fun _ _ _ => false) (fun _ _ _ _ _ _ _ => false) (fun _ _ => false) (fun _ _ _ _ _ => false) (fun _ _ => false) (fun _ _ _ _ => false) (fun _ _ _ _ => false) () (fun _ _ _ _ => ()) v n k
theorem vI_eq (v : AV) (k : IntKind → Int → Bool) : vI v k = asI v k := by cases v <;> rfl
theorem vP_eq (v : AV) (k : Nat → Nat → Bool) : vP v k = asP v k := by cases v <;> rfl
theorem vB_eq (v : AV) (k : Bool → Bool) : vB v k = (match v with | .b x => k x | _ => false) := by cases v <;> rfl
theorem vAg_eq (v : AV) (k : List AV → Bool) : vAg v k = (match v with | .ag x => k x | _ => false) := by cases v <;> rfl
theorem vTu_eq (v : AV) (k : List AV → Bool) : vTu v k = (match v with | .tu x => k x | _ => false) := by cases v <;> rfl
theorem vS_eq (v : AV) (k : List Nat → Bool) : vS v k = (match v with | .s x => k x | _ => false) := by cases v <;> rfl
theorem vSl_eq (v : AV) (n : Bool) (k : Nat → Nat → Nat → Nat → Bool → Nat → Bool) : vSl v n k = (match v with | .sn => n | .sl a b c d e f => k a b c d e f | _ => false) := by cases v <;> rfl
/-! ### operands -/
def evK (x : AX) (fr : T AV) (k : AV → Bool) : Bool := AX.rec (motive := fun _ => T AV → (AV → Bool) → Bool) (fun n fr k => gK fr k n) (fun v _ k => k v) x fr k
theorem evK_eq (x : AX) (fr : T AV) (k : AV → Bool) : evK x fr k = ev fr x k := by
  cases x
  · exact gK_eq _ _ _
  · rfl
def evsK (xs : List AX) (fr : T AV) (k : List AV → Bool) : Bool := List.rec (motive := fun _ => T AV → (List AV → Bool) → Bool) (fun _ k => k []) (fun x _ ih fr k => evK x fr fun v => ih fr fun vs => k (v :: vs)) xs fr k
theorem evsK_eq : ∀ (xs : List AX) (fr : T AV) (k : List AV → Bool), evsK xs fr k = evs fr xs k := by
  intro xs
  induction xs with
  | nil => intro fr k; rfl
  | cons x xs ih =>
    intro fr k
    refine (evK_eq _ _ _).trans ?_
    show ev fr x (fun v => evsK xs fr fun vs => k (v :: vs)) = ev fr x fun v => evs fr xs fun vs => k (v :: vs)
    congr 1
    funext v
    exact ih _ _
def aoC (o : AO) (k : T AV → Nat → Bool) : Bool := AO.rec (motive := fun _ => (T AV → Nat → Bool) → Bool) (fun _ => false) (fun c lim k => k c lim) (fun _ _ _ => false) (fun _ _ _ _ _ => false) o k
def rdCK (id : Nat) (h : Hp) (k : T AV → Nat → Bool) : Bool := gK h.t (fun o => aoC o k) id
theorem rdCK_eq (id : Nat) (h : Hp) (k : T AV → Nat → Bool) : rdCK id h k = rdC h id k := by
  unfold rdCK rdC
  rw [gK_eq]
  cases h.t.get id with
  | none => rfl
  | some o => cases o <;> rfl
def rd1K (c : T AV) (lim o : Nat) (k : AV → Bool) : Bool := Bool.rec false (gK c k o) (Nat.ble (Nat.succ o) lim)
theorem bif_rec {α : Type} (b : Bool) (x y : α) : (Bool.rec x y b : α) = bif b then y else x := by cases b <;> rfl
theorem rd1K_eq (c : T AV) (lim o : Nat) (k : AV → Bool) : rd1K c lim o k = rd1 c lim o k := by
  unfold rd1K rd1
  rw [bif_rec, gK_eq]; rfl
def rdnK (n : Nat) (c : T AV) (lim o : Nat) (k : List AV → Bool) : Bool := Nat.rec (motive := fun _ => T AV → Nat → Nat → (List AV → Bool) → Bool) (fun _ _ _ k => k []) (fun _ ih c lim o k => rd1K c lim o fun v => ih c lim (Nat.succ o) fun vs => k (v :: vs)) n c lim o k
theorem rdnK_eq : ∀ (n : Nat) (c : T AV) (lim o : Nat) (k : List AV → Bool), rdnK n c lim o k = rdn c lim n o k := by
  intro n
  induction n with
  | zero => intro c lim o k; rfl
  | succ n ih =>
    intro c lim o k
    refine (rd1K_eq _ _ _ _).trans ?_
    show rd1 c lim o (fun v => rdnK n c lim (o + 1) fun vs => k (v :: vs)) = rd1 c lim o fun v => rdn c lim n (o + 1) fun vs => k (v :: vs)
    congr 1
    funext v
    exact ih _ _ _ _
/-! ### integers -/
def iLtF (a b : Int) : Bool := Int.rec (motive := fun _ => Int → Bool) (fun m b => Int.rec (motive := fun _ => Nat → Bool) (fun n m => Nat.ble (Nat.succ m) n) (fun _ _ => false) b m) (fun m b => Int.rec (motive := fun _ => Nat → Bool) (fun _ _ => true) (fun n m => Nat.ble (Nat.succ n) m) b m) a b
theorem iLtF_eq (a b : Int) : iLtF a b = iLt a b := by cases a <;> cases b <;> rfl
def iEqF (a b : Int) : Bool := Int.rec (motive := fun _ => Int → Bool) (fun m b => Int.rec (motive := fun _ => Nat → Bool) (fun n m => Nat.beq m n) (fun _ _ => false) b m) (fun m b => Int.rec (motive := fun _ => Nat → Bool) (fun _ _ => false) (fun n m => Nat.beq m n) b m) a b
theorem iEqF_eq (a b : Int) : iEqF a b = iEq a b := by cases a <;> cases b <;> rfl
def addK (a b : Int) (k : Int → Bool) : Bool := Int.rec (motive := fun _ => Int → (Int → Bool) → Bool) (fun m b k => Int.rec (motive := fun _ => Nat → (Int → Bool) → Bool) (fun n m k => nN (Nat.add m n) fun s => k (.ofNat s)) (fun n m k => iN ((Int.ofNat m) + (Int.negSucc n)) k) b m k) (fun m b k => iN ((Int.negSucc m) + b) k) a b k
def subK (a b : Int) (k : Int → Bool) : Bool := Int.rec (motive := fun _ => Int → (Int → Bool) → Bool) (fun m b k => Int.rec (motive := fun _ => Nat → (Int → Bool) → Bool) (fun n m k => Bool.rec (iN (Int.ofNat m - Int.ofNat n) k) (nN (Nat.sub m n) fun s => k (.ofNat s)) (Nat.ble n m)) (fun n m k => iN ((Int.ofNat m) - (Int.negSucc n)) k) b m k) (fun m b k => iN ((Int.negSucc m) - b) k) a b k
def mulK (a b : Int) (k : Int → Bool) : Bool := Int.rec (motive := fun _ => Int → (Int → Bool) → Bool) (fun m b k => Int.rec (motive := fun _ => Nat → (Int → Bool) → Bool) (fun n m k => nN (Nat.mul m n) fun s => k (.ofNat s)) (fun n m k => iN ((Int.ofNat m) * (Int.negSucc n)) k) b m k) (fun m b k => iN ((Int.negSucc m) * b) k) a b k
def quoK (a b : Int) (k : Int → Bool) : Bool := Int.rec (motive := fun _ => Int → (Int → Bool) → Bool) (fun m b k => Int.rec (motive := fun _ => Nat → (Int → Bool) → Bool) (fun n m k => nN (Nat.div m n) fun s => k (.ofNat s)) (fun n m k => iN (Int.tdiv (Int.ofNat m) (Int.negSucc n)) k) b m k) (fun m b k => iN (Int.tdiv (Int.negSucc m) b) k) a b k
def remK (a b : Int) (k : Int → Bool) : Bool := Int.rec (motive := fun _ => Int → (Int → Bool) → Bool) (fun m b k => Int.rec (motive := fun _ => Nat → (Int → Bool) → Bool) (fun n m k => nN (Nat.mod m n) fun s => k (.ofNat s)) (fun n m k => iN (Int.tmod (Int.ofNat m) (Int.negSucc n)) k) b m k) (fun m b k => iN (Int.tmod (Int.negSucc m) b) k) a b k
theorem addK_eq (a b : Int) (k : Int → Bool) : addK a b k = k (a + b) := by
  cases a <;> cases b <;> simp only [addK, nN_eq, iN_eq] <;> rfl
theorem mulK_eq (a b : Int) (k : Int → Bool) : mulK a b k = k (a * b) := by
  cases a <;> cases b <;> simp only [mulK, nN_eq, iN_eq] <;> rfl
theorem quoK_eq (a b : Int) (k : Int → Bool) : quoK a b k = k (a.tdiv b) := by
  cases a <;> cases b <;> simp only [quoK, nN_eq, iN_eq] <;> rfl
theorem remK_eq (a b : Int) (k : Int → Bool) : remK a b k = k (a.tmod b) := by
  cases a <;> cases b <;> simp only [remK, nN_eq, iN_eq] <;> rfl
theorem subK_eq (a b : Int) (k : Int → Bool) : subK a b k = k (a - b) := by
  cases a <;> cases b
  case ofNat.ofNat m n =>
    show (Bool.rec (iN (Int.ofNat m - Int.ofNat n) k) (nN (m - n) fun s => k (.ofNat s)) (Nat.ble n m) : Bool) = _
    rw [iN_eq, nN_eq]
    cases hb : Nat.ble n m
    · rfl
    · have := Nat.le_of_ble_eq_true hb
      show k (Int.ofNat (m - n)) = k (Int.ofNat m - Int.ofNat n)
      congr 1
      simp only [Int.ofNat_eq_natCast]; omega
  all_goals simp only [subK, iN_eq]
def wrSK (n : Int) (lo : Nat) (kd : IntKind) (k : Int → Bool) : Bool := Int.rec (motive := fun _ => Nat → IntKind → (Int → Bool) → Bool) (fun m lo kd k => Bool.rec (iN (kd.wrap (.ofNat m)) k) (k (.ofNat m)) (Nat.ble (Nat.succ m) lo)) (fun m lo kd k => Bool.rec (iN (kd.wrap (.negSucc m)) k) (k (.negSucc m)) (Nat.ble (Nat.succ m) lo)) n lo kd k
theorem wrSK_eq (n : Int) (lo : Nat) (kd : IntKind) (k : Int → Bool) : wrSK n lo kd k = k (wrS lo kd n) := by
  cases n
  all_goals
    rename_i m
    simp only [wrSK, wrS, iN_eq, bif_rec, Nat.blt]
    cases Nat.ble (m.succ) lo <;> rfl
def wrUK (n : Int) (b : Nat) (k : Int → Bool) : Bool := Int.rec (motive := fun _ => Nat → (Int → Bool) → Bool) (fun m b k => nN (Nat.mod m b) fun s => k (.ofNat s)) (fun m b k => nN (Nat.sub (Nat.sub b (nat_lit 1)) (Nat.mod m b)) fun s => k (.ofNat s)) n b k
theorem wrUK_eq (n : Int) (b : Nat) (k : Int → Bool) : wrUK n b k = k (wrU b n) := by cases n <;> simp only [wrUK, nN_eq] <;> rfl
def wrK (kd : IntKind) (n : Int) (k : Int → Bool) : Bool := IntKind.rec (motive := fun _ => Int → (Int → Bool) → Bool)
  (fun n k => iN (wr .i8 n) k) (fun n k => iN (wr .i16 n) k) (fun n k => iN (wr .i32 n) k) (fun n k => wrSK n (nat_lit 9223372036854775808) .i64 k) (fun n k => wrUK n (nat_lit 256) k) (fun n k => iN (wr .u16 n) k) (fun n k => iN (wr .u32 n) k) (fun n k => wrUK n (nat_lit 18446744073709551616) k) kd n k
theorem wrK_eq (kd : IntKind) (n : Int) (k : Int → Bool) : wrK kd n k = k (wr kd n) := by
  cases kd
  case i64 => exact wrSK_eq _ _ _ _
  case u64 => exact wrUK_eq _ _ _
  case u8 => exact wrUK_eq _ _ _
  all_goals exact (iN_eq _ _).trans rfl
def binK (op : BinOp) (kd : IntKind) (a b : Int) (k : AV → Bool) : Bool := BinOp.rec (motive := fun _ => IntKind → Int → Int → (AV → Bool) → Bool)
  (fun kd a b k => addK a b fun s => wrK kd s fun s => k (.i kd s)) (fun kd a b k => subK a b fun s => wrK kd s fun s => k (.i kd s)) (fun kd a b k => mulK a b fun s => wrK kd s fun s => k (.i kd s)) (fun kd a b k => Bool.rec (quoK a b fun s => wrK kd s fun s => k (.i kd s)) false (iEqF b (.ofNat (nat_lit 0)))) (fun kd a b k => Bool.rec (remK a b fun s => k (.i kd s)) false (iEqF b (.ofNat (nat_lit 0)))) (fun kd a b k => binI .and kd a b fun v => vN v k) (fun kd a b k => binI .or kd a b fun v => vN v k) (fun kd a b k => binI .xor kd a b fun v => vN v k) (fun kd a b k => binI .shl kd a b fun v => vN v k) (fun kd a b k => binI .shr kd a b fun v => vN v k) (fun kd a b k => binI .andNot kd a b fun v => vN v k) (fun kd a b k => bN (iEqF a b) fun r => k (.b r)) (fun kd a b k => Bool.rec (k (.b true)) (k (.b false)) (iEqF a b)) (fun kd a b k => bN (iLtF a b) fun r => k (.b r)) (fun kd a b k => Bool.rec (k (.b true)) (k (.b false)) (iLtF b a)) (fun kd a b k => bN (iLtF b a) fun r => k (.b r)) (fun kd a b k => Bool.rec (k (.b true)) (k (.b false)) (iLtF a b)) op kd a b k
theorem binK_eq (op : BinOp) (kd : IntKind) (a b : Int) (k : AV → Bool) : binK op kd a b k = binI op kd a b k := by
  cases op <;> simp only [binK, binI, addK_eq, subK_eq, mulK_eq, quoK_eq, remK_eq, wrK_eq, iLtF_eq, iEqF_eq, bN_eq, bif_rec, vN_eq]
  case neq => cases iEq a b <;> rfl
  case leq => cases iLt b a <;> rfl
  case geq => cases iLt a b <;> rfl
  all_goals rfl
end
end Go.RE
/- The operations, quick for the kernel. -/
namespace Go.RE
open Go.RowKit
noncomputable section
def vN0 (v : AV) (k : Nat → Bool) : Bool := vI v fun _ n => Int.rec (motive := fun _ => (Nat → Bool) → Bool) (fun m k => k m) (fun _ _ => false) n k
theorem vN0_eq (v : AV) (k : Nat → Bool) : vN0 v k = asN v k := by
  cases v <;> try rfl
  rename_i kd n
  cases n <;> rfl
def nthK {α : Type} (l : List α) (i : Nat) (k : α → Bool) : Bool := List.rec (motive := fun _ => Nat → (α → Bool) → Bool) (fun _ _ => false) (fun a _ ih i k => Nat.rec (k a) (fun j _ => ih j k) i) l i k
theorem nthK_eq {α : Type} : ∀ (l : List α) (i : Nat) (k : α → Bool), nthK l i k = (match l[i]? with | some v => k v | none => false) := by
  intro l
  induction l with
  | nil => intro i k; rfl
  | cons a l ih =>
    intro i k
    cases i with
    | zero => rfl
    | succ j => show nthK l j k = _; rw [ih, List.getElem?_cons_succ]
def takeK {α : Type} (l : List α) (i : Nat) (k : List α → Bool) : Bool := List.rec (motive := fun _ => Nat → (List α → Bool) → Bool) (fun _ k => k []) (fun a _ ih i k => Nat.rec (k []) (fun j _ => ih j fun l => k (a :: l)) i) l i k
theorem takeK_eq {α : Type} : ∀ (l : List α) (i : Nat) (k : List α → Bool), takeK l i k = k (l.take i) := by
  intro l
  induction l with
  | nil => intro i k; simp only [List.take_nil]; rfl
  | cons a l ih =>
    intro i k
    cases i with
    | zero => rfl
    | succ j => show takeK l j (fun l => k (a :: l)) = _; rw [ih]; rfl
def dropK {α : Type} (l : List α) (i : Nat) (k : List α → Bool) : Bool := List.rec (motive := fun _ => Nat → (List α → Bool) → Bool) (fun _ k => k []) (fun a l ih i k => Nat.rec (k (a :: l)) (fun j _ => ih j k) i) l i k
theorem dropK_eq {α : Type} : ∀ (l : List α) (i : Nat) (k : List α → Bool), dropK l i k = k (l.drop i) := by
  intro l
  induction l with
  | nil => intro i k; simp only [List.drop_nil]; rfl
  | cons a l ih =>
    intro i k
    cases i with
    | zero => rfl
    | succ j => show dropK l j k = _; rw [ih]; rfl
/-- New elements from i on, as many as there are, in the place of the old; false where they do not fit. -/
def overK {α : Type} (l : List α) (i : Nat) (new : List α) (k : List α → Bool) : Bool :=
  List.rec (motive := fun _ => Nat → List α → (List α → Bool) → Bool)
    (fun i new k => Nat.rec (List.rec (k []) (fun _ _ _ => false) new) (fun _ _ => false) i)
    (fun a l ih i new k => Nat.rec (List.rec (k (a :: l)) (fun b bs _ => ih (nat_lit 0) bs fun r => k (b :: r)) new) (fun j _ => ih j new fun r => k (a :: r)) i) l i new k
theorem overK_0 {α : Type} (a : α) (l : List α) (b : α) (bs : List α) (k : List α → Bool) : overK (a :: l) 0 (b :: bs) k = overK l 0 bs fun r => k (b :: r) := rfl
theorem overK_s {α : Type} (a : α) (l : List α) (j : Nat) (new : List α) (k : List α → Bool) : overK (a :: l) (j + 1) new k = overK l j new fun r => k (a :: r) := rfl
theorem overK_eq {α : Type} : ∀ (l : List α) (i : Nat) (new : List α) (k : List α → Bool), overK l i new k = bif Nat.ble (i + new.length) l.length then k (l.take i ++ new ++ l.drop (i + new.length)) else false := by
  intro l
  induction l with
  | nil =>
    intro i new k
    cases i with
    | zero => cases new <;> rfl
    | succ i =>
      have : Nat.ble (i + 1 + new.length) ([] : List α).length = false := by
        cases h : Nat.ble (i + 1 + new.length) ([] : List α).length
        · rfl
        · have := Nat.le_of_ble_eq_true h; simp at this
      rw [this]; rfl
  | cons a l ih =>
    intro i new k
    cases i with
    | succ j =>
      rw [overK_s, ih]
      have : Nat.ble (j + 1 + new.length) (a :: l).length = Nat.ble (j + new.length) l.length := by
        rw [show j + 1 + new.length = j + new.length + 1 by omega]; rfl
      rw [this, show j + 1 + new.length = j + new.length + 1 by omega]; rfl
    | zero =>
      cases new with
      | nil => rfl
      | cons b bs =>
        rw [overK_0, ih]
        have e1 : 0 + (b :: bs).length = 0 + bs.length + 1 := by simp
        rw [e1]
        rfl
/-! ### bin, eqb, build -/
def kNoF (k : IntKind) : Nat := IntKind.rec (nat_lit 0) (nat_lit 1) (nat_lit 2) (nat_lit 3) (nat_lit 4) (nat_lit 5) (nat_lit 6) (nat_lit 7) k
def kEqF (a b : IntKind) : Bool := Nat.beq (kNoF a) (kNoF b)
theorem kEqF_eq (a b : IntKind) : kEqF a b = kEq a b := by cases a <;> cases b <;> rfl
def bin3K (op : BinOp) (kd kd' : IntKind) (a b : Int) (k : AV → Bool) : Bool := BinOp.rec (motive := fun _ => IntKind → IntKind → Int → Int → (AV → Bool) → Bool)
  (fun kd kd' a b k => Bool.rec false (addK a b fun s => wrK kd s fun s => k (.i kd s)) (kEqF kd kd')) (fun kd kd' a b k => Bool.rec false (subK a b fun s => wrK kd s fun s => k (.i kd s)) (kEqF kd kd')) (fun kd kd' a b k => Bool.rec false (mulK a b fun s => wrK kd s fun s => k (.i kd s)) (kEqF kd kd')) (fun kd kd' a b k => Bool.rec false (Bool.rec (quoK a b fun s => wrK kd s fun s => k (.i kd s)) false (iEqF b (.ofNat (nat_lit 0)))) (kEqF kd kd')) (fun kd kd' a b k => Bool.rec false (Bool.rec (remK a b fun s => k (.i kd s)) false (iEqF b (.ofNat (nat_lit 0)))) (kEqF kd kd')) (fun kd kd' a b k => Bool.rec false (binK .and kd a b k) (kEqF kd kd')) (fun kd kd' a b k => Bool.rec false (binK .or kd a b k) (kEqF kd kd')) (fun kd kd' a b k => Bool.rec false (binK .xor kd a b k) (kEqF kd kd')) (fun kd _ a b k => binK .shl kd a b k) (fun kd _ a b k => binK .shr kd a b k) (fun kd kd' a b k => Bool.rec false (binK .andNot kd a b k) (kEqF kd kd')) (fun kd kd' a b k => Bool.rec false (bN (iEqF a b) fun r => k (.b r)) (kEqF kd kd')) (fun kd kd' a b k => Bool.rec false (Bool.rec (k (.b true)) (k (.b false)) (iEqF a b)) (kEqF kd kd')) (fun kd kd' a b k => Bool.rec false (bN (iLtF a b) fun r => k (.b r)) (kEqF kd kd')) (fun kd kd' a b k => Bool.rec false (Bool.rec (k (.b true)) (k (.b false)) (iLtF b a)) (kEqF kd kd')) (fun kd kd' a b k => Bool.rec false (bN (iLtF b a) fun r => k (.b r)) (kEqF kd kd')) (fun kd kd' a b k => Bool.rec false (Bool.rec (k (.b true)) (k (.b false)) (iLtF a b)) (kEqF kd kd')) op kd kd' a b k
def bin2K (u v : AV) (op : BinOp) (k : AV → Bool) : Bool := AV.rec (motive_1 := fun _ => AV → BinOp → (AV → Bool) → Bool) (motive_2 := fun _ => Unit) (fun _ _ _ _ => false) (fun kd a v op k => vI v fun kd' b => bin3K op kd kd' a b k) (fun a v op k => vS v fun b => binS op a b fun w => vN w k) (fun _ _ _ => false) (fun _ _ _ _ _ => false) (fun _ _ _ => false) (fun _ _ _ _ _ _ _ _ _ => false) (fun _ _ _ => false) (fun _ _ _ _ => false) (fun _ _ _ _ _ _ _ _ => false) (fun _ _ _ => false) (fun _ _ _ _ _ _ => false) (fun _ _ _ => false) (fun _ _ _ _ _ => false) (fun _ _ _ _ _ => false) () (fun _ _ _ _ => ()) u v op k
theorem bin3K_eq (op : BinOp) (kd kd' : IntKind) (a b : Int) (k : AV → Bool) : bin3K op kd kd' a b k = (match op with
    | .shl => binI op kd a b k
    | .shr => binI op kd a b k
    | _ => bif kEq kd kd' then binI op kd a b k else false) := by
  have e := binK_eq op kd a b k
  cases op
  case shl => exact e
  case shr => exact e
  all_goals
    refine (congrArg (fun r => (Bool.rec false r (kEqF kd kd') : Bool)) e).trans ?_
    simp only [kEqF_eq, bif_rec]
theorem bin2K_eq (u v : AV) (op : BinOp) (k : AV → Bool) : bin2K u v op k = (match u with
    | .i kd a => match v with
      | .i k' b => match op with
        | .shl => binI op kd a b k
        | .shr => binI op kd a b k
        | _ => bif kEq kd k' then binI op kd a b k else false
      | _ => false
    | .s a => match v with
      | .s b => binS op a b k
      | _ => false
    | _ => false) := by
  cases u <;> try rfl
  case i kd a =>
    show vI v (fun kd' b => bin3K op kd kd' a b k) = _
    rw [vI_eq]
    cases v <;> try rfl
    exact bin3K_eq _ _ _ _ _ _
  case s a =>
    show vS v (fun b => binS op a b fun w => vN w k) = _
    rw [vS_eq, funext fun w => vN_eq w k]
    try rfl
def eqbK (a b neg : Bool) (k : AV → Bool) : Bool := Bool.rec (Bool.rec (bN (Bool.rec true false b) fun r => bN (Bool.rec r (Bool.rec true false r) neg) fun r => k (.b r)) (bN b fun r => bN (Bool.rec r (Bool.rec true false r) neg) fun r => k (.b r)) a) (Bool.rec (bN (Bool.rec true false b) fun r => bN (Bool.rec r (Bool.rec true false r) neg) fun r => k (.b r)) (bN b fun r => bN (Bool.rec r (Bool.rec true false r) neg) fun r => k (.b r)) a) neg
theorem eqbK_eq (a b neg : Bool) (k : AV → Bool) : eqbK a b neg k = k (.b (bif neg then !(a == b) else a == b)) := by cases a <;> cases b <;> cases neg <;> rfl
abbrev PV := Nat × Nat × AV
def evpsK (ps : List (Nat × Nat × AX)) (fr : T AV) (k : List PV → Bool) : Bool := List.rec (motive := fun _ => T AV → (List PV → Bool) → Bool) (fun _ k => k []) (fun p _ ih fr k => Prod.rec (motive := fun _ => (T AV → (List PV → Bool) → Bool) → T AV → (List PV → Bool) → Bool) (fun off q ih fr k => Prod.rec (motive := fun _ => Nat → (T AV → (List PV → Bool) → Bool) → T AV → (List PV → Bool) → Bool) (fun n x off ih fr k => evK x fr fun v => ih fr fun vs => k ((off, n, v) :: vs)) q off ih fr k) p ih fr k) ps fr k
theorem evpsK_eq : ∀ (ps : List (Nat × Nat × AX)) (fr : T AV) (k : List PV → Bool), evpsK ps fr k = evps fr ps k := by
  intro ps
  induction ps with
  | nil => intro fr k; rfl
  | cons p ps ih =>
    intro fr k
    obtain ⟨off, n, x⟩ := p
    refine (evK_eq _ _ _).trans ?_
    show ev fr x (fun v => evpsK ps fr fun vs => k ((off, n, v) :: vs)) = ev fr x fun v => evps fr ps fun vs => k ((off, n, v) :: vs)
    congr 1
    funext v
    exact ih _ _
def cellsK (v : AV) (k : List AV → Bool) : Bool := AV.rec (motive_1 := fun _ => (List AV → Bool) → Bool) (motive_2 := fun _ => Unit) (fun x k => k [.b x]) (fun a b k => k [.i a b]) (fun a k => k [.s a]) (fun k => k [.pn]) (fun a b k => k [.p a b]) (fun k => k [.sn]) (fun a b c d e f k => k [.sl a b c d e f]) (fun k => k [.mn]) (fun a k => k [.m a]) (fun a b c _ _ k => k [.f a b c]) (fun k => k [.nf]) (fun a b _ k => k [.ifc a b]) (fun k => k [.nif]) (fun a _ k => k a) (fun a _ k => k [.tu a]) () (fun _ _ _ _ => ()) v k
theorem cellsK_eq (v : AV) (k : List AV → Bool) : cellsK v k = k v.cells := by cases v <;> rfl
def lenK {α : Type} (l : List α) : Nat := List.rec (nat_lit 0) (fun _ _ n => Nat.succ n) l
theorem lenK_eq {α : Type} (l : List α) : lenK l = l.length := by
  induction l with
  | nil => rfl
  | cons a l ih => show Nat.succ (lenK l) = _; rw [ih]; rfl
def fillK (vs : List PV) (cs : List AV) (k : List AV → Bool) : Bool := List.rec (motive := fun _ => List AV → (List AV → Bool) → Bool) (fun cs k => k cs)
  (fun p _ ih cs k => Prod.rec (motive := fun _ => (List AV → (List AV → Bool) → Bool) → List AV → (List AV → Bool) → Bool) (fun off q ih cs k => Prod.rec (motive := fun _ => Nat → (List AV → (List AV → Bool) → Bool) → List AV → (List AV → Bool) → Bool) (fun n v off ih cs k => cellsK v fun us => Bool.rec false (overK cs off us fun cs => ih cs k) (Nat.beq (lenK us) n)) q off ih cs k) p ih cs k) vs cs k
theorem fillK_eq : ∀ (vs : List PV) (cs : List AV) (k : List AV → Bool), fillK vs cs k = fillA cs vs k := by
  intro vs
  induction vs with
  | nil => intro cs k; rfl
  | cons p vs ih =>
    intro cs k
    obtain ⟨off, n, v⟩ := p
    show cellsK v (fun us => Bool.rec false (overK cs off us fun cs => fillK vs cs k) (Nat.beq (lenK us) n)) = _
    rw [cellsK_eq, lenK_eq, bif_rec, overK_eq]
    simp only [ih, fillA]
    cases hb : Nat.beq v.cells.length n
    · rfl
    · have : v.cells.length = n := Nat.eq_of_beq_eq_true hb
      rw [this]
      simp only [cond_true, Bool.true_and]
/-! ### operations that leave the world alone -/
def sopK (o : SOp) (h : Hp) (fr : T AV) (k : AV → Bool) : Bool := SOp.rec (motive := fun _ => Hp → T AV → (AV → Bool) → Bool)
  (fun x h fr k => evK x fr k)
  (fun c a b h fr k => evK c fr fun v => vB v fun t => Bool.rec (evK b fr k) (evK a fr k) t)
  (fun op x y h fr k => evK x fr fun u => evK y fr fun v => bin2K u v op k)
  (fun neg x y h fr k => evK x fr fun u => evK y fr fun v => vB u fun a => vB v fun b => eqbK a b neg k)
  (fun ks neg x y h fr k => sop h fr (.cmpA ks neg x y) fun v => vN v k)
  (fun neg x y h fr k => sop h fr (.nilp neg x y) fun v => vN v k)
  (fun neg x y h fr k => sop h fr (.nils neg x y) fun v => vN v k)
  (fun neg x y h fr k => sop h fr (.nili neg x y) fun v => vN v k)
  (fun op x h fr k => sop h fr (.un op x) fun v => vN v k)
  (fun kd x h fr k => evK x fr fun u => vI u fun _ n => wrK kd n fun n => k (.i kd n))
  (fun x h fr k => sop h fr (.cvb x) fun v => vN v k)
  (fun x h fr k => evK x fr fun u => vP u fun id o => rdCK id h fun c lim => rd1K c lim o k)
  (fun n x h fr k => evK x fr fun u => vP u fun id o => rdCK id h fun c lim => rdnK n c lim o fun vs => k (.ag vs))
  (fun x h fr k => sop h fr (.nilc x) fun v => vN v k)
  (fun off x h fr k => evK x fr fun u => vP u fun id o => nN (Nat.add o off) fun o => k (.p id o))
  (fun off x h fr k => evK x fr fun u => vAg u fun cs => nthK cs off k)
  (fun off n x h fr k => evK x fr fun u => vAg u fun cs => dropK cs off fun cs => takeK cs n fun cs => k (.ag cs))
  (fun z x ix h fr k => evK x fr fun u => evK ix fr fun i => vN0 i fun j => vSl u false fun id o n _ _ _ => Bool.rec false (nN (Nat.add o (Nat.mul j z)) fun o => k (.p id o)) (Nat.ble (Nat.succ j) n))
  (fun n z x ix h fr k => evK x fr fun u => evK ix fr fun i => vN0 i fun j => vP u fun id o => Bool.rec false (nN (Nat.add o (Nat.mul j z)) fun o => k (.p id o)) (Nat.ble (Nat.succ j) n))
  (fun x ix h fr k => sop h fr (.ixs x ix) fun v => vN v k)
  (fun x lo hi h fr k => sop h fr (.sls x lo hi) fun v => vN v k)
  (fun z x lo hi mx h fr k => sop h fr (.slc z x lo hi mx) fun v => vN v k)
  (fun n z x lo hi h fr k => sop h fr (.sla n z x lo hi) fun v => vN v k)
  (fun t x h fr k => evK x fr fun u => k (.ifc t u))
  (fun fn first captured h fr k => evsK first fr fun a => evsK captured fr fun b => k (.f fn a b))
  (fun x i h fr k => evK x fr fun u => vTu u fun vs => nthK vs i k)
  (fun zs ps h fr k => evpsK ps fr fun vs => fillK vs zs fun cs => k (.ag cs))
  (fun x h fr k => evK x fr fun u => vSl u (k (.i .i64 0)) fun _ _ n _ _ _ => k (.i .i64 (.ofNat n)))
  (fun x h fr k => sop h fr (.lens x) fun v => vN v k)
  (fun x h fr k => sop h fr (.lenm x) fun v => vN v k)
  (fun x y h fr k => sop h fr (.mx x y) fun v => vN v k)
  (fun x y h fr k => sop h fr (.mn x y) fun v => vN v k)
  (fun zero ok m k h fr kk => sop h fr (.lkp zero ok m k) fun v => vN v kk)
  (fun t x h fr k => sop h fr (.tas t x) fun v => vN v k)
  (fun x h fr k => sop h fr (.entry x) fun v => vN v k)
  o h fr k
theorem sMV_eq (x : AX) (h : Hp) (fr : T AV) (k : AV → Bool) : (evK x fr k) = sop h fr (.mv x) k := by
  simp only [sop, evK_eq, evsK_eq, evpsK_eq, fillK_eq, vB_eq, vI_eq, vP_eq, vAg_eq, vTu_eq, vSl_eq, vN0_eq, wrK_eq, rdCK_eq, rd1K_eq, rdnK_eq, nN_eq, nthK_eq, takeK_eq, dropK_eq, bif_rec, bin2K_eq, eqbK_eq]
theorem sPICK_eq (c : AX) (a : AX) (b : AX) (h : Hp) (fr : T AV) (k : AV → Bool) : (evK c fr fun v => vB v fun t => Bool.rec (evK b fr k) (evK a fr k) t) = sop h fr (.pick c a b) k := by
  simp only [sop, evK_eq, evsK_eq, evpsK_eq, fillK_eq, vB_eq, vI_eq, vP_eq, vAg_eq, vTu_eq, vSl_eq, vN0_eq, wrK_eq, rdCK_eq, rd1K_eq, rdnK_eq, nN_eq, nthK_eq, takeK_eq, dropK_eq, bif_rec, bin2K_eq, eqbK_eq]
  rfl
theorem sBIN_eq (op : BinOp) (x : AX) (y : AX) (h : Hp) (fr : T AV) (k : AV → Bool) : (evK x fr fun u => evK y fr fun v => bin2K u v op k) = sop h fr (.bin op x y) k := by
  simp only [sop, evK_eq, evsK_eq, evpsK_eq, fillK_eq, vB_eq, vI_eq, vP_eq, vAg_eq, vTu_eq, vSl_eq, vN0_eq, wrK_eq, rdCK_eq, rd1K_eq, rdnK_eq, nN_eq, nthK_eq, takeK_eq, dropK_eq, bif_rec, bin2K_eq, eqbK_eq]
  rfl
theorem sEQB_eq (neg : Bool) (x : AX) (y : AX) (h : Hp) (fr : T AV) (k : AV → Bool) : (evK x fr fun u => evK y fr fun v => vB u fun a => vB v fun b => eqbK a b neg k) = sop h fr (.eqb neg x y) k := by
  simp only [sop, evK_eq, evsK_eq, evpsK_eq, fillK_eq, vB_eq, vI_eq, vP_eq, vAg_eq, vTu_eq, vSl_eq, vN0_eq, wrK_eq, rdCK_eq, rd1K_eq, rdnK_eq, nN_eq, nthK_eq, takeK_eq, dropK_eq, bif_rec, bin2K_eq, eqbK_eq]
  congr 1; funext u; congr 1; funext v; cases u <;> cases v <;> rfl
theorem sCVI_eq (kd : IntKind) (x : AX) (h : Hp) (fr : T AV) (k : AV → Bool) : (evK x fr fun u => vI u fun _ n => wrK kd n fun n => k (.i kd n)) = sop h fr (.cvi kd x) k := by
  simp only [sop, evK_eq, evsK_eq, evpsK_eq, fillK_eq, vB_eq, vI_eq, vP_eq, vAg_eq, vTu_eq, vSl_eq, vN0_eq, wrK_eq, rdCK_eq, rd1K_eq, rdnK_eq, nN_eq, nthK_eq, takeK_eq, dropK_eq, bif_rec, bin2K_eq, eqbK_eq]
theorem sLD1_eq (x : AX) (h : Hp) (fr : T AV) (k : AV → Bool) : (evK x fr fun u => vP u fun id o => rdCK id h fun c lim => rd1K c lim o k) = sop h fr (.ld1 x) k := by
  simp only [sop, evK_eq, evsK_eq, evpsK_eq, fillK_eq, vB_eq, vI_eq, vP_eq, vAg_eq, vTu_eq, vSl_eq, vN0_eq, wrK_eq, rdCK_eq, rd1K_eq, rdnK_eq, nN_eq, nthK_eq, takeK_eq, dropK_eq, bif_rec, bin2K_eq, eqbK_eq]
theorem sLDN_eq (n : Nat) (x : AX) (h : Hp) (fr : T AV) (k : AV → Bool) : (evK x fr fun u => vP u fun id o => rdCK id h fun c lim => rdnK n c lim o fun vs => k (.ag vs)) = sop h fr (.ldn n x) k := by
  simp only [sop, evK_eq, evsK_eq, evpsK_eq, fillK_eq, vB_eq, vI_eq, vP_eq, vAg_eq, vTu_eq, vSl_eq, vN0_eq, wrK_eq, rdCK_eq, rd1K_eq, rdnK_eq, nN_eq, nthK_eq, takeK_eq, dropK_eq, bif_rec, bin2K_eq, eqbK_eq]
theorem sFA_eq (off : Nat) (x : AX) (h : Hp) (fr : T AV) (k : AV → Bool) : (evK x fr fun u => vP u fun id o => nN (Nat.add o off) fun o => k (.p id o)) = sop h fr (.fa off x) k := by
  simp only [sop, evK_eq, evsK_eq, evpsK_eq, fillK_eq, vB_eq, vI_eq, vP_eq, vAg_eq, vTu_eq, vSl_eq, vN0_eq, wrK_eq, rdCK_eq, rd1K_eq, rdnK_eq, nN_eq, nthK_eq, takeK_eq, dropK_eq, bif_rec, bin2K_eq, eqbK_eq]
  rfl
theorem sFLD1_eq (off : Nat) (x : AX) (h : Hp) (fr : T AV) (k : AV → Bool) : (evK x fr fun u => vAg u fun cs => nthK cs off k) = sop h fr (.fld1 off x) k := by
  simp only [sop, evK_eq, evsK_eq, evpsK_eq, fillK_eq, vB_eq, vI_eq, vP_eq, vAg_eq, vTu_eq, vSl_eq, vN0_eq, wrK_eq, rdCK_eq, rd1K_eq, rdnK_eq, nN_eq, nthK_eq, takeK_eq, dropK_eq, bif_rec, bin2K_eq, eqbK_eq]
  congr 1; funext u; cases u <;> try rfl
  rename_i l
  dsimp only
  cases l[off]? <;> rfl
theorem sFLDN_eq (off : Nat) (n : Nat) (x : AX) (h : Hp) (fr : T AV) (k : AV → Bool) : (evK x fr fun u => vAg u fun cs => dropK cs off fun cs => takeK cs n fun cs => k (.ag cs)) = sop h fr (.fldn off n x) k := by
  simp only [sop, evK_eq, evsK_eq, evpsK_eq, fillK_eq, vB_eq, vI_eq, vP_eq, vAg_eq, vTu_eq, vSl_eq, vN0_eq, wrK_eq, rdCK_eq, rd1K_eq, rdnK_eq, nN_eq, nthK_eq, takeK_eq, dropK_eq, bif_rec, bin2K_eq, eqbK_eq]
  rfl
theorem sIA_eq (z : Nat) (x : AX) (ix : AX) (h : Hp) (fr : T AV) (k : AV → Bool) : (evK x fr fun u => evK ix fr fun i => vN0 i fun j => vSl u false fun id o n _ _ _ => Bool.rec false (nN (Nat.add o (Nat.mul j z)) fun o => k (.p id o)) (Nat.ble (Nat.succ j) n)) = sop h fr (.ia z x ix) k := by
  simp only [sop, evK_eq, evsK_eq, evpsK_eq, fillK_eq, vB_eq, vI_eq, vP_eq, vAg_eq, vTu_eq, vSl_eq, vN0_eq, wrK_eq, rdCK_eq, rd1K_eq, rdnK_eq, nN_eq, nthK_eq, takeK_eq, dropK_eq, bif_rec, bin2K_eq, eqbK_eq]
  congr 1; funext u; congr 1; funext i; congr 1; funext j; cases u <;> rfl
theorem sIAA_eq (n : Nat) (z : Nat) (x : AX) (ix : AX) (h : Hp) (fr : T AV) (k : AV → Bool) : (evK x fr fun u => evK ix fr fun i => vN0 i fun j => vP u fun id o => Bool.rec false (nN (Nat.add o (Nat.mul j z)) fun o => k (.p id o)) (Nat.ble (Nat.succ j) n)) = sop h fr (.iaa n z x ix) k := by
  simp only [sop, evK_eq, evsK_eq, evpsK_eq, fillK_eq, vB_eq, vI_eq, vP_eq, vAg_eq, vTu_eq, vSl_eq, vN0_eq, wrK_eq, rdCK_eq, rd1K_eq, rdnK_eq, nN_eq, nthK_eq, takeK_eq, dropK_eq, bif_rec, bin2K_eq, eqbK_eq]
  rfl
theorem sMKIF_eq (t : TypeId) (x : AX) (h : Hp) (fr : T AV) (k : AV → Bool) : (evK x fr fun u => k (.ifc t u)) = sop h fr (.mkif t x) k := by
  simp only [sop, evK_eq, evsK_eq, evpsK_eq, fillK_eq, vB_eq, vI_eq, vP_eq, vAg_eq, vTu_eq, vSl_eq, vN0_eq, wrK_eq, rdCK_eq, rd1K_eq, rdnK_eq, nN_eq, nthK_eq, takeK_eq, dropK_eq, bif_rec, bin2K_eq, eqbK_eq]
theorem sMKFN_eq (fn : Fn) (first : List AX) (captured : List AX) (h : Hp) (fr : T AV) (k : AV → Bool) : (evsK first fr fun a => evsK captured fr fun b => k (.f fn a b)) = sop h fr (.mkfn fn first captured) k := by
  simp only [sop, evK_eq, evsK_eq, evpsK_eq, fillK_eq, vB_eq, vI_eq, vP_eq, vAg_eq, vTu_eq, vSl_eq, vN0_eq, wrK_eq, rdCK_eq, rd1K_eq, rdnK_eq, nN_eq, nthK_eq, takeK_eq, dropK_eq, bif_rec, bin2K_eq, eqbK_eq]
theorem sEXT_eq (x : AX) (i : Nat) (h : Hp) (fr : T AV) (k : AV → Bool) : (evK x fr fun u => vTu u fun vs => nthK vs i k) = sop h fr (.ext x i) k := by
  simp only [sop, evK_eq, evsK_eq, evpsK_eq, fillK_eq, vB_eq, vI_eq, vP_eq, vAg_eq, vTu_eq, vSl_eq, vN0_eq, wrK_eq, rdCK_eq, rd1K_eq, rdnK_eq, nN_eq, nthK_eq, takeK_eq, dropK_eq, bif_rec, bin2K_eq, eqbK_eq]
  congr 1; funext u; cases u <;> try rfl
  rename_i l
  dsimp only
  cases l[i]? <;> rfl
theorem sBUILD_eq (zs : List AV) (ps : List (Nat × Nat × AX)) (h : Hp) (fr : T AV) (k : AV → Bool) : (evpsK ps fr fun vs => fillK vs zs fun cs => k (.ag cs)) = sop h fr (.build zs ps) k := by
  simp only [sop, evpsK_eq, fillK_eq]
theorem sLEN_eq (x : AX) (h : Hp) (fr : T AV) (k : AV → Bool) : (evK x fr fun u => vSl u (k (.i .i64 0)) fun _ _ n _ _ _ => k (.i .i64 (.ofNat n))) = sop h fr (.len x) k := by
  simp only [sop, evK_eq, vSl_eq]
  rfl
theorem sopK_eq (o : SOp) (h : Hp) (fr : T AV) (k : AV → Bool) : sopK o h fr k = sop h fr o k := by
  cases o
  case mv x0 => exact sMV_eq x0 h fr k
  case pick x0 x1 x2 => exact sPICK_eq x0 x1 x2 h fr k
  case bin x0 x1 x2 => exact sBIN_eq x0 x1 x2 h fr k
  case eqb x0 x1 x2 => exact sEQB_eq x0 x1 x2 h fr k
  case cmpA x0 x1 x2 x3 => exact congrArg (sop h fr (.cmpA x0 x1 x2 x3)) (funext fun v => vN_eq v k)
  case nilp x0 x1 x2 => exact congrArg (sop h fr (.nilp x0 x1 x2)) (funext fun v => vN_eq v k)
  case nils x0 x1 x2 => exact congrArg (sop h fr (.nils x0 x1 x2)) (funext fun v => vN_eq v k)
  case nili x0 x1 x2 => exact congrArg (sop h fr (.nili x0 x1 x2)) (funext fun v => vN_eq v k)
  case un x0 x1 => exact congrArg (sop h fr (.un x0 x1)) (funext fun v => vN_eq v k)
  case cvi x0 x1 => exact sCVI_eq x0 x1 h fr k
  case cvb x0 => exact congrArg (sop h fr (.cvb x0)) (funext fun v => vN_eq v k)
  case ld1 x0 => exact sLD1_eq x0 h fr k
  case ldn x0 x1 => exact sLDN_eq x0 x1 h fr k
  case nilc x0 => exact congrArg (sop h fr (.nilc x0)) (funext fun v => vN_eq v k)
  case fa x0 x1 => exact sFA_eq x0 x1 h fr k
  case fld1 x0 x1 => exact sFLD1_eq x0 x1 h fr k
  case fldn x0 x1 x2 => exact sFLDN_eq x0 x1 x2 h fr k
  case ia x0 x1 x2 => exact sIA_eq x0 x1 x2 h fr k
  case iaa x0 x1 x2 x3 => exact sIAA_eq x0 x1 x2 x3 h fr k
  case ixs x0 x1 => exact congrArg (sop h fr (.ixs x0 x1)) (funext fun v => vN_eq v k)
  case sls x0 x1 x2 => exact congrArg (sop h fr (.sls x0 x1 x2)) (funext fun v => vN_eq v k)
  case slc x0 x1 x2 x3 x4 => exact congrArg (sop h fr (.slc x0 x1 x2 x3 x4)) (funext fun v => vN_eq v k)
  case sla x0 x1 x2 x3 x4 => exact congrArg (sop h fr (.sla x0 x1 x2 x3 x4)) (funext fun v => vN_eq v k)
  case mkif x0 x1 => exact sMKIF_eq x0 x1 h fr k
  case mkfn x0 x1 x2 => exact sMKFN_eq x0 x1 x2 h fr k
  case ext x0 x1 => exact sEXT_eq x0 x1 h fr k
  case build x0 x1 => exact sBUILD_eq x0 x1 h fr k
  case len x0 => exact sLEN_eq x0 h fr k
  case lens x0 => exact congrArg (sop h fr (.lens x0)) (funext fun v => vN_eq v k)
  case lenm x0 => exact congrArg (sop h fr (.lenm x0)) (funext fun v => vN_eq v k)
  case mx x0 x1 => exact congrArg (sop h fr (.mx x0 x1)) (funext fun v => vN_eq v k)
  case mn x0 x1 => exact congrArg (sop h fr (.mn x0 x1)) (funext fun v => vN_eq v k)
  case lkp x0 x1 x2 x3 => exact congrArg (sop h fr (.lkp x0 x1 x2 x3)) (funext fun v => vN_eq v k)
  case tas x0 x1 => exact congrArg (sop h fr (.tas x0 x1)) (funext fun v => vN_eq v k)
  case entry x0 => exact congrArg (sop h fr (.entry x0)) (funext fun v => vN_eq v k)
end
end Go.RE
/- The run, quick for the kernel. -/
namespace Go.RE
open Go.RowKit
noncomputable section
def hK (h : Hp) (k : T AO → Nat → Bool) : Bool := Hp.rec (motive := fun _ => (T AO → Nat → Bool) → Bool) (fun t n k => k t n) h k
theorem hK_eq (h : Hp) (k : T AO → Nat → Bool) : hK h k = k h.t h.n := by cases h; rfl
def apK {α : Type} (l m : List α) (k : List α → Bool) : Bool := List.rec (motive := fun _ => List α → (List α → Bool) → Bool) (fun m k => k m) (fun a _ ih m k => ih m fun r => k (a :: r)) l m k
theorem apK_eq {α : Type} : ∀ (l m : List α) (k : List α → Bool), apK l m k = k (l ++ m) := by
  intro l
  induction l with
  | nil => intro m k; rfl
  | cons a l ih => intro m k; show apK l m (fun r => k (a :: r)) = _; rw [ih]; rfl
def v1K (v : AV) : Bool := AV.rec (motive_1 := fun _ => Bool) (motive_2 := fun _ => Unit) (fun _ => true) (fun _ _ => true) (fun _ => true) (true) (fun _ _ => true) (true) (fun _ _ _ _ _ _ => true) (true) (fun _ => true) (fun _ _ _ _ _ => true) (true) (fun _ _ _ => true) (true) (fun _ _ => false) (fun _ _ => false) () (fun _ _ _ _ => ()) v
theorem v1K_eq (v : AV) : v1K v = v.one := by cases v <;> rfl
def oneK (l : List AV) : Bool := List.rec true (fun v _ r => Bool.rec false r (v1K v)) l
theorem oneK_eq (l : List AV) : oneK l = l.all AV.one := by
  induction l with
  | nil => rfl
  | cons v l ih =>
    show (Bool.rec false (oneK l) (v1K v) : Bool) = _
    rw [ih, v1K_eq, bif_rec, List.all_cons]
    cases v.one <;> rfl
def bytesK (l : List Nat) (k : List AV → Bool) : Bool := List.rec (motive := fun _ => (List AV → Bool) → Bool) (fun k => k []) (fun b _ ih k => ih fun r => k (.i .u8 (.ofNat b) :: r)) l k
theorem bytesK_eq : ∀ (l : List Nat) (k : List AV → Bool), bytesK l k = k (bytesV l) := by
  intro l
  induction l with
  | nil => intro k; rfl
  | cons b l ih => intro k; show bytesK l (fun r => k (.i .u8 (.ofNat b) :: r)) = _; rw [ih]; rfl
/-! ### new memory -/
def fopK (o : FOp) (fr : T AV) (id : Nat) (k : AV → AO → Bool) : Bool := FOp.rec (motive := fun _ => T AV → Nat → (AV → AO → Bool) → Bool)
  (fun z fr id k => putLK z .e (nat_lit 0) fun c => nN (lenK z) fun n => k (.p id (nat_lit 0)) (.cells c n))
  (fun x fr id k => evK x fr fun v => cellsK v fun cs => putLK cs .e (nat_lit 0) fun c => nN (lenK cs) fun n => k (.p id (nat_lit 0)) (.cells c n))
  (fun z len zs ps fr id k => evpsK ps fr fun vs => fillK vs zs fun cs => putLK cs .e (nat_lit 0) fun c => nN (lenK cs) fun n => k (.sl id (nat_lit 0) len len true z) (.cells c n))
  (fun bytes v l fr id k => fop fr (.mks bytes v l) id fun w a => vN w fun w => k w a)
  (fun fr id k => fop fr .mkm id k)
  o fr id k
theorem fopK_eq (o : FOp) (fr : T AV) (id : Nat) (k : AV → AO → Bool) : fopK o fr id k = fop fr o id k := by
  cases o
  case alloc z => simp only [fopK, fop, putLK_eq, nN_eq, lenK_eq]
  case box x => simp only [fopK, fop, evK_eq, cellsK_eq, putLK_eq, nN_eq, lenK_eq]
  case bsl z len zs ps => simp only [fopK, fop, evpsK_eq, fillK_eq, putLK_eq, nN_eq, lenK_eq]
  case mks bytes v l => exact congrArg (fop fr (.mks bytes v l) id) (funext fun w => funext fun a => vN_eq w fun w => k w a)
  case mkm => rfl
/-! ### effects -/
def maxK (a b : Nat) (k : Nat → Bool) : Bool := Bool.rec (nN b k) (nN a k) (Nat.ble b a)
theorem maxK_eq (a b : Nat) (k : Nat → Bool) : maxK a b k = k (maxB a b) := by
  unfold maxK maxB
  rw [bif_rec, nN_eq, nN_eq]
  cases Nat.ble b a <;> rfl
def lenSK (v : AV) (k : Nat → Bool) : Bool := vSl v (k (nat_lit 0)) fun _ _ n _ _ _ => k n
theorem lenSK_eq (v : AV) (k : Nat → Bool) : lenSK v k = lenS v k := by cases v <;> rfl
def rdSK (v : AV) (z n : Nat) (h : Hp) (k : List AV → Bool) : Bool := vSl v (Bool.rec false (k []) (Nat.beq n (nat_lit 0))) fun id o m _ _ z' => Bool.rec false (rdCK id h fun c lim => rdnK (Nat.mul n z) c lim o k) (Bool.rec false (Nat.beq z z') (Nat.ble n m))
theorem rdSK_eq (v : AV) (z n : Nat) (h : Hp) (k : List AV → Bool) : rdSK v z n h k = rdS h v z n k := by
  cases v <;> try rfl
  case sn => simp only [rdSK, rdS, vSl_eq, bif_rec]
  case sl id o m cap e z' =>
    simp only [rdSK, rdS, vSl_eq, rdCK_eq, rdnK_eq, bif_rec]
    cases Nat.ble n m <;> rfl
def newK (t : T AO) (n0 z n : Nat) (c : T AV) (k : AV → Hp → Bool) : Bool := nN (Nat.mul n z) fun L => pK t n0 (.cells c L) fun t => nN (Nat.succ n0) fun n1 => k (.sl n0 (nat_lit 0) n n false z) ⟨t, n1⟩
theorem newK_eq (t : T AO) (n0 z n : Nat) (c : T AV) (k : AV → Hp → Bool) : newK t n0 z n c k = k (.sl n0 0 n n false z) ⟨t.put n0 (.cells c (n * z)), n0 + 1⟩ := by simp only [newK, nN_eq, pK_eq]; rfl
def appEK (m z : Nat) (x : AV) (news : List AV) (h : Hp) (k : AV → Hp → Bool) : Bool :=
  Nat.rec (k x h) (fun _ _ => hK h fun t n0 => vSl x (nN m fun m => putLK news .e (nat_lit 0) fun c => newK t n0 z m c k) fun id o n cap e z' =>
    Bool.rec false (rdCK id h fun c lim => nN (Nat.add o (Nat.mul n z)) fun a => Bool.rec false (nN (Nat.add n m) fun nm =>
      Bool.rec
        (Nat.rec (putLK news c (Nat.mul n z) fun c => Bool.rec (pK t id .dead fun t => newK t n0 z nm c k) (newK t n0 z nm c k) e)
          (fun _ _ => rdnK (Nat.mul n z) c lim o fun olds => apK olds news fun cs => putLK cs .e (nat_lit 0) fun c => Bool.rec (pK t id .dead fun t => newK t n0 z nm c k) (newK t n0 z nm c k) e) o)
        (putLK news c a fun c => maxK lim (Nat.add a (lenK news)) fun lim => pK t id (.cells c lim) fun t => k (.sl id o nm cap e z) ⟨t, n0⟩)
        (Nat.ble nm cap)) (Nat.ble a lim)) (Nat.beq z z')) m
theorem appEK_eq (m z : Nat) (x : AV) (news : List AV) (h : Hp) (k : AV → Hp → Bool) : appEK m z x news h k = appE h z x m news k := by
  cases m with
  | zero => rfl
  | succ m =>
    cases x <;> try (cases h; rfl)
    case sn =>
      show hK h (fun t n0 => nN (m + 1) fun m => putLK news .e 0 fun c => newK t n0 z m c k) = _
      simp only [hK_eq, nN_eq, putLK_eq, newK_eq, appE]
    case sl id o n cap e z' =>
      simp only [appEK, vSl_eq, hK_eq, nN_eq, putLK_eq, newK_eq, rdCK_eq, rdnK_eq, apK_eq, pK_eq, maxK_eq, lenK_eq, bif_rec, appE]
      cases Nat.beq z z'
      · rfl
      · simp only [cond_true]
        congr 1; funext c; funext lim
        show (bif Nat.ble (o + n * z) lim then (bif Nat.ble (n + (m + 1)) cap then _ else _) else false) = _
        cases Nat.ble (o + n * z) lim
        · rfl
        · simp only [cond_true]
          cases Nat.ble (n + (m + 1)) cap
          · cases o with
            | zero => cases e <;> rfl
            | succ o => cases e <;> rfl
          · rfl
def idK (v : AV) : Nat := AV.rec (motive_1 := fun _ => Nat) (motive_2 := fun _ => Unit) (fun _ => nat_lit 0) (fun _ _ => nat_lit 0) (fun _ => nat_lit 0) (nat_lit 0) (fun id _ => id) (nat_lit 0) (fun id _ _ _ _ _ => id) (nat_lit 0) (fun id => id) (fun _ _ _ _ _ => nat_lit 0) (nat_lit 0) (fun _ _ _ => nat_lit 0) (nat_lit 0) (fun _ _ => nat_lit 0) (fun _ _ => nat_lit 0) () (fun _ _ _ _ => ()) v
/-- A seldom effect: plainly, then its object in normal form. -/
def rareK (x : AX) (o : EOp) (h : Hp) (fr : T AV) (k : AV → Hp → Bool) : Bool := evK x fr fun u => eop h fr o fun r h' => vN r fun r => tchK (idK u) h' fun h' => tchK h.n h' fun h' => k r h'
theorem ev_twice (fr : T AV) (x : AX) (k : AV → Bool) : ev fr x (fun _ => ev fr x k) = ev fr x k := by
  cases x with
  | c v => rfl
  | t n =>
    show (Option.rec false (fun _ => (Option.rec false k (fr.get n) : Bool)) (fr.get n) : Bool) = Option.rec false k (fr.get n)
    cases fr.get n <;> rfl
theorem rareK_eq (x : AX) (o : EOp) (h : Hp) (fr : T AV) (k : AV → Hp → Bool) (g : AV → Bool) (e : eop h fr o k = ev fr x g) : rareK x o h fr k = eop h fr o k := by
  simp only [rareK, evK_eq, vN_eq, tchK_eq]
  rw [show (fun r h' => k r h') = k from rfl, e, ev_twice]
def eopK (o : EOp) (h : Hp) (fr : T AV) (k : AV → Hp → Bool) : Bool := EOp.rec (motive := fun _ => Hp → T AV → (AV → Hp → Bool) → Bool)
  (fun n x v h fr k => evK x fr fun u => vP u fun id o => evK v fr fun y => rdCK id h fun c lim => cellsK y fun cs => Bool.rec false (Bool.rec false (Bool.rec false (hK h fun t n0 => putLK cs c o fun c => pK t id (.cells c lim) fun t => k (.tu []) ⟨t, n0⟩) (oneK cs)) (Nat.ble (Nat.add o n) lim)) (Nat.beq (lenK cs) n))
  (fun z bytes x y h fr k => evK x fr fun u => evK y fr fun v => lenSK v fun m => lenSK u fun n => rdSK v z m h fun news => Bool.rec false (Bool.rec false (Bool.rec false (appEK m z u news h k) (Nat.ble (Nat.add n m) (nat_lit 140737488355328))) (Nat.ble (Nat.mul (Nat.add n m) bytes) (nat_lit 140737488355328))) (oneK news))
  (fun x y h fr k => evK x fr fun u => evK y fr fun v => vS v fun l => lenSK u fun n => nN (lenK l) fun m => Bool.rec false (bytesK l fun bs => appEK m (nat_lit 1) u bs h k) (Nat.ble (Nat.add n m) (nat_lit 140737488355328)))
  (fun z x y h fr k => evK x fr fun u => evK y fr fun v => lenSK v fun m => lenSK u fun n => nN (Bool.rec n m (Nat.ble m n)) fun r => rdSK v z r h fun cs => vSl u (k (.i .i64 0) h) fun id o _ _ _ z' => Bool.rec false (Bool.rec false (rdCK id h fun c lim => nN (Nat.add o (lenK cs)) fun a => Bool.rec false (hK h fun t n0 => putLK cs c o fun c => maxK lim a fun lim => pK t id (.cells c lim) fun t => k (.i .i64 (.ofNat r)) ⟨t, n0⟩) (Nat.ble a lim)) (oneK cs)) (Nat.beq z z'))
  (fun m key v h fr k => rareK m (.mup m key v) h fr k)
  (fun x h fr k => rareK x (.rng x) h fr k)
  (fun x h fr k => rareK x (.nxt x) h fr k)
  (fun x h fr k => evK x fr fun u => vS u fun l => nN (lenK l) fun m => Bool.rec false (hK h fun t n0 => bytesK l fun bs => putLK bs .e (nat_lit 0) fun c => pK t n0 (.cells c m) fun t => nN (Nat.succ n0) fun n1 => k (.sl n0 (nat_lit 0) m m false (nat_lit 1)) ⟨t, n1⟩) (Nat.ble m (nat_lit 140737488355328)))
  (fun x h fr k => rareK x (.cvss x) h fr k)
  o h fr k
theorem eopK_eq (o : EOp) (h : Hp) (fr : T AV) (k : AV → Hp → Bool) : eopK o h fr k = eop h fr o k := by
  cases o
  case st n x v =>
    simp only [eopK, eop, evK_eq, vP_eq, rdCK_eq, cellsK_eq, putLK_eq, pK_eq, hK_eq, oneK_eq, lenK_eq, bif_rec]
    congr 1; funext u; congr 1; funext id; funext o; congr 1; funext y; congr 1; funext c; funext lim
    cases h1 : Nat.beq y.cells.length n
    · rfl
    · have h1' : y.cells.length = n := Nat.eq_of_beq_eq_true h1
      rw [h1']
      show (bif Nat.ble (o + n) lim then _ else false) = _
      cases h2 : Nat.ble (o + n) lim
      · rfl
      · have h2' := Nat.le_of_ble_eq_true h2
        cases y.cells.all AV.one
        · rfl
        · have : maxB lim (o + n) = lim := by rw [maxB_eq]; omega
          rw [this]; rfl
  case app z bytes x y =>
    simp only [eopK, eop, evK_eq, lenSK_eq, rdSK_eq, oneK_eq, appEK_eq, bif_rec]
    congr 1; funext u; congr 1; funext v; congr 1; funext m; congr 1; funext n; congr 1; funext news
    show (bif news.all AV.one then (bif Nat.ble ((n + m) * bytes) 140737488355328 then (bif Nat.ble (n + m) 140737488355328 then _ else _) else _) else _) = _
    cases news.all AV.one <;> cases Nat.ble ((n + m) * bytes) 140737488355328 <;> rfl
  case apps x y =>
    simp only [eopK, eop, evK_eq, vS_eq, lenSK_eq, bytesK_eq, appEK_eq, nN_eq, lenK_eq, bif_rec]
    rfl
  case cpy z x y =>
    simp only [eopK, eop, evK_eq, lenSK_eq, rdSK_eq, vSl_eq, rdCK_eq, oneK_eq, putLK_eq, pK_eq, maxK_eq, hK_eq, nN_eq, lenK_eq, bif_rec, cpyE]
    congr 1; funext u; congr 1; funext v; congr 1; funext m; congr 1; funext n; congr 1; funext cs
    cases u <;> try rfl
    rename_i id o a b e z'
    dsimp only
    cases Nat.beq z z' <;> cases cs.all AV.one <;> rfl
  case mup m key v => exact rareK_eq _ _ _ _ _ _ rfl
  case rng x => exact rareK_eq _ _ _ _ _ _ rfl
  case nxt x => exact rareK_eq _ _ _ _ _ _ rfl
  case s2b x =>
    simp only [eopK, eop, evK_eq, vS_eq, bytesK_eq, putLK_eq, pK_eq, hK_eq, nN_eq, lenK_eq, bif_rec]
    rfl
  case cvss x => exact rareK_eq _ _ _ _ _ _ rfl
/-! ### operations -/
def putDK (d : Option Nat) (fr : T AV) (v : AV) (k : T AV → Bool) : Bool := Option.rec (motive := fun _ => T AV → AV → (T AV → Bool) → Bool) (fun fr _ k => k fr) (fun t fr v k => pK fr t v k) d fr v k
theorem putDK_eq (d : Option Nat) (fr : T AV) (v : AV) (k : T AV → Bool) : putDK d fr v k = k (putD fr d v) := by
  cases d
  · rfl
  · exact pK_eq _ _ _ _
def gdK (v : AV) (want yes no : Bool) : Bool := AV.rec (motive_1 := fun _ => Bool → Bool → Bool → Bool) (motive_2 := fun _ => Unit) (fun x want yes no => Bool.rec (Bool.rec yes no want) (Bool.rec no yes want) x) (fun _ _ _ _ _ => false) (fun _ _ _ _ => false) (fun _ _ _ => false) (fun _ _ _ _ _ => false) (fun _ _ _ => false) (fun _ _ _ _ _ _ _ _ _ => false) (fun _ _ _ => false) (fun _ _ _ _ => false) (fun _ _ _ _ _ _ _ _ => false) (fun _ _ _ => false) (fun _ _ _ _ _ _ => false) (fun _ _ _ => false) (fun _ _ _ _ _ => false) (fun _ _ want yes no => no) () (fun _ _ _ _ => ()) v want yes no
def wantK (g : Option (Nat × Bool)) (fr : T AV) (yes no : Bool) : Bool := Option.rec (motive := fun _ => T AV → Bool → Bool → Bool) (fun _ yes _ => yes) (fun p fr yes no => Prod.rec (motive := fun _ => T AV → Bool → Bool → Bool) (fun s want fr yes no => gK fr (fun v => gdK v want yes no) s) p fr yes no) g fr yes no
theorem wantK_eq (g : Option (Nat × Bool)) (fr : T AV) (yes no : Bool) : wantK g fr yes no = wantB fr g yes no := by
  cases g with
  | none => rfl
  | some p =>
    obtain ⟨s, want⟩ := p
    show gK fr (fun v => gdK v want yes no) s = _
    rw [gK_eq]
    simp only [wantB]
    cases fr.get s with
    | none => rfl
    | some v =>
      cases v <;> try rfl
      rename_i x
      cases x <;> cases want <;> rfl
def vFK (v : AV) (k : Fn → List AV → List AV → Bool) : Bool := AV.rec (motive_1 := fun _ => (Fn → List AV → List AV → Bool) → Bool) (motive_2 := fun _ => Unit) (fun _ _ => false) (fun _ _ _ => false) (fun _ _ => false) (fun _ => false) (fun _ _ _ => false) (fun _ => false) (fun _ _ _ _ _ _ _ => false) (fun _ => false) (fun _ _ => false) (fun fn a b _ _ k => k fn a b) (fun _ => false) (fun _ _ _ _ => false) (fun _ => false) (fun _ _ _ => false) (fun _ _ _ => false) () (fun _ _ _ _ => ()) v k
def doOpK (op : AOp) (ck : CK) (mt : MT) (fr : T AV) (h : Hp) (k : AV → Hp → Bool) : Bool := AOp.rec (motive := fun _ => CK → MT → T AV → Hp → (AV → Hp → Bool) → Bool)
  (fun so _ _ fr h k => sopK so h fr fun v => k v h)
  (fun fo _ _ fr h k => hK h fun t n => fopK fo fr n fun v a => pK t n a fun t => nN (Nat.succ n) fun n => k v ⟨t, n⟩)
  (fun eo _ _ fr h k => eopK eo h fr k)
  (fun f args ck _ fr h k => evsK args fr fun vs => ck f vs h k)
  (fun f args ck _ fr h k => evK f fr fun fv => evsK args fr fun vs => vFK fv fun fn a b => match fn with
    | .func g => apK a vs fun l => apK l b fun l => ck g l h k
    | _ => false)
  (fun x name args ck mt fr h k => doOp ck mt (.inv x name args) fr h k)
  (fun _ _ _ _ _ => false)
  op ck mt fr h k
theorem doOpK_eq (op : AOp) (ck : CK) (mt : MT) (fr : T AV) (h : Hp) (k : AV → Hp → Bool) : doOpK op ck mt fr h k = doOp ck mt op fr h k := by
  cases op
  case s so => exact sopK_eq _ _ _ _
  case f fo => simp only [doOpK, doOp, hK_eq, fopK_eq, pK_eq, nN_eq]
  case e eo => exact eopK_eq _ _ _ _
  case call f args => exact evsK_eq _ _ _
  case dyn f args =>
    simp only [doOpK, doOp, evK_eq, evsK_eq]
    congr 1; funext fv; congr 1; funext vs
    cases fv <;> try rfl
    rename_i fn a b
    cases fn <;> try rfl
    show apK a vs (fun l => apK l b fun l => ck _ l h k) = _
    rw [apK_eq, apK_eq]
  case inv x name args => rfl
  case bad => rfl
def runOpK (o : AOper) (ck : CK) (mt : MT) (fr : T AV) (h : Hp) (k : T AV → Hp → Bool) : Bool := AOper.rec (motive := fun _ => CK → MT → T AV → Hp → (T AV → Hp → Bool) → Bool)
  (fun d g op ck mt fr h k => wantK g fr (doOpK op ck mt fr h fun v h => putDK d fr v fun fr => k fr h) (putDK d fr (.tu []) fun fr => k fr h)) o ck mt fr h k
theorem runOpK_eq (o : AOper) (ck : CK) (mt : MT) (fr : T AV) (h : Hp) (k : T AV → Hp → Bool) : runOpK o ck mt fr h k = runOp ck mt o fr h k := by
  cases o
  simp only [runOpK, runOp, wantK_eq, doOpK_eq, putDK_eq]
def runOpsK (os : List AOper) (ck : CK) (mt : MT) (fr : T AV) (h : Hp) (k : T AV → Hp → Bool) : Bool := List.rec (motive := fun _ => CK → MT → T AV → Hp → (T AV → Hp → Bool) → Bool)
  (fun _ _ fr h k => k fr h) (fun o _ ih ck mt fr h k => runOpK o ck mt fr h fun fr h => ih ck mt fr h k) os ck mt fr h k
theorem runOpsK_eq : ∀ (os : List AOper) (ck : CK) (mt : MT) (fr : T AV) (h : Hp) (k : T AV → Hp → Bool), runOpsK os ck mt fr h k = runOps ck mt os fr h k := by
  intro os
  induction os with
  | nil => intro ck mt fr h k; rfl
  | cons o os ih =>
    intro ck mt fr h k
    refine (runOpK_eq _ _ _ _ _ _).trans ?_
    show runOp ck mt o fr h (fun fr h => runOpsK os ck mt fr h k) = runOp ck mt o fr h fun fr h => runOps ck mt os fr h k
    congr 1; funext fr; funext h
    exact ih _ _ _ _ _
/-! ### regions that draw -/
def aeqK (u v : AV) : Bool := AV.rec (motive_1 := fun _ => AV → Bool) (motive_2 := fun _ => List AV → Bool) (fun x v => vB v fun y => Bool.rec (Bool.rec true false y) y x) (fun kd n v => vI v fun k m => Bool.rec false (iEqF n m) (kEqF kd k)) (fun l v => aeq (.s l) v) (fun v => aeq .pn v) (fun a b v => vP v fun c d => Bool.rec false (Nat.beq b d) (Nat.beq a c)) (fun v => aeq .sn v) (fun a b c d e f v => aeq (.sl a b c d e f) v) (fun v => aeq .mn v) (fun a v => aeq (.m a) v) (fun fn a b _ _ v => aeq (.f fn a b) v) (fun v => aeq .nf v) (fun t u _ v => aeq (.ifc t u) v) (fun v => aeq .nif v) (fun _ ih v => vAg v ih) (fun _ ih v => vTu v ih) (fun m => List.rec true (fun _ _ _ => false) m) (fun _ _ iha ihl m => List.rec false (fun b m _ => Bool.rec false (ihl m) (iha b)) m) u v
mutual
theorem aeqK_eq : ∀ u v : AV, aeqK u v = aeq u v
  | .b x, v => by
    show vB v (fun y => Bool.rec (Bool.rec true false y) y x) = _
    rw [vB_eq]
    cases v <;> simp only [aeq]
    rename_i y
    cases x <;> cases y <;> rfl
  | .i kd n, v => by
    show vI v (fun k m => Bool.rec false (iEqF n m) (kEqF kd k)) = _
    rw [vI_eq]
    cases v <;> simp only [aeq, asI, bif_rec, iEqF_eq, kEqF_eq]
    rename_i k m
    cases kEq kd k <;> rfl
  | .p a b, v => by
    show vP v (fun c d => Bool.rec false (Nat.beq b d) (Nat.beq a c)) = _
    rw [vP_eq]
    cases v <;> simp only [aeq, asP, bif_rec]
    rename_i c d
    cases Nat.beq a c <;> rfl
  | .ag l, v => by
    show vAg v (fun m => AV.rec_1 (motive_1 := fun _ => AV → Bool) (motive_2 := fun _ => List AV → Bool) (fun x v => vB v fun y => Bool.rec (Bool.rec true false y) y x) (fun kd n v => vI v fun k m => Bool.rec false (iEqF n m) (kEqF kd k)) (fun l v => aeq (.s l) v) (fun v => aeq .pn v) (fun a b v => vP v fun c d => Bool.rec false (Nat.beq b d) (Nat.beq a c)) (fun v => aeq .sn v) (fun a b c d e f v => aeq (.sl a b c d e f) v) (fun v => aeq .mn v) (fun a v => aeq (.m a) v) (fun fn a b _ _ v => aeq (.f fn a b) v) (fun v => aeq .nf v) (fun t u _ v => aeq (.ifc t u) v) (fun v => aeq .nif v) (fun _ ih v => vAg v ih) (fun _ ih v => vTu v ih) (fun m => List.rec true (fun _ _ _ => false) m) (fun _ _ iha ihl m => List.rec false (fun b m _ => Bool.rec false (ihl m) (iha b)) m) l m) = _
    rw [vAg_eq]
    cases v <;> simp only [aeq]
    exact aeqsK_eq _ _
  | .tu l, v => by
    show vTu v (fun m => AV.rec_1 (motive_1 := fun _ => AV → Bool) (motive_2 := fun _ => List AV → Bool) (fun x v => vB v fun y => Bool.rec (Bool.rec true false y) y x) (fun kd n v => vI v fun k m => Bool.rec false (iEqF n m) (kEqF kd k)) (fun l v => aeq (.s l) v) (fun v => aeq .pn v) (fun a b v => vP v fun c d => Bool.rec false (Nat.beq b d) (Nat.beq a c)) (fun v => aeq .sn v) (fun a b c d e f v => aeq (.sl a b c d e f) v) (fun v => aeq .mn v) (fun a v => aeq (.m a) v) (fun fn a b _ _ v => aeq (.f fn a b) v) (fun v => aeq .nf v) (fun t u _ v => aeq (.ifc t u) v) (fun v => aeq .nif v) (fun _ ih v => vAg v ih) (fun _ ih v => vTu v ih) (fun m => List.rec true (fun _ _ _ => false) m) (fun _ _ iha ihl m => List.rec false (fun b m _ => Bool.rec false (ihl m) (iha b)) m) l m) = _
    rw [vTu_eq]
    cases v <;> simp only [aeq]
    exact aeqsK_eq _ _
  | .s _, v => rfl
  | .pn, v => rfl
  | .sn, v => rfl
  | .sl _ _ _ _ _ _, v => rfl
  | .mn, v => rfl
  | .m _, v => rfl
  | .f _ _ _, v => rfl
  | .nf, v => rfl
  | .ifc _ _, v => rfl
  | .nif, v => rfl
theorem aeqsK_eq : ∀ l m : List AV, (AV.rec_1 (motive_1 := fun _ => AV → Bool) (motive_2 := fun _ => List AV → Bool) (fun x v => vB v fun y => Bool.rec (Bool.rec true false y) y x) (fun kd n v => vI v fun k m => Bool.rec false (iEqF n m) (kEqF kd k)) (fun l v => aeq (.s l) v) (fun v => aeq .pn v) (fun a b v => vP v fun c d => Bool.rec false (Nat.beq b d) (Nat.beq a c)) (fun v => aeq .sn v) (fun a b c d e f v => aeq (.sl a b c d e f) v) (fun v => aeq .mn v) (fun a v => aeq (.m a) v) (fun fn a b _ _ v => aeq (.f fn a b) v) (fun v => aeq .nf v) (fun t u _ v => aeq (.ifc t u) v) (fun v => aeq .nif v) (fun _ ih v => vAg v ih) (fun _ ih v => vTu v ih) (fun m => List.rec true (fun _ _ _ => false) m) (fun _ _ iha ihl m => List.rec false (fun b m _ => Bool.rec false (ihl m) (iha b)) m) l m : Bool) = aeqs l m
  | [], m => by cases m <;> simp only [aeqs]
  | a :: l, m => by
    cases m with
    | nil => simp only [aeqs]
    | cons b m =>
      show (Bool.rec false (AV.rec_1 (motive_1 := fun _ => AV → Bool) (motive_2 := fun _ => List AV → Bool) (fun x v => vB v fun y => Bool.rec (Bool.rec true false y) y x) (fun kd n v => vI v fun k m => Bool.rec false (iEqF n m) (kEqF kd k)) (fun l v => aeq (.s l) v) (fun v => aeq .pn v) (fun a b v => vP v fun c d => Bool.rec false (Nat.beq b d) (Nat.beq a c)) (fun v => aeq .sn v) (fun a b c d e f v => aeq (.sl a b c d e f) v) (fun v => aeq .mn v) (fun a v => aeq (.m a) v) (fun fn a b _ _ v => aeq (.f fn a b) v) (fun v => aeq .nf v) (fun t u _ v => aeq (.ifc t u) v) (fun v => aeq .nif v) (fun _ ih v => vAg v ih) (fun _ ih v => vTu v ih) (fun m => List.rec true (fun _ _ _ => false) m) (fun _ _ iha ihl m => List.rec false (fun b m _ => Bool.rec false (ihl m) (iha b)) m) l m) (aeqK a b) : Bool) = _
      rw [aeqsK_eq l m, aeqK_eq a b, bif_rec]
      simp only [aeqs]
      cases aeq a b <;> rfl
end
def sopOf (op : AOp) (k : SOp → Bool) : Bool := AOp.rec (motive := fun _ => (SOp → Bool) → Bool) (fun so k => k so) (fun _ _ => false) (fun _ _ => false) (fun _ _ _ => false) (fun _ _ _ => false) (fun _ _ _ _ => false) (fun _ => false) op k
theorem sopOf_eq (op : AOp) (k : SOp → Bool) : sopOf op k = (match op with | .s so => k so | _ => false) := by cases op <;> rfl
def recheckK (os : List AOper) (h : Hp) (fr : T AV) : Bool := List.rec (motive := fun _ => Hp → T AV → Bool) (fun _ _ => true)
  (fun o _ ih h fr => AOper.rec (motive := fun _ => (Hp → T AV → Bool) → Hp → T AV → Bool) (fun d g op ih h fr => Bool.rec false (ih h fr) (sopOf op fun so => wantK g fr (sopK so h fr fun v => Option.rec false (fun t => gK fr (fun u => aeqK u v) t) d) true)) o ih h fr) os h fr
theorem and_bif (a b : Bool) : (a && b) = bif a then b else false := by cases a <;> rfl
theorem recheckK_eq : ∀ (os : List AOper) (h : Hp) (fr : T AV), recheckK os h fr = recheck h fr os := by
  intro os
  induction os with
  | nil => intro h fr; rfl
  | cons o os ih =>
    intro h fr
    obtain ⟨d, g, op⟩ := o
    show (Bool.rec false (recheckK os h fr) (sopOf op fun so => wantK g fr (sopK so h fr fun v => Option.rec false (fun t => gK fr (fun u => aeqK u v) t) d) true) : Bool) = _
    rw [ih, bif_rec, sopOf_eq]
    simp only [recheck, wantK_eq, sopK_eq, gK_eq, aeqK_eq]
    cases op <;> try rfl
    rename_i so
    have : ∀ (f : AV → Bool) (d : Option Nat), (fun v => (Option.rec false (fun t => (Option.rec false (fun u => aeq u v) (fr.get t) : Bool)) d : Bool)) = fun v => (match d with | some t => (match fr.get t with | some u => aeq u v | none => false) | none => false) := by
      intro f d
      funext v
      cases d with
      | none => rfl
      | some t =>
        dsimp only
        cases fr.get t <;> rfl
    rw [this (fun _ => true) d]
    exact (and_bif _ _).symm
def joinK (ps : Pend) (t : T AO) (use : List Nat) (k : T AO → Bool) : Bool := List.rec (motive := fun _ => T AO → List Nat → (T AO → Bool) → Bool) (fun t _ k => k t)
  (fun p _ ih t use k => Bool.rec (ih t use k) (pK t p.2.1 p.2.2 fun t => ih t use k) (memN p.1 use)) ps t use k
theorem joinK_eq : ∀ (ps : Pend) (t : T AO) (use : List Nat) (k : T AO → Bool), joinK ps t use k = k (joinF t use ps) := by
  intro ps
  induction ps with
  | nil => intro t use k; rfl
  | cons p ps ih =>
    intro t use k
    obtain ⟨j, id, a⟩ := p
    show (Bool.rec (joinK ps t use k) (pK t id a fun t => joinK ps t use k) (memN j use) : Bool) = _
    simp only [ih, pK_eq, bif_rec, joinF]
    cases memN j use <;> rfl
def leftK (ps : Pend) (use : List Nat) (k : Pend → Bool) : Bool := List.rec (motive := fun _ => List Nat → (Pend → Bool) → Bool) (fun _ k => k [])
  (fun p _ ih use k => Bool.rec (ih use fun l => k (p :: l)) (ih use k) (memN p.1 use)) ps use k
theorem leftK_eq : ∀ (ps : Pend) (use : List Nat) (k : Pend → Bool), leftK ps use k = k (leftF use ps) := by
  intro ps
  induction ps with
  | nil => intro use k; rfl
  | cons p ps ih =>
    intro use k
    obtain ⟨j, id, a⟩ := p
    show (Bool.rec (leftK ps use fun l => k ((j, id, a) :: l)) (leftK ps use k) (memN j use) : Bool) = _
    simp only [ih, bif_rec, leftF]
    cases memN j use <;> rfl
abbrev DK := List Nat → Pend → T AV → Hp → (T AV → Hp → Bool) → Bool
def diK (o : DI) (ck : CK) (mt : MT) (base nf : Nat) (ih : DK) (jn : List Nat) (ps : Pend) (fr : T AV) (h : Hp) (k : T AV → Hp → Bool) : Bool :=
  DI.rec (motive := fun _ => CK → MT → Nat → Nat → DK → DK)
    (fun _ o ck mt base nf ih jn ps fr h k => AOper.rec (motive := fun _ => DK → DK) (fun d g op ih jn ps fr h k => sopOf op fun so => wantK g fr (sopK so h fr fun v => putDK d fr v fun fr => ih jn ps fr h k) (putDK d fr (.tu []) fun fr => ih jn ps fr h k)) o ih jn ps fr h k)
    (fun i o j ck mt base nf ih jn ps fr h k => match o with
      | .mk d g op => match op with
        | .f fo => match g with
          | none => nN (Nat.add base j) fun id => fopK fo fr id fun v a => putDK d fr v fun fr => ih jn ((j, id, a) :: ps) fr h k
          | some _ => false
        | _ => false)
    (fun _ o use re ck mt base nf ih jn ps fr h k => AOper.rec (motive := fun _ => List Nat → List AOper → CK → MT → Nat → Nat → DK → DK) (fun d g op use re ck mt base nf ih jn ps fr h k => hK h fun t n => joinK ps t use fun t => leftK ps use fun ps => apK use jn fun jn =>
      (fun cont => wantK g fr (doOpK op ck mt fr ⟨t, n⟩ cont) (cont (.tu []) ⟨t, n⟩)) fun v h2 => Bool.rec false (Bool.rec false (putDK d fr v fun fr => ih jn ps fr h2 k) (noneBut h2.t base jn nf)) (recheckK re h2 fr)) o use re ck mt base nf ih jn ps fr h k)
    o ck mt base nf ih jn ps fr h k
def drunK (os : List DI) (ck : CK) (mt : MT) (base nf : Nat) : DK := List.rec (motive := fun _ => CK → MT → Nat → Nat → DK) (fun _ _ _ nf _ ps fr h k => hK h fun t n => joinK ps t (List.range nf) fun t => k fr ⟨t, n⟩)
  (fun o _ ih ck mt base nf jn ps fr h k => diK o ck mt base nf (ih ck mt base nf) jn ps fr h k) os ck mt base nf
theorem drunK_eq : ∀ (os : List DI) (ck : CK) (mt : MT) (base nf : Nat) (jn : List Nat) (ps : Pend) (fr : T AV) (h : Hp) (k : T AV → Hp → Bool), drunK os ck mt base nf jn ps fr h k = drun ck mt base nf os jn ps fr h k := by
  intro os
  induction os with
  | nil =>
    intro ck mt base nf jn ps fr h k
    show hK h (fun t n => joinK ps t (List.range nf) fun t => k fr ⟨t, n⟩) = _
    rw [hK_eq, joinK_eq]; rfl
  | cons o os ih =>
    intro ck mt base nf jn ps fr h k
    show diK o ck mt base nf (drunK os ck mt base nf) jn ps fr h k = _
    cases o with
    | st i o =>
      obtain ⟨d, g, op⟩ := o
      show (sopOf op fun so => wantK g fr (sopK so h fr fun v => putDK d fr v fun fr => drunK os ck mt base nf jn ps fr h k) (putDK d fr (.tu []) fun fr => drunK os ck mt base nf jn ps fr h k)) = _
      simp only [sopOf_eq, wantK_eq, sopK_eq, putDK_eq, ih, drun]
      try rfl
    | fl i o j =>
      obtain ⟨d, g, op⟩ := o
      cases op <;> try rfl
      rename_i fo
      cases g
      · show (nN (base + j) fun id => fopK fo fr id fun v a => putDK d fr v fun fr => drunK os ck mt base nf jn ((j, id, a) :: ps) fr h k) = _
        simp only [nN_eq, fopK_eq, putDK_eq, ih, drun]
      · rfl
    | ef i o use re =>
      obtain ⟨d, g, op⟩ := o
      show (hK h fun t n => joinK ps t use fun t => leftK ps use fun ps => apK use jn fun jn =>
        (fun cont => wantK g fr (doOpK op ck mt fr ⟨t, n⟩ cont) (cont (.tu []) ⟨t, n⟩)) fun v h2 => Bool.rec false (Bool.rec false (putDK d fr v fun fr => drunK os ck mt base nf jn ps fr h2 k) (noneBut h2.t base jn nf)) (recheckK re h2 fr)) = _
      simp only [hK_eq, joinK_eq, leftK_eq, apK_eq, wantK_eq, doOpK_eq, putDK_eq, recheckK_eq, ih, bif_rec, drun, efOp, and_bif]
/-! ### calls and the run -/
def resK (rs : List ARes) (fr : T AV) (h : Hp) (k : List AV → Bool) : Bool := List.rec (motive := fun _ => T AV → Hp → (List AV → Bool) → Bool) (fun _ _ k => k [])
  (fun r _ ih fr h k => ARes.rec (motive := fun _ => (T AV → Hp → (List AV → Bool) → Bool) → T AV → Hp → (List AV → Bool) → Bool)
    (fun n ih fr h k => gK fr (fun v => ih fr h fun vs => k (v :: vs)) n)
    (fun n ih fr h k => gK fr (fun u => vP u fun id o => rdCK id h fun c lim => rd1K c lim o fun v => ih fr h fun vs => k (v :: vs)) n)
    (fun n m ih fr h k => gK fr (fun u => vP u fun id o => rdCK id h fun c lim => rdnK m c lim o fun us => ih fr h fun vs => k (.ag us :: vs)) n) r ih fr h k) rs fr h k
theorem resK_eq : ∀ (rs : List ARes) (fr : T AV) (h : Hp) (k : List AV → Bool), resK rs fr h k = resOf fr h rs k := by
  intro rs
  induction rs with
  | nil => intro fr h k; rfl
  | cons r rs ih =>
    intro fr h k
    cases r with
    | t n =>
      show gK fr (fun v => resK rs fr h fun vs => k (v :: vs)) n = _
      simp only [gK_eq, ih, resOf]
      cases fr.get n <;> rfl
    | c1 n =>
      show gK fr (fun u => vP u fun id o => rdCK id h fun c lim => rd1K c lim o fun v => resK rs fr h fun vs => k (v :: vs)) n = _
      simp only [gK_eq, ih, resOf, vP_eq, rdCK_eq, rd1K_eq]
      cases fr.get n with
      | none => rfl
      | some v => cases v <;> rfl
    | cn n m =>
      show gK fr (fun u => vP u fun id o => rdCK id h fun c lim => rdnK m c lim o fun us => resK rs fr h fun vs => k (.ag us :: vs)) n = _
      simp only [gK_eq, ih, resOf, vP_eq, rdCK_eq, rdnK_eq]
      cases fr.get n with
      | none => rfl
      | some v => cases v <;> rfl
def packK (vs : List AV) : AV := List.rec (.tu []) (fun v l _ => List.rec v (fun a m _ => .tu (v :: a :: m)) l) vs
theorem packK_eq (vs : List AV) : packK vs = packR vs := by
  cases vs with
  | nil => rfl
  | cons v l => cases l <;> rfl
abbrev RK := AC → T AV → Hp → (X → T AV → Hp → Bool) → Bool
def callK (ih : RK) (tbl : T AFn) : CK := fun f args h k => gK tbl (fun a => AFn.rec (motive := fun _ => RK → List AV → Hp → (AV → Hp → Bool) → Bool)
  (fun _ c res ih args h k => putLK args .e (nat_lit 0) fun fr => ih c fr h fun x fr h => X.rec (resK res fr h fun vs => vN (packK vs) fun v => k v h) (fun _ => false) (resK res fr h fun vs => vN (packK vs) fun v => k v h) x)
  (fun g _ args h k => Option.rec false (fun v => vN v fun v => k v h) (g args h))
  (fun g _ args h k => Option.rec false (fun v => vN v fun v => k v h) (g args)) a ih args h k) f
theorem callK_eq (ih : RK) (tbl : T AFn) : callK ih tbl = callF ih tbl := by
  funext f args h k
  simp only [callK, callF, gK_eq]
  cases tbl.get f with
  | none => rfl
  | some a =>
    cases a with
    | code n c res =>
      show (putLK args .e 0 fun fr => ih c fr h fun x fr h => X.rec (resK res fr h fun vs => vN (packK vs) fun v => k v h) (fun _ => false) (resK res fr h fun vs => vN (packK vs) fun v => k v h) x) = _
      simp only [putLK_eq, resK_eq, vN_eq, packK_eq]
      congr 1
      funext x fr h
      cases x <;> rfl
    | sum g =>
      show (Option.rec false (fun v => vN v fun v => k v h) (g args h) : Bool) = _
      simp only [vN_eq]
      cases g args h <;> rfl
    | ext g =>
      show (Option.rec false (fun v => vN v fun v => k v h) (g args) : Bool) = _
      simp only [vN_eq]
      cases g args <;> rfl
def xK (x : X) (a b : Bool) (e : Nat → Bool) : Bool := X.rec a e b x
def runBK (tbl : T AFn) (mt : MT) (ih : RK) : RK := fun c fr h k => AC.rec (motive := fun _ => T AFn → MT → RK → T AV → Hp → (X → T AV → Hp → Bool) → Bool)
  (fun _ _ _ fr h k => k .normal fr h)
  (fun ops tbl mt ih fr h k => runOpsK ops (callK ih tbl) mt fr h fun fr h => k .normal fr h)
  (fun nf items tbl mt ih fr h k => hK h fun t n => Bool.rec false (nN (Nat.add n nf) fun n' => drunK items (callK ih tbl) mt n nf [] [] fr ⟨t, n'⟩ fun fr h => k .normal fr h) (noneAt t n nf))
  (fun a b _ _ _ _ ih fr h k => ih a fr h fun x fr h => X.rec (ih b fr h k) (fun j => k (.exit j) fr h) (k .ret fr h) x)
  (fun c a b _ _ _ _ ih fr h k => evK c fr fun v => vB v fun t => Bool.rec (ih b fr h k) (ih a fr h k) t)
  (fun id a _ _ _ ih fr h k => ih a fr h fun x fr h => X.rec (k .normal fr h) (fun j => Bool.rec (k (.exit j) fr h) (k .normal fr h) (Nat.beq j id)) (k .ret fr h) x)
  (fun a _ _ _ ih fr h k => ih a fr h fun x fr h => X.rec (ih (.loop a) fr h k) (fun j => k (.exit j) fr h) (k .ret fr h) x)
  (fun id _ _ _ fr h k => k (.exit id) fr h)
  (fun _ _ _ fr h k => k .ret fr h)
  (fun _ _ _ _ _ _ => false)
  c tbl mt ih fr h k
theorem runBK_eq (tbl : T AFn) (mt : MT) (ih : RK) (c : AC) (fr : T AV) (h : Hp) (k : X → T AV → Hp → Bool) : runBK tbl mt ih c fr h k = runB tbl mt ih c fr h k := by
  cases c
  case skip => rfl
  case reg ops => simp only [runBK, runB, runOpsK_eq, callK_eq]
  case dreg nf items =>
    simp only [runBK, runB, hK_eq, nN_eq, drunK_eq, callK_eq, bif_rec]
    rfl
  case seq a b =>
    show (ih a fr h fun x fr h => X.rec (ih b fr h k) (fun j => k (.exit j) fr h) (k .ret fr h) x) = _
    simp only [runB]
    congr 1; funext x fr h
    cases x <;> rfl
  case cond c a b =>
    show (evK c fr fun v => vB v fun t => Bool.rec (ih b fr h k) (ih a fr h k) t) = _
    simp only [runB, evK_eq, vB_eq, bif_rec]
    try rfl
  case block id a =>
    show (ih a fr h fun x fr h => X.rec (k .normal fr h) (fun j => Bool.rec (k (.exit j) fr h) (k .normal fr h) (Nat.beq j id)) (k .ret fr h) x) = _
    simp only [runB]
    congr 1; funext x fr h
    cases x <;> try rfl
    simp only [bif_rec]
  case loop a =>
    show (ih a fr h fun x fr h => X.rec (ih (.loop a) fr h k) (fun j => k (.exit j) fr h) (k .ret fr h) x) = _
    simp only [runB]
    congr 1; funext x fr h
    cases x <;> rfl
  case exit id => rfl
  case ret => rfl
  case bad => rfl
def runK (tbl : T AFn) (mt : MT) (f : Nat) : RK := Nat.rec (fun _ _ _ _ => false) (fun _ ih => runBK tbl mt ih) f
theorem runK_eq (tbl : T AFn) (mt : MT) : ∀ f : Nat, runK tbl mt f = run tbl mt f := by
  intro f
  induction f with
  | zero => rfl
  | succ f ih =>
    funext c fr h k
    show runBK tbl mt (runK tbl mt f) c fr h k = runB tbl mt (run tbl mt f) c fr h k
    rw [ih, runBK_eq]
/-- A call, run. -/
def goK (tbl : T AFn) (mt : MT) (f : Nat) : CK := callK (runK tbl mt f) tbl
theorem goK_eq (tbl : T AFn) (mt : MT) (f : Nat) : goK tbl mt f = callF (run tbl mt f) tbl := by rw [goK, callK_eq, runK_eq]
end
end Go.RE
