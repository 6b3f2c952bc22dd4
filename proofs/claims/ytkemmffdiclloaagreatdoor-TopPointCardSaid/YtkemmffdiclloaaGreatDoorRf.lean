import Derived.Test.YtkemmffdiclloaaGreatDoorRe
import Derived.Laws.Externs
import Derived.Lib.Bytealg
import Derived.Lib.Join
set_option linter.unusedVariables false
set_option linter.unusedSimpArgs false
/- Regions that draw their order: the game. -/
namespace Go.RE
open Go.RowKit
noncomputable section
section
variable {P : Program} {ops : Array Oper} {N base nf : Nat} {all : List Rec} {fr0 fr' : T AV} {h' : Hp} {S : Nat → Prop} {w0 : World} {ρ0 : M}
/-- The operations listed so far. -/
def Lof (listed : Array Bool) (i : Nat) : Prop := listed[i]? = some true
theorem ready_iff {listed : Array Bool} (hs : listed.size = ops.size) {i : Nat} : i ∈ Region.ready .any ops listed ↔ listed[i]? = some false ∧ ∀ d, Dep ops i d → Lof listed d := by
  unfold Region.ready
  rw [List.mem_filter, List.mem_range, Bool.and_eq_true, Bool.not_eq_true']
  constructor
  · rintro ⟨h1, h2, h3⟩
    have hi : listed[i]? = some (listed[i]'(by omega)) := Array.getElem?_eq_getElem _
    simp only [Array.getD_eq_getD_getElem?, hi, Option.getD_some] at h2
    refine ⟨by rw [hi, h2], fun d hd => ?_⟩
    obtain ⟨o, e, g1, g2, g3, rfl⟩ := hd
    rw [g1] at h3
    simp only [Option.map_some, Option.getD_some, Array.all_eq_true_iff_forall_mem] at h3
    have := h3 e g2
    rw [g3] at this
    simp only [Bool.not_true, Bool.false_or, Array.getD_eq_getD_getElem?] at this
    unfold Lof
    cases hx : listed[e.on]? with
    | none => rw [hx] at this; cases this
    | some b => rw [hx] at this; simp at this; rw [this]
  · rintro ⟨h1, h2⟩
    have hi : i < listed.size := (Array.getElem?_eq_some_iff.1 h1).1
    refine ⟨by omega, by simp [Array.getD_eq_getD_getElem?, h1], ?_⟩
    have ho : ops[i]? = some (ops[i]'(by omega)) := Array.getElem?_eq_getElem _
    rw [ho]
    simp only [Option.map_some, Option.getD_some, Array.all_eq_true_iff_forall_mem]
    intro e he
    cases hb : Region.binds .any e
    · rfl
    · have := h2 e.on ⟨_, e, ho, he, hb, rfl⟩
      simp only [Bool.not_true, Bool.false_or, Array.getD_eq_getD_getElem?]
      rw [this]; rfl
theorem Lof_set {listed : Array Bool} {i : Nat} (hi : listed[i]? = some false) : Lof (listed.setIfInBounds i true) = fun k => Lof listed k ∨ k = i := by
  have hlt : i < listed.size := (Array.getElem?_eq_some_iff.1 hi).1
  funext k
  apply propext
  unfold Lof
  rw [Array.getElem?_setIfInBounds]
  by_cases h : i = k
  · subst h; rw [if_pos rfl, if_pos hlt]; exact ⟨fun _ => .inr rfl, fun _ => rfl⟩
  · rw [if_neg h]; exact ⟨.inl, fun h1 => h1.resolve_right fun e => h e.symm⟩
/-- How many are not listed. -/
def left (listed : Array Bool) : Nat := listed.toList.countP (!·)
theorem left_set {listed : Array Bool} {i : Nat} (hi : listed[i]? = some false) : left (listed.setIfInBounds i true) + 1 = left listed := by
  unfold left
  have hlt : i < listed.toList.length := by simpa using (Array.getElem?_eq_some_iff.1 hi).1
  have hv : listed.toList[i] = false := by
    have := (Array.getElem?_eq_some_iff.1 hi).2
    simpa using this
  rw [Array.toList_setIfInBounds, List.countP_set hlt]
  have e1 : (if (!listed.toList[i]) = true then 1 else 0) = 1 := by rw [hv]; rfl
  rw [e1]
  have : 0 < List.countP (!·) listed.toList := List.countP_pos_iff.2 ⟨false, by rw [← hv]; exact List.getElem_mem hlt, rfl⟩
  have e2 : (if (!true) = true then 1 else 0) = 0 := rfl
  rw [e2]; omega
theorem left_zero {listed : Array Bool} (h : left listed = 0) {i : Nat} (hi : i < listed.size) : Lof listed i := by
  unfold left at h
  have := List.countP_eq_zero.1 h (listed[i]) (by simp)
  unfold Lof
  rw [Array.getElem?_eq_getElem hi]
  simpa using this
/-- What the end wants. -/
def Fin (N base : Nat) (fr' : T AV) (h' : Hp) (S : Nat → Prop) (w0 : World) (ρ0 : M) (Q : Exit → Act → World → Prop) : Prop :=
  ∀ ρ' a' w', FR ρ' N fr' a' → Inv S w0 h' ρ' w' → ExtN base ρ0 ρ' → base ≤ h'.n → Q .normal a' w'
theorem St.fin {L : Nat → Prop} {ρ : M} {a : Act} {w : World} (hG : Glob P ops N base nf all fr0 fr') (hs : St P ops N base nf all fr0 fr' h' S w0 ρ0 L ρ a w) (hall : ∀ r ∈ all, L r.i) {Q : Exit → Act → World → Prop} (hQ : Fin N base fr' h' S w0 ρ0 Q) : Q .normal a w := by
  obtain ⟨pre, rest, jn, ps, fr, h, hh, t, e, hfr, hp, h1, h2, h3, h4, h5, h6, h7, h8, h9, h10⟩ := hs.heap
  have t' : Tr P ops N base nf pre jn ps fr h (rest ++ []) fr' h' := by simpa using t
  obtain ⟨ps1, fr1, t1, f1, p1, _⟩ := t'.walk hfr hp fun q hq hq' => h2 q hq hq' (hall q (by rw [← e]; exact List.mem_append_right _ hq))
  rw [e] at p1 t1
  generalize hg : ([] : List Rec) = nl at t1
  cases t1 with
  | nil =>
    refine hQ ρ a w ⟨hs.defers, hs.size, fun s v hv => ?_⟩ (h7.less (fun id b hb => ?_) h8.symm) hs.ext (by show base ≤ h.n; omega)
    · have hl := hG.last s
      by_cases hq : ∃ q ∈ all, q.o.dst = some s
      · obtain ⟨q, hq, hd⟩ := hq
        have := hl.1 q hq hd
        rw [hv] at this; injection this with this
        exact hs.slot s v (.inl ⟨q, hq, hall q hq, hd, this.symm⟩)
      · have hq' : ∀ q ∈ all, q.o.dst ≠ some s := fun q g1 g2 => hq ⟨q, g1, g2⟩
        exact hs.slot s v (.inr ⟨fun q g1 _ => hq' q g1, by rw [← hl.2 hq']; exact hv⟩)
    · rcases joinF_get ps1 h.t _ id b hb with hb | ⟨p, g1, g2, g3, g4⟩
      · exact h9 id b hb
      · obtain ⟨q, i1, i2, i3, i4⟩ := p1.2 p g1
        rw [← g2, i3, ← g3]
        exact h10 q i1 p.1 p.2.2 i2 (hall q i1) i4
  | st => cases hg
  | fl => cases hg
  | ef => cases hg
theorem game (hG : Glob P ops N base nf all fr0 fr') (hcov : ∀ i, i < ops.size → ∃ r ∈ all, r.i = i) {Q : Exit → Act → World → Prop} (hQ : Fin N base fr' h' S w0 ρ0 Q) : ∀ (fuel : Nat) (listed : Array Bool) (ρ : M) (a : Act) (w : World),
    listed.size = ops.size → left listed ≤ fuel → St P ops N base nf all fr0 fr' h' S w0 ρ0 (Lof listed) ρ a w → wpAny P .any ops Q fuel listed a w := by
  have bound : ∀ r ∈ all, r.i < ops.size := fun r hr => (Array.getElem?_eq_some_iff.1 (hG.at_ r hr)).1
  have done : ∀ (listed : Array Bool) (ρ : M) (a : Act) (w : World), listed.size = ops.size → St P ops N base nf all fr0 fr' h' S w0 ρ0 (Lof listed) ρ a w → Region.ready .any ops listed = [] → Q .normal a w := by
    intro listed ρ a w hsz hs hr
    refine hs.fin hG (fun r hr' => ?_) hQ
    apply Classical.byContradiction
    intro hn
    obtain ⟨q, hq, g1, g2⟩ := hG.ready (Lof listed) ⟨r, hr', hn⟩
    have hlt := bound q hq
    have : q.i ∈ Region.ready .any ops listed := (ready_iff hsz).2 ⟨by
      unfold Lof at g1
      have hx : listed[q.i]? = some (listed[q.i]'(by omega)) := Array.getElem?_eq_getElem _
      rw [hx] at g1 ⊢
      cases hb : listed[q.i]'(by omega)
      · rfl
      · rw [hb] at g1; exact absurd rfl g1, g2⟩
    rw [hr] at this; cases this
  intro fuel
  induction fuel with
  | zero =>
    intro listed ρ a w hsz hle hs
    have hnil : Region.ready .any ops listed = [] := by
      cases hr : Region.ready .any ops listed with
      | nil => rfl
      | cons i l =>
        exfalso
        have hi : i ∈ Region.ready .any ops listed := by rw [hr]; exact List.mem_cons_self ..
        obtain ⟨g1, _⟩ := (ready_iff hsz).1 hi
        have := left_zero (Nat.le_zero.1 hle) (Array.getElem?_eq_some_iff.1 g1).1
        unfold Lof at this
        rw [g1] at this; cases this
    exact ⟨hnil, done listed ρ a w hsz hs hnil⟩
  | succ fuel ih =>
    intro listed ρ a w hsz hle hs
    refine ⟨done listed ρ a w hsz hs, fun i hi => ?_⟩
    obtain ⟨g1, g2⟩ := (ready_iff hsz).1 hi
    have hlt : i < ops.size := by rw [← hsz]; exact (Array.getElem?_eq_some_iff.1 g1).1
    obtain ⟨r, hr, rfl⟩ := hcov i hlt
    have hl : ¬ Lof listed r.i := by unfold Lof; rw [g1]; intro h; cases h
    have go : ∀ ρ' u w', St P ops N base nf all fr0 fr' h' S w0 ρ0 (fun k => Lof listed k ∨ k = r.i) ρ' (a.put r.o.dst u) w' → wpAny P .any ops Q fuel (listed.setIfInBounds r.i true) (a.put r.o.dst u) w' := fun ρ' u w' hs' => by
      refine ih _ ρ' _ w' (by simpa using hsz) (by have := left_set g1; omega) ?_
      rw [Lof_set g1]; exact hs'
    obtain ⟨frw, hu, hw⟩ := hG.want r hr
    have hwant := hw ρ a (hs.slot.on hs.closed hu hl g2)
    unfold wpOp
    rw [hG.at_ r hr]
    simp only [hwant]
    cases hk : r.kd with
    | st b =>
      cases hwt : r.want
      · rw [if_neg (by simp)]
        have hv := hG.skip r hr hwt
        exact go ρ _ w (hs.quiet hG hr ⟨b, hk⟩ g2 (by rw [hv]; exact VR.undef))
      · rw [if_pos rfl]
        obtain ⟨u, e1, e2⟩ := hs.still hG hr hk hwt hl g2
        refine .inl ?_
        rw [Oper.wp, e1, Oper.upon_value]
        exact go ρ u w (hs.quiet hG hr ⟨b, hk⟩ g2 e2)
    | fl j b =>
      obtain ⟨hwt, _⟩ := hG.float r hr j b hk
      rw [if_pos hwt]
      obtain ⟨u, ob, ρ', e1, e2⟩ := hs.float hG hr hk hl g2
      refine .inl ?_
      rw [Oper.wp, e1, Oper.upon_value]
      exact go ρ' u _ e2
    | ef =>
      obtain ⟨J, h2, fr1, e1, e2, e3, e4, e5⟩ := hs.effect hG hr hk hl g2
      cases hwt : r.want
      · rw [if_neg (by simp)]
        obtain ⟨hv, rfl⟩ := e2 hwt
        exact go ρ _ w (e5 ρ _ w (by rw [hv]; exact VR.undef) e4 (ExtN.refl _ _) (Nat.le_refl _))
      · rw [if_pos rfl]
        refine .inl ?_
        exact e3 hwt (Sof J ρ) w ρ a w r.o _ Q rfl (hs.slot.on hs.closed e1 hl g2).op e4 fun ρ' u w' hv k2 he hle2 => go ρ' u w' (e5 ρ' u w' hv k2 he hle2)
end
end
end Go.RE
/- Still operations that do not read the heap yield the same in every heap. -/
namespace Go.RE
open Go.RowKit
noncomputable section
/-- It goes on with one value, or not at all. -/
def Nt {α : Type} (f : (α → Bool) → Bool) : Prop := ∃ o : Option α, ∀ k, f k = (match o with | some v => k v | none => false)
section
variable {α β : Type}
theorem Nt.ret (v : α) : Nt (fun k : α → Bool => k v) := ⟨some v, fun _ => rfl⟩
theorem Nt.no : Nt (fun _ : α → Bool => false) := ⟨none, fun _ => rfl⟩
theorem Nt.bnd {f : (α → Bool) → Bool} {g : α → (β → Bool) → Bool} (h : Nt f) (h' : ∀ v, Nt (g v)) : Nt (fun k => f fun v => g v k) := by
  obtain ⟨o, ho⟩ := h
  cases o with
  | none => exact ⟨none, fun k => ho _⟩
  | some v =>
    obtain ⟨o', ho'⟩ := h' v
    exact ⟨o', fun k => (ho _).trans (ho' k)⟩
theorem Nt.ite {f g : (α → Bool) → Bool} (c : Bool) (h : Nt f) (h' : Nt g) : Nt (fun k => bif c then f k else g k) := by
  cases c
  · exact h'
  · exact h
theorem Nt.opt {γ : Type} (o : Option γ) {f : γ → (α → Bool) → Bool} (h : ∀ v, Nt (f v)) : Nt (fun k => match o with | some v => f v k | none => false) := by
  cases o with
  | none => exact Nt.no
  | some v => exact h v
end
theorem nt_ev (fr : T AV) (x : AX) : Nt (ev fr x) := by
  cases x with
  | c v => exact .ret v
  | t n =>
    refine ⟨fr.get n, fun k => ?_⟩
    show (Option.rec false k (fr.get n) : Bool) = _
    cases fr.get n <;> rfl
theorem nt_evs (fr : T AV) : ∀ xs : List AX, Nt (evs fr xs) := by
  intro xs
  induction xs with
  | nil => exact .ret []
  | cons x xs ih => exact (nt_ev fr x).bnd fun v => ih.bnd fun vs => .ret (v :: vs)
theorem nt_evps (fr : T AV) : ∀ ps : List (Nat × Nat × AX), Nt (evps fr ps) := by
  intro ps
  induction ps with
  | nil => exact .ret []
  | cons p ps ih =>
    obtain ⟨off, n, x⟩ := p
    exact (nt_ev fr x).bnd fun v => ih.bnd fun vs => .ret ((off, n, v) :: vs)
theorem nt_fillA : ∀ (vs : List (Nat × Nat × AV)) (cs : List AV), Nt (fillA cs vs) := by
  intro vs
  induction vs with
  | nil => intro cs; exact .ret cs
  | cons p vs ih =>
    intro cs
    obtain ⟨off, n, v⟩ := p
    exact Nt.ite _ (ih _) .no
theorem nt_asN (v : AV) : Nt (asN v) := by
  cases v <;> try exact .no
  rename_i k n
  cases n
  · exact .ret _
  · exact .no
theorem Nt.asP {β : Type} (v : AV) {f : Nat → Nat → (β → Bool) → Bool} (h : ∀ a b, Nt (f a b)) : Nt (fun k => RE.asP v fun a b => f a b k) := by
  cases v <;> first | exact .no | exact h _ _
theorem Nt.asI {β : Type} (v : AV) {f : IntKind → Int → (β → Bool) → Bool} (h : ∀ a b, Nt (f a b)) : Nt (fun k => RE.asI v fun a b => f a b k) := by
  cases v <;> first | exact .no | exact h _ _
theorem nt_evo (fr : T AV) (x : Option AX) (d : Nat) : Nt (evo fr x d) := by
  cases x with
  | none => exact .ret d
  | some x => exact (nt_ev fr x).bnd fun v => nt_asN v
theorem nt_eqL : ∀ (ks : List IntKind) (us vs : List AV), Nt (eqL ks us vs) := by
  intro ks
  induction ks with
  | nil => intro us vs; cases us <;> cases vs <;> first | exact .ret _ | exact .no
  | cons kd ks ih =>
    intro us vs
    cases us <;> cases vs <;> try exact .no
    rename_i u us v vs
    exact Nt.asI u fun _ _ => Nt.asI v fun _ _ => Nt.ite _ ((ih us vs).bnd fun r => .ret _) .no
theorem nt_binI (op : BinOp) (kd : IntKind) (a b : Int) : Nt (binI op kd a b) := by
  cases op <;> first | exact .ret _ | exact Nt.ite _ .no (.ret _)
theorem nt_binS (op : BinOp) (a b : List Nat) : Nt (binS op a b) := by
  cases op <;> first | exact .ret _ | exact .no | exact Nt.ite _ (.ret _) .no
/-- Whether it reads the heap. -/
def rdsH : SOp → Bool
  | .cvb _ | .ld1 _ | .ldn _ _ | .sla .. | .lenm _ | .lkp .. | .entry _ => true
  | _ => false
theorem sop_free {so : SOp} (h : rdsH so = false) (g g' : Hp) (fr : T AV) : sop g fr so = sop g' fr so := by
  cases so <;> first | rfl | cases h
theorem nt_sop {so : SOp} (hr : rdsH so = false) (h : Hp) (fr : T AV) : Nt (sop h fr so) := by
  cases so <;> try (cases hr; done)
  case mv x => exact nt_ev fr x
  case pick c a b =>
    refine (nt_ev fr c).bnd fun v => ?_
    cases v <;> first | exact .no | exact Nt.ite _ (nt_ev fr a) (nt_ev fr b)
  case bin op x y =>
    refine (nt_ev fr x).bnd fun u => (nt_ev fr y).bnd fun v => ?_
    cases u <;> try exact .no
    · cases v <;> try exact .no
      cases op <;> first | exact nt_binI _ _ _ _ | exact Nt.ite _ (nt_binI _ _ _ _) .no
    · cases v <;> first | exact .no | exact nt_binS _ _ _
  case eqb n x y =>
    refine (nt_ev fr x).bnd fun u => (nt_ev fr y).bnd fun v => ?_
    cases u <;> cases v <;> first | exact .no | exact .ret _
  case cmpA ks n x y =>
    refine (nt_ev fr x).bnd fun u => (nt_ev fr y).bnd fun v => ?_
    cases u <;> cases v <;> first | exact .no | exact (nt_eqL _ _ _).bnd fun r => .ret _
  case nilp n x y =>
    refine (nt_ev fr x).bnd fun u => (nt_ev fr y).bnd fun v => ?_
    cases u <;> cases v <;> first | exact .no | exact .ret _ | exact Nt.ite _ (.ret _) .no
  case nils n x y =>
    refine (nt_ev fr x).bnd fun u => (nt_ev fr y).bnd fun v => ?_
    cases u <;> cases v <;> first | exact .no | exact .ret _
  case nili n x y =>
    refine (nt_ev fr x).bnd fun u => (nt_ev fr y).bnd fun v => ?_
    cases u <;> cases v <;> first | exact .no | exact .ret _
  case un op x =>
    refine (nt_ev fr x).bnd fun u => ?_
    cases op <;> cases u <;> first | exact .no | exact .ret _
  case cvi kd x => exact (nt_ev fr x).bnd fun u => Nt.asI u fun _ _ => .ret _
  case nilc x =>
    refine (nt_ev fr x).bnd fun u => ?_
    cases u <;> try first | exact .no | exact .ret _
    rename_i fn a b
    cases fn <;> first | exact .no | exact .ret _
  case fa off x => exact (nt_ev fr x).bnd fun u => Nt.asP u fun _ _ => .ret _
  case fld1 off x =>
    refine (nt_ev fr x).bnd fun u => ?_
    cases u <;> try exact .no
    rename_i l
    show Nt (fun k => match l[off]? with | some v => k v | none => false)
    cases l[off]? <;> first | exact .no | exact .ret _
  case fldn off n x =>
    refine (nt_ev fr x).bnd fun u => ?_
    cases u <;> first | exact .no | exact .ret _
  case ia z x ix =>
    refine (nt_ev fr x).bnd fun u => (nt_ev fr ix).bnd fun i => (nt_asN i).bnd fun j => ?_
    cases u <;> first | exact .no | exact Nt.ite _ (.ret _) .no
  case iaa n z x ix => exact (nt_ev fr x).bnd fun u => (nt_ev fr ix).bnd fun i => (nt_asN i).bnd fun j => Nt.asP u fun _ _ => Nt.ite _ (.ret _) .no
  case ixs x ix =>
    refine (nt_ev fr x).bnd fun u => (nt_ev fr ix).bnd fun i => (nt_asN i).bnd fun j => ?_
    cases u <;> try exact .no
    rename_i l
    show Nt (fun k => match l[j]? with | some b => k (AV.i IntKind.u8 (Int.ofNat b)) | none => false)
    cases l[j]? <;> first | exact .no | exact .ret _
  case sls x lo hi =>
    refine (nt_ev fr x).bnd fun u => ?_
    cases u <;> try exact .no
    exact (nt_evo fr hi _).bnd fun b => (nt_evo fr lo _).bnd fun a => Nt.ite _ (.ret _) .no
  case slc z x lo hi mx =>
    refine (nt_ev fr x).bnd fun u => ?_
    cases u <;> try exact .no
    · exact (nt_evo fr lo _).bnd fun a => (nt_evo fr hi _).bnd fun b => (nt_evo fr mx _).bnd fun c => Nt.ite _ (.ret _) .no
    · exact Nt.ite _ ((nt_evo fr mx _).bnd fun m => (nt_evo fr hi _).bnd fun b => (nt_evo fr lo _).bnd fun a => Nt.ite _ (.ret _) .no) .no
  case mkif t x => exact (nt_ev fr x).bnd fun u => .ret _
  case mkfn fn a b => exact (nt_evs fr a).bnd fun u => (nt_evs fr b).bnd fun v => .ret _
  case ext x i =>
    refine (nt_ev fr x).bnd fun u => ?_
    cases u <;> try exact .no
    rename_i l
    show Nt (fun k => match l[i]? with | some v => k v | none => false)
    cases l[i]? <;> first | exact .no | exact .ret _
  case build zs ps => exact (nt_evps fr ps).bnd fun vs => (nt_fillA vs zs).bnd fun cs => .ret _
  case len x =>
    refine (nt_ev fr x).bnd fun u => ?_
    cases u <;> first | exact .no | exact .ret _
  case lens x =>
    refine (nt_ev fr x).bnd fun u => ?_
    cases u <;> first | exact .no | exact .ret _
  case mx x y => exact (nt_ev fr x).bnd fun u => (nt_ev fr y).bnd fun v => Nt.asI u fun _ _ => Nt.asI v fun _ _ => .ret _
  case mn x y => exact (nt_ev fr x).bnd fun u => (nt_ev fr y).bnd fun v => Nt.asI u fun _ _ => Nt.asI v fun _ _ => .ret _
  case tas t x =>
    refine (nt_ev fr x).bnd fun u => ?_
    cases u <;> first | exact .no | exact Nt.ite _ (.ret _) .no
/-- Of a still operation that does not read the heap. -/
theorem sop_all {P : Program} {tt : T TypeInfo} {eqs : TypeId → Option (List IntKind)} {op : Op} (hT : TyOk P tt) (hE : EqOk P eqs) {so : SOp} (hc : chkS tt eqs op so = true) (hr : rdsH so = false) {h : Hp} {fr : T AV} {k : AV → Bool} (e : sop h fr so k = true) :
    ∃ v, k v = true ∧ ∀ g, StillS P op g fr v := by
  obtain ⟨o, ho⟩ := nt_sop hr h fr
  rw [ho] at e
  cases o with
  | none => cases e
  | some v =>
    refine ⟨v, e, fun g => ?_⟩
    haveI := fun x : AV => Classical.propDecidable (x = v)
    have : sop g fr so (fun x => decide (x = v)) = true := by
      rw [sop_free hr g h, ho]
      exact decide_eq_true rfl
    obtain ⟨x, h1, h2⟩ := sop_ok hT hE hc this
    have := of_decide_eq_true h1
    subst this
    exact h2
end
end Go.RE
/- Regions that draw their order: the checker. -/
namespace Go.RE
open Go.RowKit
noncomputable section
inductive SK where
  | st (reads : Bool)
  | fl (j : Nat)
  | ef
structure SR where
  i : Nat
  o : Oper
  l : List Nat
  k : SK
  m : Nat
def skOf : Kd → SK
  | .st b => .st b
  | .fl j _ => .fl j
  | .ef => .ef
def SRel (ops : Array Oper) (q : SR) (r : Rec) : Prop := q.i = r.i ∧ q.o = r.o ∧ q.l = r.o.looksAt ops ∧ q.k = skOf r.kd ∧ ∀ d, q.m.testBit d = true → TD ops r.i d
def Rel (ops : Array Oper) (sp : List SR) (pre : List Rec) : Prop := (∀ r ∈ pre, ∃ q ∈ sp, SRel ops q r) ∧ ∀ q ∈ sp, ∃ r ∈ pre, SRel ops q r
def maskOf : List SR → Nat → Nat
  | [], _ => 0
  | q :: l, d => bif Nat.beq q.i d then q.m else maskOf l d
def maskL (sp : List SR) : List Edge → Nat
  | [] => 0
  | e :: es => bif Region.binds .any e then (2 ^ e.on) ||| (maskOf sp e.on ||| maskL sp es) else maskL sp es
def hasN (l : List Nat) (s : Nat) : Bool := memN s l
def chkBase (sp : List SR) (i : Nat) (o : Oper) (l : List Nat) (m : Nat) : Bool :=
  sp.all (fun q => !Nat.beq q.i i) && (o.after.toList.all (fun e => !Region.binds .any e || sp.any (fun q => Nat.beq q.i e.on)) &&
  (sp.all (fun q => match q.o.dst with
    | none => true
    | some s => (!hasN l s || m.testBit q.i) && (match o.dst with
      | some d => !Nat.beq s d
      | none => true)) &&
  sp.all (fun q => match o.dst with
    | none => true
    | some s => !hasN q.l s || m.testBit q.i)))
def isEf : SK → Bool
  | .ef => true
  | _ => false
def isFl (j : Nat) : SK → Bool
  | .fl j' => Nat.beq j' j
  | _ => false
def isRd : SK → Bool
  | .st b => b
  | _ => false
def chkChain (sp : List SR) (m : Nat) : Bool := sp.all fun q => !isEf q.k || m.testBit q.i
section
variable {ops : Array Oper} {sp : List SR} {pre : List Rec}
theorem maskOf_ok (hr : Rel ops sp pre) {d c : Nat} (h : (maskOf sp d).testBit c = true) : TD ops d c := by
  have : ∀ l : List SR, (∀ q ∈ l, ∃ r ∈ pre, SRel ops q r) → (maskOf l d).testBit c = true → TD ops d c := by
    intro l
    induction l with
    | nil => intro _ h; simp [maskOf] at h
    | cons q l ih =>
      intro hl h
      simp only [maskOf] at h
      cases hb : Nat.beq q.i d
      · rw [hb] at h; exact ih (fun q hq => hl q (List.mem_cons_of_mem _ hq)) h
      · rw [hb] at h
        have hd := Nat.eq_of_beq_eq_true hb
        obtain ⟨r, _, h1, _, _, _, h2⟩ := hl q (List.mem_cons_self ..)
        rw [← hd, h1]
        exact h2 c h
  exact this sp hr.2 h
theorem maskL_ok (hr : Rel ops sp pre) {i : Nat} {o : Oper} (ho : ops[i]? = some o) : ∀ (es : List Edge), (∀ e ∈ es, e ∈ o.after) → ∀ c, (maskL sp es).testBit c = true → TD ops i c := by
  intro es
  induction es with
  | nil => intro _ c h; simp [maskL] at h
  | cons e es ih =>
    intro he c h
    simp only [maskL] at h
    cases hb : Region.binds .any e
    · rw [hb] at h; exact ih (fun e h => he e (List.mem_cons_of_mem _ h)) c h
    · rw [hb] at h
      have hd : Dep ops i e.on := ⟨o, e, ho, he e (List.mem_cons_self ..), hb, rfl⟩
      simp only [cond_true, Nat.testBit_or, Bool.or_eq_true] at h
      rcases h with h | h | h
      · have : e.on = c := by
          rw [Nat.testBit_two_pow] at h
          simpa using h
        exact this ▸ .one hd
      · exact .step hd (maskOf_ok hr h)
      · exact ih (fun e h => he e (List.mem_cons_of_mem _ h)) c h
theorem chkBase_ok (hr : Rel ops sp pre) {N : Nat} {fr : T AV} {r : Rec} {l : List Nat} {m : Nat} (ho : ops[r.i]? = some r.o) (hl : l = r.o.looksAt ops) (hm : ∀ c, m.testBit c = true → TD ops r.i c) (hd : dOk N r.o.dst = true)
    (hw : ∀ ρ a, FRon ρ (· ∈ r.o.looksAt ops) fr a → Region.wanted r.o (yielded ops a.tmps) = r.want) (h : chkBase sp r.i r.o l m = true) : Base ops N pre fr r := by
  simp only [chkBase, Bool.and_eq_true, List.all_eq_true] at h
  obtain ⟨h1, h2, h3, h4⟩ := h
  refine ⟨ho, fun q hq e => ?_, fun q hq s hs hs' => ?_, fun q hq s hs hs' => ?_, fun q hq s hs hs' => ?_, hd, fun d hd' => ?_, hw⟩
  · obtain ⟨x, hx, g1, _⟩ := hr.1 q hq
    have := h1 x hx
    rw [g1, e, Nat.beq_refl] at this; cases this
  · obtain ⟨x, hx, g1, g2, _⟩ := hr.1 q hq
    have := h3 x hx
    rw [g2, hs] at this
    simp only [Bool.and_eq_true, Bool.or_eq_true, Bool.not_eq_true'] at this
    rcases this.1 with h | h
    · have : hasN l s = true := memN_iff.2 (hl ▸ hs')
      rw [this] at h; cases h
    · rw [← g1]; exact hm _ h
  · obtain ⟨x, hx, g1, g2, g3, _⟩ := hr.1 q hq
    have := h4 x hx
    rw [hs] at this
    simp only [Bool.or_eq_true, Bool.not_eq_true'] at this
    rcases this with h | h
    · have : hasN x.l s = true := memN_iff.2 (g3 ▸ hs')
      rw [this] at h; cases h
    · rw [← g1]; exact hm _ h
  · obtain ⟨x, hx, g1, g2, _⟩ := hr.1 q hq
    have := h3 x hx
    rw [g2, hs, hs'] at this
    simp only [Bool.and_eq_true, Nat.beq_refl, Bool.not_true] at this
    exact absurd this.2 (by simp)
  · obtain ⟨o, e, g1, g2, g3, rfl⟩ := hd'
    rw [ho] at g1; injection g1 with g1; subst g1
    have := h2 e (by simpa using g2)
    rw [g3] at this
    simp only [Bool.not_true, Bool.false_or, List.any_eq_true] at this
    obtain ⟨x, hx, hb⟩ := this
    obtain ⟨q, hq, g4, _⟩ := hr.2 x hx
    exact ⟨q, hq, by rw [← g4]; exact Nat.eq_of_beq_eq_true hb⟩
theorem chkChain_ok (hr : Rel ops sp pre) {i m : Nat} (hm : ∀ c, m.testBit c = true → TD ops i c) (h : chkChain sp m = true) : ∀ q ∈ pre, q.kd = .ef → TD ops i q.i := by
  intro q hq hk
  obtain ⟨x, hx, g1, _, _, g4, _⟩ := hr.1 q hq
  have := List.all_eq_true.1 h x hx
  rw [g4, hk] at this
  simp only [skOf, isEf, Bool.not_true, Bool.false_or] at this
  rw [← g1]; exact hm _ this
theorem Rel.snoc (hr : Rel ops sp pre) {q : SR} {r : Rec} (h : SRel ops q r) : Rel ops (q :: sp) (pre ++ [r]) := by
  refine ⟨fun x hx => ?_, fun x hx => ?_⟩
  · rcases List.mem_append.1 hx with hx | hx
    · obtain ⟨y, h1, h2⟩ := hr.1 x hx
      exact ⟨y, List.mem_cons_of_mem _ h1, h2⟩
    · obtain rfl := List.mem_singleton.1 hx
      exact ⟨q, List.mem_cons_self .., h⟩
  · rcases List.mem_cons.1 hx with rfl | hx
    · exact ⟨r, List.mem_append_right _ (List.mem_singleton.2 rfl), h⟩
    · obtain ⟨y, h1, h2⟩ := hr.2 x hx
      exact ⟨y, List.mem_append_left _ h1, h2⟩
end
end
end Go.RE
/- Regions that draw their order: out of a checked run. -/
namespace Go.RE
open Go.RowKit
noncomputable section
theorem iEq_ok {a b : Int} (h : iEq a b = true) : a = b := by rw [iEq_eq] at h; simpa using h
theorem lEq_ok {l m : List Nat} (h : lEq l m = true) : l = m := by rw [lEq_eq] at h; simpa using h
theorem fnEq_ok {a b : Fn} (h : fnEq a b = true) : a = b := by
  cases a <;> try (cases h; done)
  cases b <;> try (cases h; done)
  rw [Nat.eq_of_beq_eq_true h]
mutual
theorem aeq_ok : ∀ u v : AV, aeq u v = true → u = v := by
  intro u v h
  cases u <;> cases v <;> simp only [aeq] at h <;> try (cases h; done)
  case b.b x y => simp at h; rw [h]
  case i.i k n j m =>
    rw [Bool.and_eq_true] at h
    rw [kEq_eq h.1, iEq_ok h.2]
  case s.s l m => rw [lEq_ok h]
  case pn.pn => rfl
  case p.p a b c d =>
    rw [Bool.and_eq_true] at h
    rw [Nat.eq_of_beq_eq_true h.1, Nat.eq_of_beq_eq_true h.2]
  case sn.sn => rfl
  case sl.sl a b c d e f a' b' c' d' e' f' =>
    simp only [Bool.and_eq_true, beq_iff_eq] at h
    obtain ⟨⟨⟨⟨⟨h1, h2⟩, h3⟩, h4⟩, h5⟩, h6⟩ := h
    rw [Nat.eq_of_beq_eq_true h1, Nat.eq_of_beq_eq_true h2, Nat.eq_of_beq_eq_true h3, Nat.eq_of_beq_eq_true h4, h5, Nat.eq_of_beq_eq_true h6]
  case mn.mn => rfl
  case m.m a b => rw [Nat.eq_of_beq_eq_true h]
  case f.f fn x y fn' x' y' =>
    simp only [Bool.and_eq_true] at h
    rw [fnEq_ok h.1.1, aeqs_ok x x' h.1.2, aeqs_ok y y' h.2]
  case nf.nf => rfl
  case nif.nif => rfl
  case ag.ag l m => rw [aeqs_ok l m h]
  case tu.tu l m => rw [aeqs_ok l m h]
theorem aeqs_ok : ∀ l m : List AV, aeqs l m = true → l = m
  | [], [], _ => rfl
  | [], _ :: _, h => by simp only [aeqs] at h; cases h
  | _ :: _, [], h => by simp only [aeqs] at h; cases h
  | a :: l, b :: m, h => by
    simp only [aeqs, Bool.and_eq_true] at h
    rw [aeq_ok a b h.1, aeqs_ok l m h.2]
end
def rdA : AOper → Bool
  | .mk _ _ (.s so) => rdsH so
  | _ => false
def plainF : AOper → Bool
  | .mk _ none (.f _) => true
  | _ => false
def chkItems (tt : T TypeInfo) (eqs : TypeId → Option (List IntKind)) (N : Nat) (ops : Array Oper) (nf : Nat) : List DI → List SR → List Nat → Bool
  | [], sp, _ => (List.range ops.size).all fun i => sp.any fun q => Nat.beq q.i i
  | .st i ao :: is, sp, jn => (match ops[i]? with
    | none => false
    | some o => chkOper tt eqs N ops o ao && (chkBase sp i o (o.looksAt ops) (maskL sp o.after.toList) && ((!rdA ao || chkChain sp (maskL sp o.after.toList)) &&
        chkItems tt eqs N ops nf is (⟨i, o, o.looksAt ops, .st (rdA ao), maskL sp o.after.toList⟩ :: sp) jn)))
  | .fl i ao j :: is, sp, jn => (match ops[i]? with
    | none => false
    | some o => chkOper tt eqs N ops o ao && (chkBase sp i o (o.looksAt ops) (maskL sp o.after.toList) && (plainF ao && Nat.blt j nf && (sp.all (fun q => !isFl j q.k) && (!memN j jn &&
        chkItems tt eqs N ops nf is (⟨i, o, o.looksAt ops, .fl j, maskL sp o.after.toList⟩ :: sp) jn)))))
  | .ef i ao use re :: is, sp, jn => (match ops[i]? with
    | none => false
    | some o => chkOper tt eqs N ops o ao && (chkBase sp i o (o.looksAt ops) (maskL sp o.after.toList) && (chkChain sp (maskL sp o.after.toList) &&
        (use.all (fun j => sp.any fun q => isFl j q.k && (maskL sp o.after.toList).testBit q.i) &&
        (sp.all (fun q => !isRd q.k || (maskL sp o.after.toList).testBit q.i || (re.any (fun b => chkOper tt eqs N ops q.o b) && sp.all fun p => match p.o.dst with
          | none => true
          | some s => !hasN q.l s || q.m.testBit p.i)) &&
        chkItems tt eqs N ops nf is (⟨i, o, o.looksAt ops, .ef, maskL sp o.after.toList⟩ :: sp) (use ++ jn))))))
section
variable {P : Program} {tt : T TypeInfo} {eqs : TypeId → Option (List IntKind)} {ck : CK} {mt : MT} {N : Nat} {ops : Array Oper}
theorem recheck_ok (hT : TyOk P tt) (hE : EqOk P eqs) {h : Hp} {fr : T AV} : ∀ {re : List AOper}, recheck h fr re = true → ∀ b ∈ re, ∀ q : Rec, chkOper tt eqs N ops q.o b = true → (∀ s, q.o.dst = some s → fr.get s = some q.v) → Again P ops q h fr := by
  intro re
  induction re with
  | nil => intro _ b hb; cases hb
  | cons x re ih =>
    intro e b hb q hc hv
    obtain ⟨d, g, op⟩ := x
    simp only [recheck, Bool.and_eq_true] at e
    obtain ⟨e, e'⟩ := e
    rcases List.mem_cons.1 hb with rfl | hb
    · simp only [chkOper, Bool.and_eq_true, decide_eq_true_eq] at hc
      obtain ⟨⟨⟨hd, _⟩, hg⟩, ho⟩ := hc
      cases op <;> simp only at e <;> try (cases e; done)
      rename_i so
      rcases wantB_ok hg e with ⟨e, _⟩ | ⟨_, hw⟩
      · left
        obtain ⟨v, h1, h2⟩ := sop_ok hT hE ho e
        cases d with
        | none => cases h1
        | some t =>
          simp only at h1
          rw [hv t hd] at h1
          rw [aeq_ok _ _ h1]; exact h2
      · exact .inr hw
    · exact ih e' b hb q hc hv
theorem noneBut_ok {t : T AO} {base : Nat} {jn : List Nat} : ∀ {n : Nat}, noneBut t base jn n = true → ∀ j, j < n → j ∉ jn → t.get (base + j) = none := by
  intro n
  induction n with
  | zero => intro _ j hj; omega
  | succ n ih =>
    intro h j hj hn
    simp only [noneBut, Bool.and_eq_true] at h
    by_cases he : j = n
    · subst he
      have : memN j jn = false := by
        cases hm : memN j jn
        · rfl
        · exact absurd (memN_iff.1 hm) hn
      rw [this] at h
      cases hg : t.get (base + j) with
      | none => rfl
      | some b => rw [hg] at h; exact absurd h.1 (by simp)
    · exact ih h.2 j (by omega) hn
theorem noneAt_ok {t : T AO} {base : Nat} : ∀ {n : Nat}, noneAt t base n = true → ∀ j, j < n → t.get (base + j) = none := by
  intro n
  induction n with
  | zero => intro _ j hj; omega
  | succ n ih =>
    intro h j hj
    simp only [noneAt, Bool.and_eq_true] at h
    by_cases he : j = n
    · subst he
      cases hg : t.get (base + j) with
      | none => rfl
      | some b => rw [hg] at h; exact absurd h.1 (by simp)
    · exact ih h.2 j (by omega)
end
end
end Go.RE
/- Regions that draw their order: a checked run is right. -/
namespace Go.RE
open Go.RowKit
noncomputable section
section
variable {P : Program} {tt : T TypeInfo} {eqs : TypeId → Option (List IntKind)} {ck : CK} {mt : MT} {N : Nat} {ops : Array Oper}
theorem drun_tr (hT : TyOk P tt) (hE : EqOk P eqs) (hC : CkOk P ck) (hM : MtOk P mt) {base nf : Nat} {fr0 : T AV} : ∀ {items : List DI} {sp : List SR} {pre : List Rec} {jn : List Nat} {ps : Pend} {fr : T AV} {h : Hp} {k : T AV → Hp → Bool},
    Rel ops sp pre → FrIs fr0 pre fr → chkItems tt eqs N ops nf items sp jn = true → drun ck mt base nf items jn ps fr h k = true →
    ∃ rest fr' h', k fr' h' = true ∧ Tr P ops N base nf pre jn ps fr h rest fr' h' ∧ ∀ i, i < ops.size → ∃ r ∈ pre ++ rest, r.i = i := by
  intro items
  induction items with
  | nil =>
    intro sp pre jn ps fr h k hr hf hc e
    refine ⟨[], fr, _, e, .nil, fun i hi => ?_⟩
    have := List.all_eq_true.1 hc i (List.mem_range.2 hi)
    simp only [List.any_eq_true] at this
    obtain ⟨q, hq, hb⟩ := this
    obtain ⟨r, h1, h2, _⟩ := hr.2 q hq
    exact ⟨r, by simpa using h1, by rw [← h2]; exact Nat.eq_of_beq_eq_true hb⟩
  | cons it items ih =>
    intro sp pre jn ps fr h k hr hf hc e
    have cov : ∀ {r : Rec} {rest : List Rec}, (∀ i, i < ops.size → ∃ q ∈ (pre ++ [r]) ++ rest, q.i = i) → ∀ i, i < ops.size → ∃ q ∈ pre ++ r :: rest, q.i = i := fun hx i hi => by
      obtain ⟨q, h1, h2⟩ := hx i hi
      exact ⟨q, by simpa using h1, h2⟩
    cases it with
    | st i ao =>
      simp only [chkItems] at hc
      cases ho : ops[i]? with
      | none => rw [ho] at hc; cases hc
      | some o =>
        rw [ho] at hc
        simp only [Bool.and_eq_true] at hc
        obtain ⟨c1, c2, c3, c4⟩ := hc
        obtain ⟨d, g, op⟩ := ao
        simp only [chkOper, Bool.and_eq_true, decide_eq_true_eq] at c1
        obtain ⟨⟨⟨rfl, hd⟩, hg⟩, hop⟩ := c1
        simp only [drun] at e
        cases op <;> simp only at e <;> try (cases e; done)
        rename_i so
        have hm : ∀ c, (maskL sp o.after.toList).testBit c = true → TD ops i c := maskL_ok hr ho _ fun e he => by simpa using he
        have fin : ∀ (v : AV) (b : Bool), (∀ ρ a, FRon ρ (· ∈ o.looksAt ops) fr a → Region.wanted o (yielded ops a.tmps) = b) → (b = false → v = .tu []) → (b = true → StillS P o.op h fr v) → (rdsH so = false → b = true → ∀ g, StillS P o.op g fr v) →
            drun ck mt base nf items jn ps (putD fr o.dst v) h k = true → ∃ rest fr' h', k fr' h' = true ∧ Tr P ops N base nf pre jn ps fr h rest fr' h' ∧ ∀ i, i < ops.size → ∃ r ∈ pre ++ rest, r.i = i := by
          intro v b hw h0 h1 h2 e
          have hb : Base ops N pre fr ⟨i, o, v, b, .st (rdsH so)⟩ := chkBase_ok (r := ⟨i, o, v, b, .st (rdsH so)⟩) hr ho rfl hm hd hw c2
          obtain ⟨rest, fr', h', e1, e2, e3⟩ := ih (hr.snoc (r := ⟨i, o, v, b, .st (rdsH so)⟩) ⟨rfl, rfl, rfl, rfl, hm⟩) (hf.snoc hb.c3) c4 e
          refine ⟨_, fr', h', e1, Tr.st hb rfl h0 h1 h2 (fun hrd => ?_) e2, cov e3⟩
          refine chkChain_ok hr hm ?_
          simp only [rdA, hrd, Bool.not_true, Bool.false_or] at c3
          exact c3
        rcases wantB_ok hg e with ⟨e, hw⟩ | ⟨e, hw⟩
        · cases hrd : rdsH so
          · obtain ⟨v, h1, h2⟩ := sop_all hT hE hop hrd e
            exact fin v true hw (fun h => by cases h) (fun _ => h2 h) (fun _ _ => h2) h1
          · obtain ⟨v, h1, h2⟩ := sop_ok hT hE hop e
            exact fin v true hw (fun h => by cases h) (fun _ => h2) (fun h => by rw [hrd] at h; cases h) h1
        · exact fin (.tu []) false hw (fun _ => rfl) (fun h => by cases h) (fun _ h => by cases h) e
    | fl i ao j =>
      simp only [chkItems] at hc
      cases ho : ops[i]? with
      | none => rw [ho] at hc; cases hc
      | some o =>
        rw [ho] at hc
        simp only [Bool.and_eq_true] at hc
        obtain ⟨c1, c2, ⟨c3, c4⟩, c5, c6, c7⟩ := hc
        obtain ⟨d, g, op⟩ := ao
        simp only [chkOper, Bool.and_eq_true, decide_eq_true_eq] at c1
        obtain ⟨⟨⟨rfl, hd⟩, hg⟩, hop⟩ := c1
        simp only [drun] at e
        cases op <;> simp only at e <;> try (cases e; done)
        rename_i fo
        cases g with
        | some p => cases e
        | none =>
          simp only at e
          have hm : ∀ c, (maskL sp o.after.toList).testBit c = true → TD ops i c := maskL_ok hr ho _ fun e he => by simpa using he
          obtain ⟨v, a, e, hl, hf1⟩ := fop_ok hT hop e
          have hw : ∀ ρ a, FRon ρ (· ∈ o.looksAt ops) fr a → Region.wanted o (yielded ops a.tmps) = true := fun ρ a _ => by
            have hgn : o.guard = none := by
              cases hgd : o.guard with
              | none => rfl
              | some p => rw [hgd] at hg; cases hg
            simp [Region.wanted, hgn]
          have hb : Base ops N pre fr ⟨i, o, v, true, .fl j a⟩ := chkBase_ok (r := ⟨i, o, v, true, .fl j a⟩) hr ho rfl hm hd hw c2
          obtain ⟨rest, fr', h', e1, e2, e3⟩ := ih (hr.snoc (r := ⟨i, o, v, true, .fl j a⟩) ⟨rfl, rfl, rfl, rfl, hm⟩) (hf.snoc hb.c3) c7 e
          refine ⟨_, fr', h', e1, Tr.fl hb rfl rfl (by simpa [Nat.blt_eq] using c4) hl hf1 (fun q hq j' a' hk he => ?_) (fun hj => ?_) e2, cov e3⟩
          · obtain ⟨x, hx, _, _, _, g4, _⟩ := hr.1 q hq
            have := List.all_eq_true.1 c5 x hx
            rw [g4, hk, he] at this
            simp [skOf, isFl] at this
          · rw [memN_iff.2 hj] at c6; cases c6
    | ef i ao use re =>
      simp only [chkItems] at hc
      cases ho : ops[i]? with
      | none => rw [ho] at hc; cases hc
      | some o =>
        rw [ho] at hc
        simp only [Bool.and_eq_true] at hc
        obtain ⟨c1, c2, c3, c4, c5, c6⟩ := hc
        obtain ⟨d, g, op⟩ := ao
        simp only [chkOper, Bool.and_eq_true, decide_eq_true_eq] at c1
        obtain ⟨⟨⟨rfl, hd⟩, hg⟩, hop⟩ := c1
        simp only [drun, efOp] at e
        have hm : ∀ c, (maskL sp o.after.toList).testBit c = true → TD ops i c := maskL_ok hr ho _ fun e he => by simpa using he
        have fin : ∀ (v : AV) (b : Bool) (h2 : Hp), (∀ ρ a, FRon ρ (· ∈ o.looksAt ops) fr a → Region.wanted o (yielded ops a.tmps) = b) → (b = false → v = .tu [] ∧ h2 = ⟨joinF h.t use ps, h.n⟩) → (b = true → OpS P o.op ⟨joinF h.t use ps, h.n⟩ fr v h2) →
            (recheck h2 fr re && (noneBut h2.t base (use ++ jn) nf && drun ck mt base nf items (use ++ jn) (leftF use ps) (putD fr o.dst v) h2 k)) = true → ∃ rest fr' h', k fr' h' = true ∧ Tr P ops N base nf pre jn ps fr h rest fr' h' ∧ ∀ i, i < ops.size → ∃ r ∈ pre ++ rest, r.i = i := by
          intro v b h2 hw h0 h1 e
          simp only [Bool.and_eq_true] at e
          obtain ⟨er, en, e⟩ := e
          have hb : Base ops N pre fr ⟨i, o, v, b, .ef⟩ := chkBase_ok (r := ⟨i, o, v, b, .ef⟩) hr ho rfl hm hd hw c2
          obtain ⟨rest, fr', h', e1, e2, e3⟩ := ih (hr.snoc (r := ⟨i, o, v, b, .ef⟩) ⟨rfl, rfl, rfl, rfl, hm⟩) (hf.snoc hb.c3) c6 e
          refine ⟨_, fr', h', e1, Tr.ef hb rfl (chkChain_ok hr hm c3) (fun j hj => ?_) h0 h1 (noneBut_ok en) (fun q hq hk hqw hnt => ?_) e2, cov e3⟩
          · have := List.all_eq_true.1 c4 j hj
            simp only [List.any_eq_true, Bool.and_eq_true] at this
            obtain ⟨x, hx, hfl, hbit⟩ := this
            obtain ⟨q, hq, g1, _, _, g4, _⟩ := hr.2 x hx
            rw [g4] at hfl
            cases hk : q.kd with
            | st b => rw [hk] at hfl; cases hfl
            | ef => rw [hk] at hfl; cases hfl
            | fl j' a =>
              rw [hk] at hfl
              have : j' = j := Nat.eq_of_beq_eq_true hfl
              subst this
              exact ⟨q, hq, a, hk, by rw [← g1]; exact hm _ hbit⟩
          · obtain ⟨x, hx, g1, g2, g3, g4, g5⟩ := hr.1 q hq
            have := List.all_eq_true.1 c5 x hx
            rw [g4, hk] at this
            simp only [skOf, isRd, Bool.not_true, Bool.false_or, Bool.or_eq_true, Bool.and_eq_true, List.any_eq_true] at this
            rcases this with this | ⟨⟨y, hy, hcy⟩, hall⟩
            · exact absurd (by rw [← g1]; exact hm _ this) hnt
            · rw [g2] at hcy
              refine ⟨recheck_ok hT hE er y hy q hcy fun s hs => (hf s).1 q hq hs, fun p hp s hs hs' => ?_⟩
              obtain ⟨z, hz, z1, z2, _⟩ := hr.1 p hp
              have := List.all_eq_true.1 hall z hz
              rw [z2, hs] at this
              simp only [Bool.or_eq_true, Bool.not_eq_true'] at this
              rcases this with h | h
              · have : hasN x.l s = true := memN_iff.2 (g3 ▸ hs')
                rw [this] at h; cases h
              · rw [← z1]; exact g5 _ h
        rcases wantB_ok hg e with ⟨e, hw⟩ | ⟨e, hw⟩
        · obtain ⟨v, h2, e, h1⟩ := doOp_ok hT hE hC hM hop e
          exact fin v true h2 hw (fun h => by cases h) (fun _ => h1) e
        · exact fin (.tu []) false _ hw (fun _ => ⟨rfl, rfl⟩) (fun h => by cases h) e
def chkD (tt : T TypeInfo) (eqs : TypeId → Option (List IntKind)) : CkD := fun N ops nf items => chkItems tt eqs N ops nf items [] []
theorem d_ok (hT : TyOk P tt) (hE : EqOk P eqs) (hM : MtOk P mt) (hm : P.follows .mixedOrders = true) : DOk P mt (chkD tt eqs) := by
  intro ck N ops nf items fr h k hC hc hn e
  obtain ⟨all, fr', h', e1, t, cov⟩ := drun_tr hT hE hC hM (sp := []) (pre := []) ⟨(fun r hr => by cases hr), fun q hq => by cases hq⟩ (FrIs.nil fr) hc e
  refine ⟨fr', h', e1, fun id S w0 ρ a w Q hF hI hq => wp_region_any hm ?_⟩
  have hG := t.glob
  refine game (S := S) (w0 := w0) (ρ0 := ρ) hG (by simpa using cov) (fun ρ' a' w' g1 g2 g3 g4 => hq ρ' a' w' g1 g2 g3 g4) ops.size _ ρ a _ (by simp) ?_ ?_
  · unfold left
    refine Nat.le_trans List.countP_le_length ?_
    simp
  · have hL : ∀ i, ¬ Lof (Array.replicate ops.size false) i := fun i hi => by
      unfold Lof at hi
      rw [Array.getElem?_replicate] at hi
      split at hi <;> cases hi
    have hI' : Inv S w0 h ρ { w with drawn := w.drawn + 1 } := hI.drawn _
    refine ⟨fun i d hi => absurd hi (hL i), hF.defers, hF.size, fun s v hv => ?_, ExtN.refl _ _, fun q hq j b hk hl => hI.fresh0 (Nat.le_add_right _ _),
      [], all, [], [], fr, ⟨h.t, h.n + nf⟩, ⟨h.t, h.n + nf⟩, t, rfl, FrIs.nil fr, ⟨(fun q hq => by cases hq), fun p hp => by cases hp⟩, (fun q hq => by cases hq), fun q hq hk => hL q.i, (fun q hq j b hk hj => by cases hj), (fun r hr => by cases hr), fun j hj _ => noneAt_ok hn j hj, Nat.le_refl _,
      ⟨hI'.chg, fun id q hq => Nat.lt_of_lt_of_le (hI'.dom id q hq) (Nat.le_add_right _ _), hI'.obj, hI'.inj⟩, rfl, fun id b hb => hb, fun q hq j b hk hl => absurd hl (hL q.i)⟩
    rcases hv with ⟨q, _, hl, _⟩ | ⟨_, hv⟩
    · exact absurd hl (hL q.i)
    · exact hF.slot s v hv
end
end
end Go.RE
/- A program's tables. -/
namespace Go.RE
open Go.RowKit
noncomputable section
/-- Every entry of a tree meets p. -/
def T.All {α : Type} (p : Nat → α → Prop) (t : T α) : Prop := ∀ i a, t.get i = some a → p i a
section
variable {α : Type} {p : Nat → α → Prop}
theorem T.All.e : T.All p .e := fun i a h => by cases h
theorem T.All.node {v : Option α} {l r : T α} (h0 : ∀ a, v = some a → p 0 a) (hl : T.All (fun i a => p (2 * i + 1) a) l) (hr : T.All (fun i a => p (2 * i + 2) a) r) : T.All p (.n v l r) := by
  intro i a h
  cases i with
  | zero => exact h0 a h
  | succ j =>
    rw [T.get_s] at h
    split at h
    · have e := hl _ a h
      dsimp only at e
      rwa [show 2 * (j / 2) + 1 = j + 1 by omega] at e
    · have e := hr _ a h
      dsimp only at e
      rwa [show 2 * (j / 2) + 2 = j + 1 by omega] at e
theorem T.All.some {v : α} {l r : T α} (h0 : p 0 v) (hl : T.All (fun i a => p (2 * i + 1) a) l) (hr : T.All (fun i a => p (2 * i + 2) a) r) : T.All p (.n (some v) l r) :=
  .node (fun a h => by injection h with h; exact h ▸ h0) hl hr
theorem T.All.none {l r : T α} (hl : T.All (fun i a => p (2 * i + 1) a) l) (hr : T.All (fun i a => p (2 * i + 2) a) r) : T.All p (.n none l r) :=
  .node (fun a h => by cases h) hl hr
end
theorem TyOk.of {P : Program} {tt : T TypeInfo} (h : T.All (fun i a => P.types[i]? = some a) tt) : TyOk P tt := fun t i hg => by
  have e := h t i hg
  unfold Tables.info?
  rw [if_pos (Array.getElem?_eq_some_iff.1 e).1]
  exact e
def chkFn (tt : T TypeInfo) (eqs : TypeId → Option (List IntKind)) (fn : Func) : AFn → Bool
  | .code n c res => (match fn.body with
    | some c' => !(fn.name == "runtime.NumGoroutine") && (decide (fn.ntmps = n) && (chkC tt eqs (chkD tt eqs) n c' c && chkRes tt fn.results.toList res))
    | none => false)
  | _ => false
theorem FnOk.of {P : Program} {tt : T TypeInfo} {eqs : TypeId → Option (List IntKind)} {f : FuncId} {fn : Func} {a : AFn} (hf : P.funcs[f]? = some fn) (h : chkFn tt eqs fn a = true) : FnOk P tt eqs (chkD tt eqs) f a := by
  cases a with
  | code n c res =>
    simp only [chkFn] at h
    split at h
    · rename_i c' hb
      simp only [Bool.and_eq_true, Bool.not_eq_true', decide_eq_true_eq] at h
      exact ⟨fn, c', hf, hb, h.1, h.2.1, h.2.2.1, h.2.2.2⟩
    · cases h
  | sum g => cases h
  | ext g => cases h
end
end Go.RE
/- Library functions that are told, not walked. -/
namespace Go.RE
open Go.RowKit
noncomputable section
section
variable {P : Program} {f : FuncId} {vs : List AV} {h : Hp} {v : AV}
theorem FnS.value (k : ∀ (ρ : M) (us : Array Value) (w : World), VRs ρ vs us.toList → ∃ v', VR ρ v v' ∧ (callFunc f us).run P w = .ok (.value v') w) : FnS P f vs h v h := by
  intro S w0 ρ a w us o next Q hV hI hn
  obtain ⟨v', h1, h2⟩ := k ρ us w hV
  rw [h2, Oper.upon_value]
  exact hn ρ v' w h1 hI (ExtN.refl _ _) (Nat.le_refl _)
theorem Inv.lower {S : Nat → Prop} {w0 w w' : World} {ρ : M} (k : Inv S w0 h ρ w) (b : Below w.heap.size w w') : Inv S w0 h ρ w' := by
  refine ⟨k.chg.trans (Chg.of_below (S := S) b) (fun i _ hi => hi), k.dom, fun id a hg hl => ?_, k.inj⟩
  obtain ⟨q, h1, h2, o, h3, h4⟩ := k.obj id a hg hl
  exact ⟨q, h1, h2, o, (b.block _ (Array.getElem?_eq_some_iff.1 h3).1).trans h3, h4⟩
theorem FnS.calls (k : ∀ (S : Nat → Prop) (w0 : World) (ρ : M) (us : Array Value) (w : World), VRs ρ vs us.toList → Inv S w0 h ρ w →
    (callFunc f us).run P w = .ok (.enter f us) w ∧ Calls P f us w fun e w' => ∃ v', e = .returned v' ∧ VR ρ v v' ∧ Below w.heap.size w w') : FnS P f vs h v h := by
  intro S w0 ρ a w us o next Q hV hI hn
  obtain ⟨h1, h2⟩ := k S w0 ρ us w hV hI
  rw [h1, Oper.upon_enter]
  refine h2.mono ?_
  rintro e w' ⟨v', rfl, h3, h4⟩
  exact hn ρ v' w' h3 (hI.lower h4) (ExtN.refl _ _) (Nat.le_refl _)
end
/-! ### numbers -/
def add64 : List AV → Option AV
  | [.i _ (.ofNat x), .i _ (.ofNat y), .i _ (.ofNat c)] => bif Nat.ble c 1 then some (.tu [.i .u64 (.ofNat ((x + y + c) % 18446744073709551616)), .i .u64 (.ofNat ((x + y + c) / 18446744073709551616))]) else none
  | _ => none
def sub64 : List AV → Option AV
  | [.i _ (.ofNat x), .i _ (.ofNat y), .i _ (.ofNat c)] => bif Nat.ble c 1 then some (.tu [.i .u64 (.ofNat ((x + 18446744073709551616 - y - c) % 18446744073709551616)), .i .u64 (.ofNat (bif Nat.blt x (y + c) then 1 else 0))]) else none
  | _ => none
def idx (l : List Nat) (c : Nat) (i : Nat) : Int := match l with
  | [] => -1
  | b :: l => bif Nat.beq b c then .ofNat i else idx l c (i + 1)
def indexByte : List AV → Option AV
  | [.s l, .i .u8 (.ofNat c)] => bif Nat.blt c 256 then some (.i .i64 (idx l c 0)) else none
  | _ => none
def cnt (l : List Nat) (c : Nat) : Nat := match l with
  | [] => 0
  | b :: l => bif Nat.beq b c then cnt l c + 1 else cnt l c
def countByte : List AV → Option AV
  | [.s l, .i .u8 (.ofNat c)] => bif Nat.blt c 256 then some (.i .i64 (.ofNat (cnt l c))) else none
  | _ => none
def addE : Array Value → Sem Value := fun args => do
  let (x, y, c) ← Extern.MathBitsCarry.three "Add64" args
  pure (Extern.MathBitsCarry.pair ((x + y + c) % Extern.MathBitsCarry.m64) ((x + y + c) / Extern.MathBitsCarry.m64))
def subE : Array Value → Sem Value := fun args => do
  let (x, y, b) ← Extern.MathBitsCarry.three "Sub64" args
  pure (Extern.MathBitsCarry.pair ((x + Extern.MathBitsCarry.m64 - y - b) % Extern.MathBitsCarry.m64) (if x < y + b then 1 else 0))
theorem three_run {P : Program} (s : String) (k1 k2 k3 : IntKind) (x y c : Nat) (hc : c ≤ 1) (w : World) :
    (Extern.MathBitsCarry.three s #[.int k1 (.ofNat x), .int k2 (.ofNat y), .int k3 (.ofNat c)]).run P w = .ok (x, y, c) w := by
  have : c = 0 ∨ c = 1 := by omega
  rcases this with rfl | rfl <;> rfl
theorem add64_run {P : Program} (k1 k2 k3 : IntKind) (x y c : Nat) (hc : c ≤ 1) (w : World) :
    (addE #[.int k1 (.ofNat x), .int k2 (.ofNat y), .int k3 (.ofNat c)]).run P w = .ok (.tuple #[.int .u64 (.ofNat ((x + y + c) % 18446744073709551616)), .int .u64 (.ofNat ((x + y + c) / 18446744073709551616))]) w := by
  unfold addE
  rw [Sem.run_bind, three_run _ _ _ _ _ _ _ hc]
  rfl
theorem sub64_run {P : Program} (k1 k2 k3 : IntKind) (x y c : Nat) (hc : c ≤ 1) (w : World) :
    (subE #[.int k1 (.ofNat x), .int k2 (.ofNat y), .int k3 (.ofNat c)]).run P w = .ok (.tuple #[.int .u64 (.ofNat ((x + 18446744073709551616 - y - c) % 18446744073709551616)), .int .u64 (.ofNat (bif Nat.blt x (y + c) then 1 else 0))]) w := by
  unfold subE
  rw [Sem.run_bind, three_run _ _ _ _ _ _ _ hc]
  have : (if x < y + c then 1 else 0) = (bif Nat.blt x (y + c) then 1 else 0) := by
    by_cases hx : x < y + c
    · rw [if_pos hx, show Nat.blt x (y + c) = true by simpa [Nat.blt_eq] using hx]; rfl
    · rw [if_neg hx, show Nat.blt x (y + c) = false by
        cases hb : Nat.blt x (y + c)
        · rfl
        · exact absurd (by simpa [Nat.blt_eq] using hb) hx]; rfl
  show Result.ok (Value.tuple #[.int .u64 (Int.ofNat _), .int .u64 (Int.ofNat (if x < y + c then 1 else 0))]) w = _
  rw [this]
  rfl
theorem run_value {P : Program} {f : FuncId} {fn : Func} {e : Array Value → Sem Value} (hf : P.funcs[f]? = some fn) (hname : (fn.name == "runtime.NumGoroutine") = false) (hb : fn.body.isNone = true)
    (hn : Extern.findNext fn = none) (he : Extern.find fn = some e) {args : Array Value} {w : World} {v : Value} (h : (e args).run P w = .ok v w) : (callFunc f args).run P w = .ok (.value v) w := by
  rw [run_callFunc_extern hf hname hb hn he, h]; rfl
section
variable {P : Program} {tt : T TypeInfo} {eqs : TypeId → Option (List IntKind)} {chkD : CkD} {f : FuncId} {fn : Func}
theorem add64_ok (hf : P.funcs[f]? = some fn) (hname : (fn.name == "runtime.NumGoroutine") = false) (hb : fn.body.isNone = true) (hn : Extern.findNext fn = none) (he : Extern.find fn = some addE) : FnOk P tt eqs chkD f (.ext add64) := by
  intro vs v hv h
  unfold add64 at hv
  split at hv
  · rename_i k1 x k2 y k3 c
    cases hc : Nat.ble c 1
    · rw [hc] at hv; cases hv
    · rw [hc] at hv
      injection hv with hv
      subst hv
      refine FnS.value fun ρ us w hV => ?_
      obtain ⟨a, us1, e1, h1, hV⟩ := hV.inv_cons
      obtain ⟨b, us2, rfl, h2, hV⟩ := hV.inv_cons
      obtain ⟨d, us3, rfl, h3, hV⟩ := hV.inv_cons
      obtain rfl := hV.inv_nil
      obtain rfl := h1.inv_i
      obtain rfl := h2.inv_i
      obtain rfl := h3.inv_i
      have : us = #[.int k1 (.ofNat x), .int k2 (.ofNat y), .int k3 (.ofNat c)] := by
        rw [← Array.toList_inj, e1]
      subst this
      exact ⟨_, VRs.tu (.cons (.i _ _) (.cons (.i _ _) .nil)), run_value hf hname hb hn he (add64_run _ _ _ _ _ _ (Nat.le_of_ble_eq_true hc) w)⟩
  · cases hv
theorem sub64_ok (hf : P.funcs[f]? = some fn) (hname : (fn.name == "runtime.NumGoroutine") = false) (hb : fn.body.isNone = true) (hn : Extern.findNext fn = none) (he : Extern.find fn = some subE) : FnOk P tt eqs chkD f (.ext sub64) := by
  intro vs v hv h
  unfold sub64 at hv
  split at hv
  · rename_i k1 x k2 y k3 c
    cases hc : Nat.ble c 1
    · rw [hc] at hv; cases hv
    · rw [hc] at hv
      injection hv with hv
      subst hv
      refine FnS.value fun ρ us w hV => ?_
      obtain ⟨a, us1, e1, h1, hV⟩ := hV.inv_cons
      obtain ⟨b, us2, rfl, h2, hV⟩ := hV.inv_cons
      obtain ⟨d, us3, rfl, h3, hV⟩ := hV.inv_cons
      obtain rfl := hV.inv_nil
      obtain rfl := h1.inv_i
      obtain rfl := h2.inv_i
      obtain rfl := h3.inv_i
      have : us = #[.int k1 (.ofNat x), .int k2 (.ofNat y), .int k3 (.ofNat c)] := by
        rw [← Array.toList_inj, e1]
      subst this
      exact ⟨_, VRs.tu (.cons (.i _ _) (.cons (.i _ _) .nil)), run_value hf hname hb hn he (sub64_run _ _ _ _ _ _ (Nat.le_of_ble_eq_true hc) w)⟩
  · cases hv
end
/-! ### bytes -/
theorem byte_eq {b : UInt8} {c : Nat} (hc : c < 256) : (b == (Int.ofNat c).toNat.toUInt8) = Nat.beq b.toNat c := by
  have e : ((Int.ofNat c).toNat.toUInt8).toNat = c := by simp; omega
  cases hb : Nat.beq b.toNat c
  · cases h : (b == (Int.ofNat c).toNat.toUInt8)
    · rfl
    · rw [beq_iff_eq] at h
      subst h
      rw [e] at hb
      simp at hb
  · have := Nat.eq_of_beq_eq_true hb
    rw [beq_iff_eq, ← UInt8.toNat_inj, e, this]
theorem cnt_fold (l : List UInt8) {c : Nat} (hc : c < 256) (n : Int) : l.foldl (fun n x => if x == (Int.ofNat c).toNat.toUInt8 then n + 1 else n) n = n + cnt (l.map UInt8.toNat) c := by
  induction l generalizing n with
  | nil => simp [cnt]
  | cons b l ih =>
    rw [List.foldl_cons, ih, byte_eq hc]
    simp only [List.map_cons, cnt]
    cases Nat.beq b.toNat c <;> simp <;> omega
theorem idx_range {c : Nat} (hc : c < 256) (g : Nat → UInt8) : ∀ (l : List UInt8) (k : Nat), (∀ j (h : j < l.length), g (k + j) = l[j]) →
    (match (List.range' k l.length).find? (fun i => g i == (Int.ofNat c).toNat.toUInt8) with | some i => goInt i | none => goInt (-1)) = .int .i64 (idx (l.map UInt8.toNat) c k) := by
  intro l
  induction l with
  | nil => intro k _; rfl
  | cons b l ih =>
    intro k hg
    have h0 : g k = b := hg 0 (by simp)
    have ih := ih (k + 1) fun j h => by
      have := hg (j + 1) (by simpa using h)
      rw [show k + 1 + j = k + (j + 1) by omega, this]; rfl
    simp only [List.length_cons, List.range'_succ, List.find?_cons, List.map_cons, idx]
    rw [h0, byte_eq hc]
    cases hb : Nat.beq b.toNat c
    · simpa using ih
    · rfl
theorem indexByte_run {P : Program} (s : ByteArray) (c : Nat) (hc : c < 256) (w : World) :
    (Extern.BytealgIndexByte.indexByte #[.string s, .int .u8 (.ofNat c)]).run P w = .ok (.int .i64 (idx (s.data.toList.map UInt8.toNat) c 0)) w := by
  have e := idx_range hc (fun i => s[i]!) s.data.toList 0 fun j h => by
    have h2 : j < s.size := by simpa using h
    simp only [Nat.zero_add]
    rw [getElem!_pos s j h2]
    rfl
  have hs : s.data.toList.length = s.size := by simp
  rw [hs, ← List.range_eq_range'] at e
  change Sem.run P (do
    let b ← Extern.Bytes.bytesOf (.string s)
    let c' ← Extern.Bytes.asByte (.int .u8 (.ofNat c))
    match (List.range b.size).find? fun i => b[i]! == c' with
    | some i => pure (goInt i)
    | none => pure (goInt (-1))) w = _
  simp only [Extern.Bytes.bytesOf, Extern.Bytes.asByte, Sem.run_bind, Sem.run_pure, Result.andThen]
  rw [← e]
  split <;> rfl
theorem countByte_run {P : Program} (s : ByteArray) (c : Nat) (hc : c < 256) (w : World) :
    (Extern.BytealgCount.count #[.string s, .int .u8 (.ofNat c)]).run P w = .ok (.int .i64 (.ofNat (cnt (s.data.toList.map UInt8.toNat) c))) w := by
  change Sem.run P (do
    let b ← Extern.Bytes.bytesOf (.string s)
    let c' ← Extern.Bytes.asByte (.int .u8 (.ofNat c))
    pure (goInt (b.foldl (fun n x => if x == c' then n + 1 else n) (0 : Nat)))) w = _
  simp only [Extern.Bytes.bytesOf, Extern.Bytes.asByte, Sem.run_bind, Sem.run_pure, Result.andThen]
  have e := cnt_fold s.data.toList hc 0
  rw [Int.zero_add, ← Lib.foldl_data] at e
  exact congrArg (fun x => Result.ok (Value.int .i64 x) w) e
section
variable {P : Program} {tt : T TypeInfo} {eqs : TypeId → Option (List IntKind)} {chkD : CkD} {f : FuncId} {fn : Func}
theorem indexByte_ok (hf : P.funcs[f]? = some fn) (hname : (fn.name == "runtime.NumGoroutine") = false) (hb : fn.body.isNone = true) (hn : Extern.findNext fn = none) (he : Extern.find fn = some Extern.BytealgIndexByte.indexByte) : FnOk P tt eqs chkD f (.ext indexByte) := by
  intro vs v hv h
  unfold indexByte at hv
  split at hv
  · rename_i l c
    cases hc : Nat.blt c 256
    · rw [hc] at hv; cases hv
    · rw [hc] at hv
      injection hv with hv
      subst hv
      refine FnS.value fun ρ us w hV => ?_
      obtain ⟨a, us1, e1, h1, hV⟩ := hV.inv_cons
      obtain ⟨b, us2, rfl, h2, hV⟩ := hV.inv_cons
      obtain rfl := hV.inv_nil
      obtain ⟨s, rfl, rfl⟩ := h1.inv_s
      obtain rfl := h2.inv_i
      have : us = #[.string s, .int .u8 (.ofNat c)] := by
        rw [← Array.toList_inj, e1]
      subst this
      exact ⟨_, .i _ _, run_value hf hname hb hn he (indexByte_run s c (by simpa [Nat.blt_eq] using hc) w)⟩
  · cases hv
theorem countByte_ok (hf : P.funcs[f]? = some fn) (hname : (fn.name == "runtime.NumGoroutine") = false) (hb : fn.body.isNone = true) (hn : Extern.findNext fn = none) (he : Extern.find fn = some Extern.BytealgCount.count) : FnOk P tt eqs chkD f (.ext countByte) := by
  intro vs v hv h
  unfold countByte at hv
  split at hv
  · rename_i l c
    cases hc : Nat.blt c 256
    · rw [hc] at hv; cases hv
    · rw [hc] at hv
      injection hv with hv
      subst hv
      refine FnS.value fun ρ us w hV => ?_
      obtain ⟨a, us1, e1, h1, hV⟩ := hV.inv_cons
      obtain ⟨b, us2, rfl, h2, hV⟩ := hV.inv_cons
      obtain rfl := hV.inv_nil
      obtain ⟨s, rfl, rfl⟩ := h1.inv_s
      obtain rfl := h2.inv_i
      have : us = #[.string s, .int .u8 (.ofNat c)] := by
        rw [← Array.toList_inj, e1]
      subst this
      exact ⟨_, .i _ _, run_value hf hname hb hn he (countByte_run s c (by simpa [Nat.blt_eq] using hc) w)⟩
  · cases hv
end
end
end Go.RE
/- strings.Join, told. -/
namespace Go.RE
open Go.RowKit
noncomputable section
def rdAll (c : T AV) (lim : Nat) : Nat → Nat → Option (List AV)
  | 0, _ => some []
  | n + 1, o => bif Nat.blt o lim then (match c.get o with
    | some v => (match rdAll c lim n (o + 1) with
      | some l => some (v :: l)
      | none => none)
    | none => none) else none
theorem rdAll_ok {c : T AV} {lim : Nat} : ∀ {n o : Nat} {l : List AV}, rdAll c lim n o = some l → l.length = n ∧ ∀ j v, l[j]? = some v → c.get (o + j) = some v ∧ o + j < lim := by
  intro n
  induction n with
  | zero => intro o l h; injection h with h; subst h; exact ⟨rfl, fun j v h => by simp at h⟩
  | succ n ih =>
    intro o l h
    simp only [rdAll] at h
    cases hb : Nat.blt o lim
    · rw [hb] at h; cases h
    · rw [hb] at h
      simp only [cond_true] at h
      cases hg : c.get o with
      | none => rw [hg] at h; cases h
      | some v =>
        rw [hg] at h
        simp only at h
        cases hr : rdAll c lim n (o + 1) with
        | none => rw [hr] at h; cases h
        | some r =>
          rw [hr] at h
          injection h with h
          subst h
          obtain ⟨h1, h2⟩ := ih hr
          refine ⟨by simp [h1], fun j u hj => ?_⟩
          cases j with
          | zero =>
            simp at hj
            subst hj
            exact ⟨hg, by simpa [Nat.blt_eq] using hb⟩
          | succ j =>
            obtain ⟨h3, h4⟩ := h2 j u (by simpa using hj)
            exact ⟨by rw [← h3]; congr 1; omega, by omega⟩
def strs : List AV → Option (List (List Nat))
  | [] => some []
  | .s l :: r => (match strs r with
    | some m => some (l :: m)
    | none => none)
  | _ :: _ => none
def joinT (sep : List Nat) : List (List Nat) → List Nat
  | [] => []
  | y :: r => sep ++ (y ++ joinT sep r)
def joinA (args : List AV) (h : Hp) : Option AV := match args with
  | [.sl id o n _ _ _, .s sep] => (match h.t.get id with
    | some (.cells c lim) => (match rdAll c lim n o with
      | some l => (match strs l with
        | some (x :: r) => bif Nat.ble n 140737488355328 && Nat.ble (x ++ joinT sep r).length 140737488355328 then some (.s (x ++ joinT sep r)) else none
        | _ => none)
      | none => none)
    | _ => none)
  | _ => none
theorem joinT_ok (sep : List UInt8) (r : List (List UInt8)) : (Lib.joinTail sep r).map UInt8.toNat = joinT (sep.map UInt8.toNat) (r.map (·.map UInt8.toNat)) := by
  induction r with
  | nil => rfl
  | cons y r ih =>
    simp only [Lib.joinTail, List.map_cons, List.flatten_cons, joinT, List.map_append, List.append_assoc] at ih ⊢
    rw [ih]
theorem strs_ok {ρ : M} {w : World} {b : Nat} : ∀ {l : List AV} {ms : List (List Nat)} {o : Nat}, strs l = some ms → (∀ j v, l[j]? = some v → ∃ u, w.cell? ⟨b, o + j, none⟩ = some u ∧ VR ρ v u) →
    ∃ xs : List ByteArray, xs.length = l.length ∧ (∀ (j : Nat) x, xs[j]? = some x → w.cell? ⟨b, o + j, none⟩ = some (.string x)) ∧ xs.map (·.data.toList.map UInt8.toNat) = ms := by
  intro l
  induction l with
  | nil => intro ms o h _; injection h with h; subst h; exact ⟨[], rfl, fun j x h => by simp at h, rfl⟩
  | cons a l ih =>
    intro ms o h hc
    cases a <;> simp only [strs] at h <;> try (cases h; done)
    rename_i s0
    cases hr : strs l with
    | none => rw [hr] at h; cases h
    | some m =>
      rw [hr] at h
      injection h with h
      subst h
      obtain ⟨xs, h1, h2, h3⟩ := ih (o := o + 1) hr fun j v hj => by
        obtain ⟨u, h4, h5⟩ := hc (j + 1) v (by simpa using hj)
        exact ⟨u, by rw [← h4]; congr 2; omega, h5⟩
      obtain ⟨u, h4, h5⟩ := hc 0 _ rfl
      obtain ⟨s, rfl, rfl⟩ := h5.inv_s
      refine ⟨s :: xs, by simp [h1], fun j x hj => ?_, by simp [h3]⟩
      cases j with
      | zero => simp at hj; subst hj; exact h4
      | succ j =>
        rw [← h2 j x (by simpa using hj)]
        congr 2
        omega
section
variable {P : Program} {tt : T TypeInfo} {eqs : TypeId → Option (List IntKind)} {chkD : CkD} {f : FuncId}
theorem joinA_ok (he : ∀ us w, (callFunc f us).run P w = .ok (.enter f us) w)
    (hJ : ∀ (bk o c : Nat) (xs : List ByteArray) (sep : ByteArray) (w : World), (∀ (j : Nat) x, xs[j]? = some x → w.cell? ⟨bk, o + j, none⟩ = some (.string x)) → bk < w.heap.size → xs.length ≤ 140737488355328 → xs.length ≤ c →
      (Lib.join (xs.map (·.data.toList)) sep.data.toList).length ≤ 140737488355328 →
      Calls P f #[.slice (some ⟨bk, o, none⟩) xs.length c, .string sep] w fun e w' => e = .returned (.string ⟨(Lib.join (xs.map (·.data.toList)) sep.data.toList).toArray⟩) ∧ Below w.heap.size w w') :
    FnOk P tt eqs chkD f (.sum joinA) := by
  intro vs h v hv
  unfold joinA at hv
  split at hv
  · rename_i id o n cap x z sep
    split at hv
    · rename_i c lim hg
      split at hv
      · rename_i l hl
        split at hv
        · rename_i y r hs
          cases hc : Nat.ble n 140737488355328 && Nat.ble (y ++ joinT sep r).length 140737488355328
          · rw [hc] at hv; cases hv
          · rw [hc] at hv
            injection hv with hv
            subst hv
            rw [Bool.and_eq_true] at hc
            obtain ⟨hc1, hc2⟩ := hc
            have hc1 := Nat.le_of_ble_eq_true hc1
            have hc2 := Nat.le_of_ble_eq_true hc2
            refine FnS.calls fun S w0 ρ us w hV hI => ⟨he us w, ?_⟩
            obtain ⟨a, us1, e1, h1, hV⟩ := hV.inv_cons
            obtain ⟨b, us2, rfl, h2, hV⟩ := hV.inv_cons
            obtain rfl := hV.inv_nil
            obtain ⟨q, ad, cap', hq, rfl, k1, k2, _, _, k3, k4⟩ := h1.inv_sl
            obtain ⟨s, rfl, rfl⟩ := h2.inv_s
            obtain ⟨q', cs, e, fr, hq', hw, hr⟩ := hI.cells hg
            rw [hq] at hq'; injection hq' with hq'; subst hq'
            obtain ⟨hl1, hl2⟩ := rdAll_ok hl
            obtain ⟨xs, x1, x2, x3⟩ := strs_ok (ρ := ρ) (w := w) (b := q.block) (o := q.shift + o) hs fun j v hj => by
              obtain ⟨g1, g2⟩ := hl2 j v hj
              obtain ⟨u, g3, g4⟩ := hr.cell? hw g1 g2
              exact ⟨u, by rw [← g3]; congr 2; omega, g4⟩
            have hn : n = xs.length := by omega
            cases xs with
            | nil => simp at x3
            | cons x0 xr =>
              have hpos : 0 < n := by rw [hn]; simp
              rcases k4 with k4 | ⟨k4, _⟩
              · omega
              · subst k4
                simp only [List.map_cons, List.cons.injEq] at x3
                obtain ⟨x3, x4⟩ := x3
                have ht : (Lib.join ((x0 :: xr).map (·.data.toList)) s.data.toList).map UInt8.toNat = y ++ joinT (s.data.toList.map UInt8.toNat) r := by
                  rw [List.map_cons, Lib.join_cons, List.map_append, joinT_ok, x3]
                  congr 2
                  rw [← x4, List.map_map]
                  rfl
                have hus : us = #[.slice (some ⟨q.block, q.shift + o, none⟩) (x0 :: xr).length cap', .string s] := by
                  rw [← Array.toList_inj, e1, hn]
                rw [hus]
                refine (hJ q.block (q.shift + o) cap' (x0 :: xr) s w x2 (Array.getElem?_eq_some_iff.1 hw).1 (by omega) (by omega) ?_).mono ?_
                · rw [← List.length_map (f := UInt8.toNat), ht]
                  exact hc2
                · rintro e w' ⟨rfl, hb⟩
                  exact ⟨_, rfl, .s _ _ (by simpa using ht), hb⟩
        · cases hv
      · cases hv
    · cases hv
  · cases hv
end
end
end Go.RE
/- A closed call, as a contract. -/
namespace Go.RE
open Go.RowKit
/-- A closed call from any world on. -/
theorem FnS.runs {P : Program} {f : FuncId} {v : AV} {h' : Hp} (hf : FnS P f [] ⟨.e, 0⟩ v h') (hcf : ∀ args w, (callFunc f args).run P w = .ok (.enter f args) w) (w : World) :
    Calls P f #[] w fun e w' => ∃ v' ρ, e = .returned v' ∧ VR ρ v v' ∧ Chg Nil w w' := by
  have key := hf Nil w (fun _ => none) ⟨#[undef], []⟩ w #[] { dst := some 0, op := .nilCheck (.tmp 0), type := 0, pos := "", after := #[], guard := none }
    (fun a w' => ∃ v' ρ, a.tmps[0]? = some v' ∧ VR ρ v v' ∧ Chg Nil w w') (fun _ _ _ => False) VRs.nil
    ⟨Chg.refl _ _, fun id q h => (by cases h), fun id a h => (by cases h), fun id id' a a' q q' h => (by cases h)⟩
    (fun ρ' v' w' hv hI _ _ => ⟨v', ρ', rfl, hv, hI.chg⟩)
  rw [hcf, Oper.upon_enter] at key
  refine key.mono ?_
  intro e w' h
  cases e with
  | returned u =>
    obtain ⟨v', ρ, h1, h2, h3⟩ := h
    have : u = v' := by simpa [Act.put] using h1
    subst this
    exact ⟨u, ρ, rfl, h2, h3⟩
  | panicked c => exact h.elim
  | outgrown => obtain ⟨_, _, h⟩ := h; exact h.elim
theorem CkOk.runs {P : Program} {ck : CK} (hc : CkOk P ck) {f : FuncId} {k : AV → Hp → Bool} {r : Value} (e : ck f [] ⟨.e, 0⟩ k = true) (hcf : ∀ args w, (callFunc f args).run P w = .ok (.enter f args) w)
    (hk : ∀ (v : AV) (h : Hp) (ρ : M) (u : Value), k v h = true → VR ρ v u → u = r) (w : World) : Calls P f #[] w fun e w' => e = .returned r ∧ Chg Nil w w' := by
  obtain ⟨v, h', h1, hf⟩ := hc f [] ⟨.e, 0⟩ k e
  refine (hf.runs hcf w).mono ?_
  rintro e w' ⟨u, ρ, rfl, h2, h3⟩
  exact ⟨congrArg Ending.returned (hk v h' ρ u h1 h2), h3⟩
end Go.RE
