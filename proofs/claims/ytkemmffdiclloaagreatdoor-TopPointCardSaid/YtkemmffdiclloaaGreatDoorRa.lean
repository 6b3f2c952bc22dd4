import Derived.WalkKit
import Derived.Below
import Derived.Laws.Rows
import Derived.Laws.OwnMore
import Derived.Deep.Draws
import Derived.Calls
import Derived.IntWalk
import Derived.Laws.Bits64
import Derived.Laws.Tables
import Derived.Laws.Cells
import Derived.Lib.Strings
set_option linter.unusedVariables false
set_option linter.unusedSimpArgs false
/- A machine for closed runs: trees of cells, values, heaps, and what they stand for. -/
namespace Go.RE
open Go.RowKit

/-- From w to w' only blocks of S, and new ones, may have changed. -/
structure Chg (S : Nat → Prop) (w w' : World) : Prop where
  os : w'.os = w.os
  tape : w'.tape = w.tape
  output : w'.output = w.output
  size : w.heap.size ≤ w'.heap.size
  old : ∀ k, k < w.heap.size → ¬ S k → w'.heap[k]? = w.heap[k]?

/-- No block. -/
def Nil : Nat → Prop := fun _ => False
/-- The block in which a slice value lies. -/
def Own (v : Value) : Nat → Prop := fun k => v.ownBlock = some k

section
variable {S T : Nat → Prop} {a b c w w' : World}
theorem Chg.refl (S : Nat → Prop) (w : World) : Chg S w w := ⟨rfl, rfl, rfl, Nat.le_refl _, fun _ _ _ => rfl⟩
theorem Chg.trans (h : Chg S a b) (k : Chg T b c) (hT : ∀ i, i < a.heap.size → T i → S i) : Chg S a c :=
  ⟨k.os.trans h.os, k.tape.trans h.tape, k.output.trans h.output, Nat.le_trans h.size k.size,
    fun i hi hn => (k.old i (Nat.lt_of_lt_of_le hi h.size) (fun ht => hn (hT i hi ht))).trans (h.old i hi hn)⟩
theorem Chg.wider (h : Chg S a b) (hS : ∀ i, i < a.heap.size → S i → T i) : Chg T a b :=
  ⟨h.os, h.tape, h.output, h.size, fun i hi hn => h.old i hi fun hs => hn (hS i hi hs)⟩
theorem Chg.of_below (h : Below w.heap.size w w') : Chg S w w' := ⟨h.os, h.tape, h.output, h.size, fun i hi _ => h.block i hi⟩
theorem Chg.of_grown {r : Option Nat} (h : w.grownBy w' r) : Chg (fun k => r = some k) w w' := ⟨h.os, h.tape, h.output, h.size, fun i hi hn => h.block i hi fun e => hn e.symm⟩
theorem Chg.below {B : Nat} {w0 : World} (h : Chg S w w') (hb : Below B w0 w) (hB : B ≤ w.heap.size) (hS : ∀ i, i < w.heap.size → S i → B ≤ i) : Below B w0 w' :=
  hb.trans ⟨h.os, h.tape, h.output, h.size, fun i hi => h.old i (by omega) fun hs => by have := hS i (by omega) hs; omega⟩
theorem Chg.below_nil (h : Chg Nil w w') : Below w.heap.size w w' := ⟨h.os, h.tape, h.output, h.size, fun i hi => h.old i hi fun hs => hs⟩
theorem Chg.drew (h : Chg S a w) : Chg S a w.drew := ⟨h.os, h.tape, h.output, h.size, h.old⟩
theorem Chg.drewN (h : Chg S a w) (n : Nat) : Chg S a (w.drewN n) := ⟨h.os, h.tape, h.output, h.size, h.old⟩
theorem Chg.alloc (h : Chg S a w) (o : Obj) : Chg S a (w.alloc o) :=
  ⟨h.os, h.tape, h.output, Nat.le_trans h.size (by simp), fun i hi hn => (Below.heap_alloc w o i (Nat.lt_of_lt_of_le hi h.size)).trans (h.old i hi hn)⟩
theorem Chg.setCell (h : Chg S a w) {p : Addr} (hp : p.block < a.heap.size → S p.block) (u : Value) : Chg S a (w.setCell p u) :=
  ⟨h.os, h.tape, h.output, by simpa [World.setCell] using h.size, fun i hi hn => (Below.heap_setCell w p u i (by
    rintro rfl
    exact hn (hp hi))).trans (h.old i hi hn)⟩
theorem Chg.setRow (h : Chg S a w) {g : Nat} (hg : g < a.heap.size → S g) (cs : Array Value) : Chg S a (w.setRow g cs) :=
  ⟨h.os, h.tape, h.output, by simpa using h.size, fun i hi hn => (setRow_other w g i cs (by rintro rfl; exact hn (hg hi))).trans (h.old i hi hn)⟩
theorem Chg.cell (h : Chg S w w') {p : Addr} {u : Value} (hp : w.cell? p = some u) (hn : ¬ S p.block) : w'.cell? p = some u :=
  (World.cell?_of_block (h.old p.block (block_lt_of_cell hp) hn)).trans hp
theorem Chg.block (h : Chg S w w') {k : Nat} {o : Obj} (hk : w.heap[k]? = some o) (hn : ¬ S k) : w'.heap[k]? = some o := by
  rcases Nat.lt_or_ge k w.heap.size with hlt | hge
  · exact (h.old k hlt hn).trans hk
  · rw [Array.getElem?_eq_none hge] at hk; cases hk
end

/-! ### trees over numbers -/
inductive T (α : Type) where
  | e
  | n (v : Option α) (l r : T α)
noncomputable def T.get {α : Type} (t : T α) : Nat → Option α :=
  T.rec (fun _ => none) (fun v _ _ hl hr i => Nat.rec v (fun j _ => Bool.rec (hr (j / 2)) (hl (j / 2)) (Nat.beq (j % 2) 0)) i) t
noncomputable def T.set {α : Type} (f : Nat) : T α → Nat → α → T α :=
  Nat.rec (fun t _ _ => t) (fun _ ih t i x =>
    T.rec (Nat.rec (.n (some x) .e .e) (fun j _ => Bool.rec (.n none .e (ih .e (j / 2) x)) (.n none (ih .e (j / 2) x) .e) (Nat.beq (j % 2) 0)) i)
      (fun v l r _ _ => Nat.rec (.n (some x) l r) (fun j _ => Bool.rec (.n v l (ih r (j / 2) x)) (.n v (ih l (j / 2) x) r) (Nat.beq (j % 2) 0)) i) t) f
noncomputable def T.put {α : Type} (t : T α) (i : Nat) (x : α) : T α := T.set (i + 1) t i x
section
variable {α : Type}
theorem T.get_e (i : Nat) : (T.e : T α).get i = none := rfl
theorem T.get_0 (v : Option α) (l r : T α) : (T.n v l r).get 0 = v := rfl
theorem T.get_s (v : Option α) (l r : T α) (j : Nat) : (T.n v l r).get (j + 1) = if j % 2 = 0 then l.get (j / 2) else r.get (j / 2) := by
  show (Bool.rec (r.get (j / 2)) (l.get (j / 2)) (Nat.beq (j % 2) 0) : Option α) = _
  by_cases h : j % 2 = 0
  · rw [if_pos h, h]; rfl
  · rw [if_neg h]
    have : Nat.beq (j % 2) 0 = false := by
      cases hb : Nat.beq (j % 2) 0
      · rfl
      · exact absurd (Nat.eq_of_beq_eq_true hb) h
    rw [this]
theorem T.set_e0 (f : Nat) (x : α) : T.set (f + 1) .e 0 x = .n (some x) .e .e := rfl
theorem T.set_es (f : Nat) (j : Nat) (x : α) : T.set (f + 1) .e (j + 1) x = if j % 2 = 0 then .n none (T.set f .e (j / 2) x) .e else .n none .e (T.set f .e (j / 2) x) := by
  show (Bool.rec (.n none .e (T.set f .e (j / 2) x)) (.n none (T.set f .e (j / 2) x) .e) (Nat.beq (j % 2) 0) : T α) = _
  by_cases h : j % 2 = 0
  · rw [if_pos h, h]; rfl
  · rw [if_neg h]
    have : Nat.beq (j % 2) 0 = false := by
      cases hb : Nat.beq (j % 2) 0
      · rfl
      · exact absurd (Nat.eq_of_beq_eq_true hb) h
    rw [this]
theorem T.set_n0 (f : Nat) (v : Option α) (l r : T α) (x : α) : T.set (f + 1) (.n v l r) 0 x = .n (some x) l r := rfl
theorem T.set_ns (f : Nat) (v : Option α) (l r : T α) (j : Nat) (x : α) : T.set (f + 1) (.n v l r) (j + 1) x = if j % 2 = 0 then .n v (T.set f l (j / 2) x) r else .n v l (T.set f r (j / 2) x) := by
  show (Bool.rec (.n v l (T.set f r (j / 2) x)) (.n v (T.set f l (j / 2) x) r) (Nat.beq (j % 2) 0) : T α) = _
  by_cases h : j % 2 = 0
  · rw [if_pos h, h]; rfl
  · rw [if_neg h]
    have : Nat.beq (j % 2) 0 = false := by
      cases hb : Nat.beq (j % 2) 0
      · rfl
      · exact absurd (Nat.eq_of_beq_eq_true hb) h
    rw [this]
theorem T.get_set (f : Nat) : ∀ (t : T α) (i j : Nat) (x : α), i < f → (T.set f t i x).get j = if j = i then some x else t.get j := by
  induction f with
  | zero => intro t i j x h; omega
  | succ f ih =>
    intro t i j x h
    have key : ∀ (a : T α) (i j : Nat), i + 1 < f + 1 → (T.set f a (i / 2) x).get (j / 2) = if j / 2 = i / 2 then some x else a.get (j / 2) := fun a i j hi => ih a (i / 2) (j / 2) x (by omega)
    have half : ∀ i j : Nat, i % 2 = j % 2 → (j / 2 = i / 2 ↔ j = i) := fun i j _ => by omega
    cases t with
    | e =>
      cases i with
      | zero => cases j <;> simp [T.set_e0, T.get_0, T.get_s, T.get_e]
      | succ i =>
        rw [T.set_es]
        cases j with
        | zero => split <;> simp [T.get_0, T.get_e]
        | succ j =>
          by_cases hi : i % 2 = 0 <;> by_cases hj : j % 2 = 0
          · simp only [hi, if_true, T.get_s, hj, key _ i j h, half i j (by omega), T.get_e]; simp
          · simp only [hi, if_true, T.get_s, hj, if_false, T.get_e]; rw [if_neg (by omega)]
          · simp only [hi, if_false, T.get_s, hj, if_true, T.get_e]; rw [if_neg (by omega)]
          · simp only [hi, if_false, T.get_s, hj, key _ i j h, half i j (by omega), T.get_e]; simp
    | n v l r =>
      cases i with
      | zero => cases j <;> simp [T.set_n0, T.get_0, T.get_s]
      | succ i =>
        rw [T.set_ns]
        cases j with
        | zero => split <;> simp [T.get_0]
        | succ j =>
          by_cases hi : i % 2 = 0 <;> by_cases hj : j % 2 = 0
          · simp only [hi, if_true, T.get_s, hj, key _ i j h, half i j (by omega)]; simp
          · simp only [hi, if_true, T.get_s, hj, if_false]; rw [if_neg (by omega)]
          · simp only [hi, if_false, T.get_s, hj, if_true]; rw [if_neg (by omega)]
          · simp only [hi, if_false, T.get_s, hj, key _ i j h, half i j (by omega)]; simp
theorem T.get_put (t : T α) (i j : Nat) (x : α) : (t.put i x).get j = if j = i then some x else t.get j := T.get_set _ _ _ _ _ (by omega)
theorem T.get_put_same (t : T α) (i : Nat) (x : α) : (t.put i x).get i = some x := by rw [T.get_put, if_pos rfl]
theorem T.get_put_ne (t : T α) {i j : Nat} (x : α) (h : j ≠ i) : (t.put i x).get j = t.get j := by rw [T.get_put, if_neg h]
end
end Go.RE
/- Values and heaps of a closed run, and what they stand for. -/
namespace Go.RE
open Go.RowKit

inductive AV where
  | b (x : Bool)
  | i (k : IntKind) (n : Int)
  | s (l : List Nat)
  | pn
  | p (id o : Nat)
  | sn
  | sl (id o len cap : Nat) (x : Bool) (z : Nat)
  | mn
  | m (id : Nat)
  | f (fn : Fn) (first captured : List AV)
  | nf
  | ifc (t : TypeId) (v : AV)
  | nif
  | ag (cs : List AV)
  | tu (vs : List AV)
/-- Where an id lies. -/
structure Pl where
  block : Nat
  shift : Nat
  size : Nat
abbrev M := Nat → Option Pl
inductive VR (ρ : M) : AV → Value → Prop
  | b (x : Bool) : VR ρ (.b x) (.bool x)
  | i (k : IntKind) (x : Int) : VR ρ (.i k x) (.int k x)
  | s (l : List Nat) (s : ByteArray) (h : s.data.toList.map UInt8.toNat = l) : VR ρ (.s l) (.string s)
  | pn : VR ρ .pn (.pointer none)
  | p (id o : Nat) (q : Pl) (h : ρ id = some q) : VR ρ (.p id o) (.pointer (some ⟨q.block, q.shift + o, none⟩))
  | sn : VR ρ .sn (.slice none 0 0)
  | sl (id o len cap : Nat) (x : Bool) (z : Nat) (q : Pl) (ad : Addr) (cap' : Nat) (h : ρ id = some q) (hl : len ≤ cap) (hc : cap ≤ cap') (hx : x = true → cap' = cap) (hm : cap' ≤ maxLen)
      (ha : ad.block = q.block ∧ (cap' = 0 ∨ (ad = ⟨q.block, q.shift + o, none⟩ ∧ o + cap' * z ≤ q.size))) : VR ρ (.sl id o len cap x z) (.slice (some ad) len cap')
  | mn : VR ρ .mn (.map none)
  | m (id : Nat) (q : Pl) (h : ρ id = some q) : VR ρ (.m id) (.map (some q.block))
  | f (fn : Fn) (first captured : List AV) (fi ca : Array Value) (h1 : first.length = fi.size) (h2 : captured.length = ca.size)
      (h3 : ∀ (j : Nat) (u : AV) (v : Value), first[j]? = some u → fi[j]? = some v → VR ρ u v)
      (h4 : ∀ (j : Nat) (u : AV) (v : Value), captured[j]? = some u → ca[j]? = some v → VR ρ u v) : VR ρ (.f fn first captured) (.func fn fi ca)
  | nf : VR ρ .nf .nilFunc
  | ifc (t : TypeId) (u : AV) (v : Value) (h : VR ρ u v) : VR ρ (.ifc t u) (.iface t v)
  | nif : VR ρ .nif .nilIface
  | ag (cs : List AV) (vs : Array Value) (h1 : cs.length = vs.size) (h2 : ∀ (j : Nat) (u : AV) (v : Value), cs[j]? = some u → vs[j]? = some v → VR ρ u v) : VR ρ (.ag cs) (.agg vs)
  | tu (cs : List AV) (vs : Array Value) (h1 : cs.length = vs.size) (h2 : ∀ (j : Nat) (u : AV) (v : Value), cs[j]? = some u → vs[j]? = some v → VR ρ u v) : VR ρ (.tu cs) (.tuple vs)
/-- Old ids lie where they lay. -/
def Ext (ρ ρ' : M) : Prop := ∀ id q, ρ id = some q → ρ' id = some q
theorem Ext.refl (ρ : M) : Ext ρ ρ := fun _ _ h => h
theorem Ext.trans {ρ ρ' ρ'' : M} (h : Ext ρ ρ') (k : Ext ρ' ρ'') : Ext ρ ρ'' := fun id q hq => k id q (h id q hq)
/-- The same, and below n nothing is new. -/
structure ExtN (n : Nat) (ρ ρ' : M) : Prop where
  ext : Ext ρ ρ'
  low : ∀ id, id < n → ρ' id = ρ id
theorem ExtN.refl (n : Nat) (ρ : M) : ExtN n ρ ρ := ⟨Ext.refl ρ, fun _ _ => rfl⟩
theorem ExtN.trans {n m : Nat} {ρ ρ' ρ'' : M} (h : ExtN n ρ ρ') (k : ExtN m ρ' ρ'') (hm : n ≤ m) : ExtN n ρ ρ'' :=
  ⟨h.ext.trans k.ext, fun id hi => (k.low id (Nat.lt_of_lt_of_le hi hm)).trans (h.low id hi)⟩
theorem VR.ext {ρ ρ' : M} (e : Ext ρ ρ') {u : AV} {v : Value} (h : VR ρ u v) : VR ρ' u v := by
  induction h with
  | b x => exact .b x
  | i k x => exact .i k x
  | s l s h => exact .s l s h
  | pn => exact .pn
  | p id o q h => exact .p id o q (e id q h)
  | sn => exact .sn
  | sl id o len cap x z q ad cap' h hl hc hx hm ha => exact .sl id o len cap x z q ad cap' (e id q h) hl hc hx hm ha
  | mn => exact .mn
  | m id q h => exact .m id q (e id q h)
  | f fn first captured fi ca h1 h2 _ _ h3 h4 => exact .f fn first captured fi ca h1 h2 h3 h4
  | nf => exact .nf
  | ifc t u v _ h => exact .ifc t u v h
  | nif => exact .nif
  | ag cs vs h1 _ h2 => exact .ag cs vs h1 h2
  | tu cs vs h1 _ h2 => exact .tu cs vs h1 h2

/-- Lists of values. -/
def VRs (ρ : M) (cs : List AV) (vs : List Value) : Prop :=
  cs.length = vs.length ∧ ∀ (j : Nat) (u : AV) (v : Value), cs[j]? = some u → vs[j]? = some v → VR ρ u v
section
variable {ρ : M}
theorem VRs.nil : VRs ρ [] [] := ⟨rfl, fun j u v h => by simp at h⟩
theorem VRs.cons {u : AV} {v : Value} {cs : List AV} {vs : List Value} (h : VR ρ u v) (hs : VRs ρ cs vs) : VRs ρ (u :: cs) (v :: vs) :=
  ⟨by simp [hs.1], fun j a b ha hb => by
    cases j with
    | zero => simp at ha hb; subst ha; subst hb; exact h
    | succ j => exact hs.2 j a b (by simpa using ha) (by simpa using hb)⟩
theorem VRs.head {u : AV} {v : Value} {cs : List AV} {vs : List Value} (h : VRs ρ (u :: cs) (v :: vs)) : VR ρ u v := h.2 0 u v rfl rfl
theorem VRs.tail {u : AV} {v : Value} {cs : List AV} {vs : List Value} (h : VRs ρ (u :: cs) (v :: vs)) : VRs ρ cs vs :=
  ⟨by have := h.1; simpa using this, fun j a b ha hb => h.2 (j + 1) a b (by simpa using ha) (by simpa using hb)⟩
theorem VRs.inv_cons {u : AV} {cs : List AV} {l : List Value} (h : VRs ρ (u :: cs) l) : ∃ v vs, l = v :: vs ∧ VR ρ u v ∧ VRs ρ cs vs := by
  cases l with
  | nil => have := h.1; simp at this
  | cons v vs => exact ⟨v, vs, rfl, h.head, h.tail⟩
theorem VRs.inv_nil {l : List Value} (h : VRs ρ [] l) : l = [] := List.eq_nil_of_length_eq_zero h.1.symm
theorem VRs.ext {ρ' : M} (e : Ext ρ ρ') {cs : List AV} {vs : List Value} (h : VRs ρ cs vs) : VRs ρ' cs vs := ⟨h.1, fun j u v hu hv => (h.2 j u v hu hv).ext e⟩
theorem VRs.at_ {cs : List AV} {vs : List Value} (h : VRs ρ cs vs) {j : Nat} {u : AV} (hu : cs[j]? = some u) : ∃ v, vs[j]? = some v ∧ VR ρ u v := by
  have hj : j < cs.length := (List.getElem?_eq_some_iff.1 hu).1
  have hv : vs[j]? = some (vs[j]'(by rw [← h.1]; exact hj)) := List.getElem?_eq_getElem _
  exact ⟨_, hv, h.2 j u _ hu hv⟩
theorem VRs.append {cs ds : List AV} {vs us : List Value} (h : VRs ρ cs vs) (k : VRs ρ ds us) : VRs ρ (cs ++ ds) (vs ++ us) :=
  ⟨by simp [h.1, k.1], fun j u v hu hv => by
    rcases Nat.lt_or_ge j cs.length with hj | hj
    · rw [List.getElem?_append_left hj] at hu
      rw [List.getElem?_append_left (by rw [← h.1]; exact hj)] at hv
      exact h.2 j u v hu hv
    · rw [List.getElem?_append_right hj] at hu
      rw [List.getElem?_append_right (by rw [← h.1]; exact hj), ← h.1] at hv
      exact k.2 _ u v hu hv⟩
theorem VRs.drop {cs : List AV} {vs : List Value} (h : VRs ρ cs vs) (n : Nat) : VRs ρ (cs.drop n) (vs.drop n) :=
  ⟨by simp [h.1], fun j u v hu hv => h.2 (n + j) u v (by rwa [List.getElem?_drop] at hu) (by rwa [List.getElem?_drop] at hv)⟩
theorem VRs.take {cs : List AV} {vs : List Value} (h : VRs ρ cs vs) (n : Nat) : VRs ρ (cs.take n) (vs.take n) :=
  ⟨by simp [h.1], fun j u v hu hv => by
    rw [List.getElem?_take] at hu hv
    split at hu
    · rw [if_pos ‹_›] at hv; exact h.2 j u v hu hv
    · cases hu⟩
theorem VR.inv_ag {cs : List AV} {v : Value} (h : VR ρ (.ag cs) v) : ∃ vs : List Value, v = .agg vs.toArray ∧ VRs ρ cs vs := by
  cases h with
  | ag _ vs h1 h2 => exact ⟨vs.toList, by simp, by simpa using h1, fun j u v hu hv => h2 j u v hu (by simpa using hv)⟩
theorem VR.inv_tu {cs : List AV} {v : Value} (h : VR ρ (.tu cs) v) : ∃ vs : List Value, v = .tuple vs.toArray ∧ VRs ρ cs vs := by
  cases h with
  | tu _ vs h1 h2 => exact ⟨vs.toList, by simp, by simpa using h1, fun j u v hu hv => h2 j u v hu (by simpa using hv)⟩
theorem VR.inv_f {fn : Fn} {a b : List AV} {v : Value} (h : VR ρ (.f fn a b) v) : ∃ x y : List Value, v = .func fn x.toArray y.toArray ∧ VRs ρ a x ∧ VRs ρ b y := by
  cases h with
  | f _ _ _ fi ca h1 h2 h3 h4 => exact ⟨fi.toList, ca.toList, by simp, ⟨by simpa using h1, fun j u v hu hv => h3 j u v hu (by simpa using hv)⟩, by simpa using h2, fun j u v hu hv => h4 j u v hu (by simpa using hv)⟩
theorem VRs.ag {cs : List AV} {vs : List Value} (h : VRs ρ cs vs) : VR ρ (.ag cs) (.agg vs.toArray) := .ag _ _ (by simpa using h.1) fun j u v hu hv => h.2 j u v hu (by simpa using hv)
theorem VRs.tu {cs : List AV} {vs : List Value} (h : VRs ρ cs vs) : VR ρ (.tu cs) (.tuple vs.toArray) := .tu _ _ (by simpa using h.1) fun j u v hu hv => h.2 j u v hu (by simpa using hv)
theorem VRs.f {fn : Fn} {a b : List AV} {x y : List Value} (h : VRs ρ a x) (k : VRs ρ b y) : VR ρ (.f fn a b) (.func fn x.toArray y.toArray) :=
  .f _ _ _ _ _ (by simpa using h.1) (by simpa using k.1) (fun j u v hu hv => h.2 j u v hu (by simpa using hv)) fun j u v hu hv => k.2 j u v hu (by simpa using hv)
theorem VR.undef : VR ρ (.tu []) Go.undef := VRs.nil.tu
end
section
variable {ρ : M} {v : Value}
theorem VR.inv_b {x : Bool} (h : VR ρ (.b x) v) : v = .bool x := by cases h; rfl
theorem VR.inv_i {k : IntKind} {x : Int} (h : VR ρ (.i k x) v) : v = .int k x := by cases h; rfl
theorem VR.inv_s {l : List Nat} (h : VR ρ (.s l) v) : ∃ s : ByteArray, v = .string s ∧ s.data.toList.map UInt8.toNat = l := by cases h; exact ⟨_, rfl, ‹_›⟩
theorem VR.inv_pn (h : VR ρ .pn v) : v = .pointer none := by cases h; rfl
theorem VR.inv_p {id o : Nat} (h : VR ρ (.p id o) v) : ∃ q, ρ id = some q ∧ v = .pointer (some ⟨q.block, q.shift + o, none⟩) := by cases h; exact ⟨_, ‹_›, rfl⟩
theorem VR.inv_sn (h : VR ρ .sn v) : v = .slice none 0 0 := by cases h; rfl
theorem VR.inv_sl {id o len cap z : Nat} {x : Bool} (h : VR ρ (.sl id o len cap x z) v) : ∃ q ad cap', ρ id = some q ∧ v = .slice (some ad) len cap' ∧ len ≤ cap ∧ cap ≤ cap' ∧ (x = true → cap' = cap) ∧ cap' ≤ maxLen ∧
    ad.block = q.block ∧ (cap' = 0 ∨ (ad = ⟨q.block, q.shift + o, none⟩ ∧ o + cap' * z ≤ q.size)) := by cases h; exact ⟨_, _, _, ‹_›, rfl, ‹_›, ‹_›, ‹_›, ‹_›, ‹_›⟩
theorem VR.inv_mn (h : VR ρ .mn v) : v = .map none := by cases h; rfl
theorem VR.inv_m {id : Nat} (h : VR ρ (.m id) v) : ∃ q, ρ id = some q ∧ v = .map (some q.block) := by cases h; exact ⟨_, ‹_›, rfl⟩
theorem VR.inv_nf (h : VR ρ .nf v) : v = .nilFunc := by cases h; rfl
theorem VR.inv_ifc {t : TypeId} {u : AV} (h : VR ρ (.ifc t u) v) : ∃ x, v = .iface t x ∧ VR ρ u x := by cases h; exact ⟨_, rfl, ‹_›⟩
theorem VR.inv_nif (h : VR ρ .nif v) : v = .nilIface := by cases h; rfl
end
theorem bif_t {c a : Bool} (h : (bif c then a else false) = true) : c = true ∧ a = true := by
  cases c
  · cases h
  · exact ⟨rfl, h⟩
theorem bif_f {c a : Bool} (h : (bif c then false else a) = true) : c = false ∧ a = true := by
  cases c
  · exact ⟨rfl, h⟩
  · cases h
/-- A value of one cell. -/
def AV.one : AV → Bool
  | .ag _ | .tu _ => false
  | _ => true
theorem VR.one {ρ : M} {u : AV} {v : Value} (h : VR ρ u v) (hu : u.one = true) : v.oneCell' = true := by
  cases h <;> first | rfl | (simp [AV.one] at hu)
/-- The cells of a value. -/
def AV.cells : AV → List AV
  | .ag cs => cs
  | v => [v]
theorem VR.cells {ρ : M} {u : AV} {v : Value} (h : VR ρ u v) : VRs ρ u.cells v.cells.toList := by
  cases h with
  | ag cs vs h1 h2 => exact ⟨by simpa [AV.cells, Value.cells] using h1, fun j u v hu hv => h2 j u v (by simpa [AV.cells] using hu) (by simpa [Value.cells] using hv)⟩
  | b x => exact VRs.nil.cons (.b x)
  | i k x => exact VRs.nil.cons (.i k x)
  | s l s h => exact VRs.nil.cons (.s l s h)
  | pn => exact VRs.nil.cons .pn
  | p id o q h => exact VRs.nil.cons (.p id o q h)
  | sn => exact VRs.nil.cons .sn
  | sl id o len cap x z q ad cap' h hl hc hx hm ha => exact VRs.nil.cons (.sl id o len cap x z q ad cap' h hl hc hx hm ha)
  | mn => exact VRs.nil.cons .mn
  | m id q h => exact VRs.nil.cons (.m id q h)
  | f fn first captured fi ca h1 h2 h3 h4 => exact VRs.nil.cons (.f fn first captured fi ca h1 h2 h3 h4)
  | nf => exact VRs.nil.cons .nf
  | ifc t u v h => exact VRs.nil.cons (.ifc t u v h)
  | nif => exact VRs.nil.cons .nif
  | tu cs vs h1 h2 => exact VRs.nil.cons (.tu cs vs h1 h2)

/-! ### heaps -/
inductive AO where
  | dead
  | cells (c : T AV) (lim : Nat)
  | map (es : List (AV × AV × Nat)) (clock : Nat)
  | mit (m : Nat) (since : Nat) (seen : List Nat) (stepped : Nat)
def AO.live : AO → Prop
  | .dead => False
  | _ => True
structure Hp where
  t : T AO
  n : Nat
/-- The cells of a block from a place on. -/
structure CellsR (ρ : M) (p : Pl) (c : T AV) (lim : Nat) (cs : Array Value) (fr : Nat × Nat) : Prop where
  size : p.shift + p.size = cs.size
  inn : lim ≤ p.size
  cell : ∀ (j : Nat) (v : AV), c.get j = some v → j < lim → ∃ u, cs[p.shift + j]? = some u ∧ VR ρ v u
  free : fr.1 = fr.2 ∨ cs.size ≤ fr.1
def EntR (ρ : M) (es : List (AV × AV × Nat)) (es' : List MapEntry) : Prop :=
  es.length = es'.length ∧ ∀ (j : Nat) (e : AV × AV × Nat) (e' : MapEntry), es[j]? = some e → es'[j]? = some e' → VR ρ e.1 e'.key ∧ VR ρ e.2.1 e'.val ∧ e'.born = e.2.2
def ObR (ρ : M) (p : Pl) : AO → Obj → Prop
  | .dead, _ => True
  | .cells c lim, o => ∃ cs e fr, o = .cells cs e fr ∧ CellsR ρ p c lim cs fr
  | .map es clock, o => ∃ es', o = .map es' clock ∧ EntR ρ es es'.toList
  | .mit m since seen stepped, o => p.shift = 0 ∧ ∃ q, ρ m = some q ∧ o = .mapIter (some q.block) since seen.toArray stepped
theorem CellsR.ext {ρ ρ' : M} (e : Ext ρ ρ') {p : Pl} {c : T AV} {lim : Nat} {cs : Array Value} {fr : Nat × Nat} (h : CellsR ρ p c lim cs fr) : CellsR ρ' p c lim cs fr :=
  ⟨h.size, h.inn, fun j v hv hj => let ⟨u, h1, h2⟩ := h.cell j v hv hj; ⟨u, h1, h2.ext e⟩, h.free⟩
theorem EntR.ext {ρ ρ' : M} (e : Ext ρ ρ') {es : List (AV × AV × Nat)} {es' : List MapEntry} (h : EntR ρ es es') : EntR ρ' es es' :=
  ⟨h.1, fun j a b ha hb => let ⟨x, y, z⟩ := h.2 j a b ha hb; ⟨x.ext e, y.ext e, z⟩⟩
theorem ObR.ext {ρ ρ' : M} (e : Ext ρ ρ') {p : Pl} {a : AO} {o : Obj} (h : ObR ρ p a o) : ObR ρ' p a o := by
  cases a with
  | dead => trivial
  | cells c lim => obtain ⟨cs, t, fr, h1, h2⟩ := h; exact ⟨cs, t, fr, h1, h2.ext e⟩
  | map es clock => obtain ⟨es', h1, h2⟩ := h; exact ⟨es', h1, h2.ext e⟩
  | mit m a b c => obtain ⟨h0, q, h1, h2⟩ := h; exact ⟨h0, q, e m q h1, h2⟩
/-- The world w bears the heap h; since w0 only blocks of S and new ones have changed. -/
structure Inv (S : Nat → Prop) (w0 : World) (h : Hp) (ρ : M) (w : World) : Prop where
  chg : Chg S w0 w
  dom : ∀ id q, ρ id = some q → id < h.n
  obj : ∀ id a, h.t.get id = some a → a.live → ∃ q, ρ id = some q ∧ (S q.block ∨ w0.heap.size ≤ q.block) ∧ ∃ o, w.heap[q.block]? = some o ∧ ObR ρ q a o
  inj : ∀ id id' a a' q q', h.t.get id = some a → a.live → h.t.get id' = some a' → a'.live → ρ id = some q → ρ id' = some q' → q.block = q'.block → id = id'
theorem Inv.lt {S : Nat → Prop} {w0 : World} {h : Hp} {ρ : M} {w : World} (k : Inv S w0 h ρ w) {id : Nat} {a : AO} {q : Pl} (hg : h.t.get id = some a) (hl : a.live) (hq : ρ id = some q) : q.block < w.heap.size := by
  obtain ⟨q', h1, _, o, h2, _⟩ := k.obj id a hg hl
  rw [hq] at h1
  injection h1 with h1
  subst h1
  exact (Array.getElem?_eq_some_iff.1 h2).1
/-- Another count of draws. -/
theorem Inv.drawn {S : Nat → Prop} {w0 : World} {h : Hp} {ρ : M} {w : World} (k : Inv S w0 h ρ w) (n : Nat) : Inv S w0 h ρ { w with drawn := n } :=
  ⟨⟨k.chg.os, k.chg.tape, k.chg.output, k.chg.size, k.chg.old⟩, k.dom, k.obj, k.inj⟩
/-- One object is changed in its place. -/
theorem Inv.set {S : Nat → Prop} {w0 : World} {h : Hp} {ρ : M} {w w' : World} (k : Inv S w0 h ρ w) {id : Nat} {a a' : AO} {q : Pl} {o' : Obj} (hg : h.t.get id = some a) (hl : a.live) (hq : ρ id = some q)
    (hos : w'.os = w.os) (htape : w'.tape = w.tape) (hout : w'.output = w.output) (hsize : w'.heap.size = w.heap.size) (hold : ∀ i, i ≠ q.block → w'.heap[i]? = w.heap[i]?) (hnew : w'.heap[q.block]? = some o') (hr : ObR ρ q a' o') (hl' : a'.live) :
    Inv S w0 ⟨h.t.put id a', h.n⟩ ρ w' := by
  obtain ⟨q0, hq0, hS, _⟩ := k.obj id a hg hl
  rw [hq] at hq0; injection hq0 with hq0; subst hq0
  refine ⟨⟨hos.trans k.chg.os, htape.trans k.chg.tape, hout.trans k.chg.output, by rw [hsize]; exact k.chg.size, fun i hi hn => ?_⟩, k.dom, fun id' b hb hbl => ?_, fun i j b c qi qj hb hbl hc hcl hqi hqj he => ?_⟩
  · rw [hold i (fun e => by
      subst e
      rcases hS with hS | hS
      · exact hn hS
      · omega)]
    exact k.chg.old i hi hn
  · simp only [T.get_put] at hb
    split at hb
    · rename_i he
      subst he
      injection hb with hb
      subst hb
      exact ⟨q, hq, hS, o', hnew, hr⟩
    · rename_i he
      obtain ⟨q', h1, h2, o, h3, h4⟩ := k.obj id' b hb hbl
      refine ⟨q', h1, h2, o, ?_, h4⟩
      rw [hold _ (fun e => he (k.inj id' id b a q' q hb hbl hg hl h1 hq e))]
      exact h3
  · simp only [T.get_put] at hb hc
    have fb : ∃ b', h.t.get i = some b' ∧ b'.live := by
      split at hb
      · rename_i e; subst e; exact ⟨a, hg, hl⟩
      · exact ⟨b, hb, hbl⟩
    have fc : ∃ c', h.t.get j = some c' ∧ c'.live := by
      split at hc
      · rename_i e; subst e; exact ⟨a, hg, hl⟩
      · exact ⟨c, hc, hcl⟩
    obtain ⟨b', hb', hbl'⟩ := fb
    obtain ⟨c', hc', hcl'⟩ := fc
    exact k.inj i j b' c' qi qj hb' hbl' hc' hcl' hqi hqj he
def M.put (ρ : M) (id : Nat) (q : Pl) : M := fun i => if i = id then some q else ρ i
theorem M.put_same (ρ : M) (id : Nat) (q : Pl) : ρ.put id q id = some q := if_pos rfl
theorem M.put_ne (ρ : M) {id i : Nat} (q : Pl) (h : i ≠ id) : ρ.put id q i = ρ i := if_neg h
theorem M.put_ext (ρ : M) {id : Nat} (q : Pl) (h : ρ id = none) : Ext ρ (ρ.put id q) := fun i r hr => by
  rw [M.put_ne]
  · exact hr
  · rintro rfl; rw [h] at hr; cases hr
theorem ExtN.put {n : Nat} {ρ : M} {id : Nat} {q : Pl} (h : ρ id = none) (hn : n ≤ id) : ExtN n ρ (ρ.put id q) := ⟨M.put_ext ρ q h, fun i hi => M.put_ne _ _ (by omega)⟩
theorem World.alloc_os (w : World) (o : Obj) : (w.alloc o).os = w.os := rfl
/-- A new object. -/
theorem Inv.new {S : Nat → Prop} {w0 : World} {h : Hp} {ρ : M} {w : World} (k : Inv S w0 h ρ w) {id n' : Nat} {a : AO} {q : Pl} {o : Obj} (hid : ρ id = none) (hn : id < n') (hn' : h.n ≤ n') (hq : q.block = w.heap.size) (hl : a.live)
    (hr : ObR (ρ.put id q) q a o) : Inv S w0 ⟨h.t.put id a, n'⟩ (ρ.put id q) (w.alloc o) := by
  have hsz : w0.heap.size ≤ w.heap.size := k.chg.size
  have e := M.put_ext ρ q hid
  refine ⟨k.chg.alloc o, fun i r hr => ?_, fun i b hb hbl => ?_, fun i j b c qi qj hb hbl hc hcl hqi hqj he => ?_⟩
  · by_cases h1 : i = id
    · subst h1; exact hn
    · rw [M.put_ne _ _ h1] at hr; exact Nat.lt_of_lt_of_le (k.dom i r hr) hn'
  · simp only [T.get_put] at hb
    split at hb
    · rename_i h1
      subst h1
      injection hb with hb; subst hb
      exact ⟨q, M.put_same _ _ _, .inr (by rw [hq]; exact hsz), o, by rw [hq]; exact heap_alloc_new w o, hr⟩
    · rename_i h1
      obtain ⟨q', h2, h3, o', h4, h5⟩ := k.obj i b hb hbl
      exact ⟨q', e i q' h2, h3, o', by rw [heap_alloc_old w o (Array.getElem?_eq_some_iff.1 h4).1]; exact h4, h5.ext e⟩
  · simp only [T.get_put] at hb hc
    by_cases hi : i = id <;> by_cases hj : j = id
    · rw [hi, hj]
    · exfalso
      rw [if_neg hj] at hc
      subst hi
      rw [M.put_same] at hqi; injection hqi with hqi; subst hqi
      rw [M.put_ne _ _ hj] at hqj
      have := k.lt hc hcl hqj
      omega
    · exfalso
      rw [if_neg hi] at hb
      subst hj
      rw [M.put_same] at hqj; injection hqj with hqj; subst hqj
      rw [M.put_ne _ _ hi] at hqi
      have := k.lt hb hbl hqi
      omega
    · rw [if_neg hi] at hb
      rw [if_neg hj] at hc
      rw [M.put_ne _ _ hi] at hqi
      rw [M.put_ne _ _ hj] at hqj
      exact k.inj i j b c qi qj hb hbl hc hcl hqi hqj he
end Go.RE
/- Operations that only read: what they yield in a closed run. -/
namespace Go.RE
open Go.RowKit
noncomputable section

/-! ### operands -/
inductive AX where
  | t (n : Nat)
  | c (v : AV)
def ev (fr : T AV) (x : AX) (k : AV → Bool) : Bool := AX.rec (fun n => Option.rec false k (fr.get n)) k x
def AX.val (fr : T AV) : AX → Option AV
  | .t n => fr.get n
  | .c v => some v
theorem ev_val {fr : T AV} {x : AX} {k : AV → Bool} (h : ev fr x k = true) : ∃ v, x.val fr = some v ∧ k v = true := by
  cases x with
  | c v => exact ⟨v, rfl, h⟩
  | t n =>
    have h' : (Option.rec false k (fr.get n) : Bool) = true := h
    cases hg : fr.get n with
    | none => rw [hg] at h'; cases h'
    | some v => rw [hg] at h'; exact ⟨v, hg, h'⟩
def chkV1 : Value → AV → Bool
  | .bool x, .b y => x == y
  | .int k n, .i j m => decide (k = j) && decide (n = m)
  | .string s, .s l => decide (s.data.toList.map UInt8.toNat = l)
  | .pointer none, .pn => true
  | .slice none 0 0, .sn => true
  | .map none, .mn => true
  | .nilFunc, .nf => true
  | .nilIface, .nif => true
  | .func (.func f) fi ca, .f (.func g) [] [] => decide (f = g) && fi.isEmpty && ca.isEmpty
  | _, _ => false
def chkVs : List Value → List AV → Bool
  | [], [] => true
  | v :: vs, u :: us => chkV1 v u && chkVs vs us
  | _, _ => false
def chkV : Value → AV → Bool
  | .agg vs, .ag us => chkVs vs.toList us
  | .tuple vs, .tu us => chkVs vs.toList us
  | .iface t v, .ifc s u => decide (t = s) && chkV1 v u
  | v, u => chkV1 v u
theorem chkV1_ok {v : Value} {u : AV} (h : chkV1 v u = true) (ρ : M) : VR ρ u v := by
  unfold chkV1 at h
  split at h
  · simp at h; subst h; exact .b _
  · simp at h; obtain ⟨rfl, rfl⟩ := h; exact .i _ _
  · simp at h; exact .s _ _ (by simpa using h)
  · exact .pn
  · exact .sn
  · exact .mn
  · exact .nf
  · exact .nif
  · rename_i f fi ca g
    simp at h
    obtain ⟨⟨rfl, h1⟩, h2⟩ := h
    exact .f _ _ _ _ _ (by simp [h1]) (by simp [h2]) (fun j u v hu => by simp at hu) (fun j u v hu => by simp at hu)
  · cases h
theorem chkVs_ok : ∀ {vs : List Value} {us : List AV}, chkVs vs us = true → ∀ ρ, VRs ρ us vs := by
  intro vs
  induction vs with
  | nil => intro us h ρ; cases us with
    | nil => exact .nil
    | cons u us => cases h
  | cons v vs ih => intro us h ρ; cases us with
    | nil => cases h
    | cons u us =>
      simp only [chkVs, Bool.and_eq_true] at h
      exact (ih h.2 ρ).cons (chkV1_ok h.1 ρ)
theorem chkV_ok {v : Value} {u : AV} (h : chkV v u = true) (ρ : M) : VR ρ u v := by
  unfold chkV at h
  split at h
  · simpa using (chkVs_ok h ρ).ag
  · simpa using (chkVs_ok h ρ).tu
  · simp at h
    obtain ⟨rfl, h⟩ := h
    exact .ifc _ _ _ (chkV1_ok h ρ)
  · exact chkV1_ok h ρ
def chkX : Operand → AX → Bool
  | .tmp t, .t n => decide (t = n)
  | .const v, .c u => chkV v u
  | .func f, .c (.f (.func g) [] []) => decide (f = g)
  | _, _ => false
/-- Slots that meet T hold what the frame says. -/
def FRon (ρ : M) (D : Nat → Prop) (fr : T AV) (a : Act) : Prop := ∀ t v, D t → fr.get t = some v → ∃ u, a.tmps[t]? = some u ∧ VR ρ v u
def ofOp (o : Op) (t : Nat) : Prop := Operand.tmp t ∈ o.operands
theorem FRon.val {ρ : M} {D : Nat → Prop} {fr : T AV} {a : Act} (h : FRon ρ D fr a) {o : Operand} {x : AX} {v : AV} (hx : chkX o x = true) (hv : x.val fr = some v) (hD : ∀ t, o = .tmp t → D t) : VR ρ v (a.eval o) := by
  unfold chkX at hx
  split at hx
  · simp at hx
    subst hx
    rename_i t
    obtain ⟨u, h1, h2⟩ := h t v (hD t rfl) hv
    have : a.eval (.tmp t) = u := by simp [Act.eval, h1]
    rw [this]; exact h2
  · injection hv with hv
    subst hv
    exact chkV_ok hx ρ
  · simp at hx
    subst hx
    injection hv with hv
    subst hv
    exact VRs.f .nil .nil
  · cases hx
/-- Lists of operands. -/
def evs (fr : T AV) : List AX → (List AV → Bool) → Bool
  | [], k => k []
  | x :: xs, k => ev fr x fun v => evs fr xs fun vs => k (v :: vs)
def vals (fr : T AV) : List AX → Option (List AV)
  | [] => some []
  | x :: xs => match x.val fr, vals fr xs with
    | some v, some vs => some (v :: vs)
    | _, _ => none
theorem evs_vals {fr : T AV} {xs : List AX} : ∀ {k : List AV → Bool}, evs fr xs k = true → ∃ vs, vals fr xs = some vs ∧ k vs = true := by
  induction xs with
  | nil => intro k h; exact ⟨[], rfl, h⟩
  | cons x xs ih =>
    intro k h
    obtain ⟨v, hv, h⟩ := ev_val h
    obtain ⟨vs, hvs, h⟩ := ih h
    exact ⟨v :: vs, by simp [vals, hv, hvs], h⟩
def chkXs : List Operand → List AX → Bool
  | [], [] => true
  | o :: os, x :: xs => chkX o x && chkXs os xs
  | _, _ => false
theorem FRon.vals {ρ : M} {D : Nat → Prop} {fr : T AV} {a : Act} (h : FRon ρ D fr a) : ∀ {os : List Operand} {xs : List AX} {vs : List AV}, chkXs os xs = true → vals fr xs = some vs → (∀ o ∈ os, ∀ t, o = .tmp t → D t) → VRs ρ vs (os.map a.eval) := by
  intro os
  induction os with
  | nil => intro xs vs hx hv _; cases xs with
    | nil => simp [RE.vals] at hv; subst hv; exact .nil
    | cons x xs => cases hx
  | cons o os ih => intro xs vs hx hv hD; cases xs with
    | nil => cases hx
    | cons x xs =>
      simp only [chkXs, Bool.and_eq_true] at hx
      simp only [RE.vals] at hv
      split at hv
      · rename_i v ws h1 h2
        injection hv with hv
        subst hv
        exact (ih hx.2 h2 fun o ho => hD o (List.mem_cons_of_mem _ ho)).cons (h.val hx.1 h1 (hD o (List.mem_cons_self ..)))
      · cases hv

/-! ### types -/
def TyOk (P : Program) (tt : T TypeInfo) : Prop := ∀ t i, tt.get t = some i → P.info? t = some i
def und (tt : T TypeInfo) (t : TypeId) : Option TypeDesc :=
  match tt.get t with
  | some i => match i.desc with
    | .named _ u => match tt.get u with
      | some j => some j.desc
      | none => none
    | d => some d
  | none => none
theorem und_ok {P : Program} {tt : T TypeInfo} (h : TyOk P tt) {t : TypeId} {d : TypeDesc} (hu : und tt t = some d) : P.underlying t = some d := by
  unfold und at hu
  cases hg : tt.get t with
  | none => rw [hg] at hu; cases hu
  | some i =>
    rw [hg] at hu
    have hi := h t i hg
    unfold Program.underlying
    rw [hi]
    obtain ⟨desc, _⟩ := i
    cases desc <;> simp only at hu ⊢ <;> first
      | exact hu
      | (cases hj : tt.get _ with
          | none => rw [hj] at hu; cases hu
          | some j => rw [hj] at hu; rw [h _ _ hj]; exact hu)
def siz (tt : T TypeInfo) (t : TypeId) : Option Nat := match tt.get t with
  | some i => some i.size
  | none => none
theorem siz_ok {P : Program} {tt : T TypeInfo} (h : TyOk P tt) {t : TypeId} {n : Nat} (hs : siz tt t = some n) : ∃ i, P.info? t = some i ∧ i.size = n := by
  unfold siz at hs
  cases hg : tt.get t with
  | none => rw [hg] at hs; cases hs
  | some i => rw [hg] at hs; injection hs with hs; exact ⟨i, h t i hg, hs⟩
def zer (tt : T TypeInfo) (t : TypeId) : Option Value := match tt.get t with
  | some i => i.zero
  | none => none
theorem zer_ok {P : Program} {tt : T TypeInfo} (h : TyOk P tt) {t : TypeId} {z : Value} (hs : zer tt t = some z) : ∃ i, P.info? t = some i ∧ i.zero = some z := by
  unfold zer at hs
  cases hg : tt.get t with
  | none => rw [hg] at hs; cases hs
  | some i => rw [hg] at hs; exact ⟨i, h t i hg, hs⟩
def aggD : TypeDesc → Bool
  | .struct _ | .array _ _ => true
  | _ => false
section
variable {P : Program} {w : World}
theorem run_und {t : TypeId} {d : TypeDesc} (h : P.underlying t = some d) : (underlying t).run P w = .ok d w := by
  simp [underlying, h]
theorem run_info {t : TypeId} {i : TypeInfo} (h : P.info? t = some i) : (typeInfo t).run P w = .ok i w := by
  simp [typeInfo, h]
theorem run_siz {t : TypeId} {n : Nat} (h : ∃ i, P.info? t = some i ∧ i.size = n) : (sizeOf t).run P w = .ok n w := by
  obtain ⟨i, h, rfl⟩ := h
  simp [sizeOf, run_info h]
theorem run_zer {t : TypeId} {z : Value} (h : ∃ i, P.info? t = some i ∧ i.zero = some z) : (zeroValue t).run P w = .ok z w := by
  obtain ⟨i, h, hz⟩ := h
  simp [zeroValue, run_info h, hz]
theorem run_agg {t : TypeId} {d : TypeDesc} (h : P.underlying t = some d) : (isAgg t).run P w = .ok (aggD d) w := by
  simp only [isAgg, Sem.run_bind, run_und h, Result.andThen_ok]
  cases d <;> rfl
end

/-! ### numbers -/
def wrS (lo : Nat) (k : IntKind) : Int → Int
  | .ofNat m => bif Nat.blt m lo then .ofNat m else k.wrap (.ofNat m)
  | .negSucc m => bif Nat.blt m lo then .negSucc m else k.wrap (.negSucc m)
def wrU (n : Nat) : Int → Int
  | .ofNat m => .ofNat (m % n)
  | .negSucc m => .ofNat (n - 1 - m % n)
def wr (k : IntKind) (n : Int) : Int :=
  match k with
  | .i64 => wrS 9223372036854775808 .i64 n
  | .u64 => wrU 18446744073709551616 n
  | .u8 => wrU 256 n
  | .i32 => wrS 2147483648 .i32 n
  | k => k.wrap n
theorem wrS_eq (lo : Nat) (k : IntKind) (h : ∀ n : Int, -(lo : Int) ≤ n → n < (lo : Int) → k.wrap n = n) (n : Int) : wrS lo k n = k.wrap n := by
  cases n with
  | ofNat m =>
    simp only [wrS]
    cases hb : Nat.blt m lo
    · simp only [cond_false]
    · have : m < lo := by simpa [Nat.blt_eq] using hb
      simp only [cond_true]
      rw [h (.ofNat m) (by simp only [Int.ofNat_eq_natCast]; omega) (by simp only [Int.ofNat_eq_natCast]; omega)]
  | negSucc m =>
    simp only [wrS]
    cases hb : Nat.blt m lo
    · simp only [cond_false]
    · have : m < lo := by simpa [Nat.blt_eq] using hb
      simp only [cond_true]
      rw [h (.negSucc m) (by simp only [Int.negSucc_eq]; omega) (by simp only [Int.negSucc_eq]; omega)]
theorem wrU_eq (n : Nat) (hn : 0 < n) (x : Int) : wrU n x = x % (n : Int) := by
  cases x with
  | ofNat m => simp only [wrU, Int.ofNat_eq_natCast]; omega
  | negSucc m =>
    simp only [wrU, Int.ofNat_eq_natCast]
    have h1 := Nat.mod_lt m hn
    rw [Int.negSucc_emod m (by omega)]
    omega
theorem wr_eq (k : IntKind) (n : Int) : wr k n = k.wrap n := by
  cases k
  case i64 => exact wrS_eq _ _ (fun n h1 h2 => IntWalk.i64_in n ⟨by omega, by omega⟩) n
  case i32 => exact wrS_eq _ _ (fun n h1 h2 => IntWalk.i32_in n ⟨by omega, by omega⟩) n
  case u64 => rw [IntKind.wrap_u64]; exact wrU_eq 18446744073709551616 (by omega) n
  case u8 => rw [IntKind.wrap_u8]; exact wrU_eq 256 (by omega) n
  all_goals rfl
def iLt : Int → Int → Bool
  | .ofNat m, .ofNat n => Nat.blt m n
  | .ofNat _, .negSucc _ => false
  | .negSucc _, .ofNat _ => true
  | .negSucc m, .negSucc n => Nat.blt n m
theorem iLt_eq (a b : Int) : iLt a b = decide (a < b) := by
  rw [Bool.eq_iff_iff, decide_eq_true_eq]
  cases a <;> cases b <;> simp only [iLt, Nat.blt_eq, Int.ofNat_eq_natCast, Int.negSucc_eq, reduceCtorEq, false_iff, true_iff] <;> omega
def iEq : Int → Int → Bool
  | .ofNat m, .ofNat n => Nat.beq m n
  | .ofNat _, .negSucc _ => false
  | .negSucc _, .ofNat _ => false
  | .negSucc m, .negSucc n => Nat.beq m n
theorem iEq_eq (a b : Int) : iEq a b = (a == b) := by
  rw [Bool.eq_iff_iff, beq_iff_eq]
  cases a <;> cases b <;> simp only [iEq, Nat.beq_eq, Int.ofNat_eq_natCast, Int.negSucc_eq, Bool.false_eq_true, false_iff] <;> omega
def kNo : IntKind → Nat
  | .i8 => 0 | .i16 => 1 | .i32 => 2 | .i64 => 3 | .u8 => 4 | .u16 => 5 | .u32 => 6 | .u64 => 7
def kEq (a b : IntKind) : Bool := Nat.beq (kNo a) (kNo b)
theorem kEq_eq {a b : IntKind} (h : kEq a b = true) : a = b := by
  cases a <;> cases b <;> first | rfl | (revert h; decide)
def p2 (n : Nat) : Int := .ofNat (2 ^ n)
theorem p2_eq (n : Nat) : p2 n = (2 : Int) ^ n := by simp [p2]
def binI (op : BinOp) (kd : IntKind) (a b : Int) (k : AV → Bool) : Bool :=
  match op with
  | .add => k (.i kd (wr kd (a + b)))
  | .sub => k (.i kd (wr kd (a - b)))
  | .mul => k (.i kd (wr kd (a * b)))
  | .quo => bif iEq b 0 then false else k (.i kd (wr kd (a.tdiv b)))
  | .rem => bif iEq b 0 then false else k (.i kd (a.tmod b))
  | .and => k (.i kd (wr kd (BitVec.ofInt kd.bits a &&& BitVec.ofInt kd.bits b).toNat))
  | .or => k (.i kd (wr kd (BitVec.ofInt kd.bits a ||| BitVec.ofInt kd.bits b).toNat))
  | .xor => k (.i kd (wr kd (BitVec.ofInt kd.bits a ^^^ BitVec.ofInt kd.bits b).toNat))
  | .andNot => k (.i kd (wr kd (BitVec.ofInt kd.bits a &&& ~~~ BitVec.ofInt kd.bits b).toNat))
  | .shl => bif iLt b 0 then false else k (.i kd (wr kd (a * p2 (min b.toNat kd.bits))))
  | .shr => bif iLt b 0 then false else k (.i kd (a.fdiv (p2 (min b.toNat kd.bits))))
  | .eql => k (.b (iEq a b))
  | .neq => k (.b (!iEq a b))
  | .lss => k (.b (iLt a b))
  | .leq => k (.b (!iLt b a))
  | .gtr => k (.b (iLt b a))
  | .geq => k (.b (!iLt a b))
theorem binI_ok {P : Program} {op : BinOp} {kd : IntKind} {a b : Int} {k : AV → Bool} (h : binI op kd a b k = true) :
    ∃ v, k v = true ∧ ∀ (t : TypeId) (ρ : M) (w : World), ∃ v', (binOp op t (.int kd a) (.int kd b)).run P w = .ok v' w ∧ VR ρ v v' := by
  cases op <;> simp only [binI, iEq_eq, iLt_eq, wr_eq, p2_eq] at h
  case quo =>
    cases hb : (b == 0)
    · rw [hb] at h
      have hb' : b ≠ 0 := by simpa using hb
      exact ⟨_, h, fun t ρ w => ⟨_, by simp [binOp, Op.intDiv, hb'], .i _ _⟩⟩
    · rw [hb] at h; cases h
  case rem =>
    cases hb : (b == 0)
    · rw [hb] at h
      have hb' : b ≠ 0 := by simpa using hb
      exact ⟨_, h, fun t ρ w => ⟨_, by simp [binOp, Op.intDiv, hb'], .i _ _⟩⟩
    · rw [hb] at h; cases h
  case shl =>
    cases hb : decide (b < 0)
    · rw [hb] at h
      have hb' : ¬ b < 0 := by simpa using hb
      exact ⟨_, h, fun t ρ w => ⟨_, by simp [binOp, Op.shift, hb'], .i _ _⟩⟩
    · rw [hb] at h; cases h
  case shr =>
    cases hb : decide (b < 0)
    · rw [hb] at h
      have hb' : ¬ b < 0 := by simpa using hb
      exact ⟨_, h, fun t ρ w => ⟨_, by simp [binOp, Op.shift, hb'], .i _ _⟩⟩
    · rw [hb] at h; cases h
  case leq =>
    have e : (!decide (b < a)) = decide (a ≤ b) := by rw [Bool.eq_iff_iff]; simp
    rw [e] at h
    exact ⟨_, h, fun t ρ w => ⟨_, by simp [binOp, Op.intCmp], .b _⟩⟩
  case geq =>
    have e : (!decide (a < b)) = decide (b ≤ a) := by rw [Bool.eq_iff_iff]; simp
    rw [e] at h
    exact ⟨_, h, fun t ρ w => ⟨_, by simp [binOp, Op.intCmp], .b _⟩⟩
  case gtr => exact ⟨_, h, fun t ρ w => ⟨_, by simp [binOp, Op.intCmp], .b _⟩⟩
  case neq => exact ⟨_, h, fun t ρ w => ⟨_, by simp [binOp, Op.intCmp]; rfl, .b _⟩⟩
  case eql => exact ⟨_, h, fun t ρ w => ⟨_, by simp [binOp, Op.intCmp], .b _⟩⟩
  case lss => exact ⟨_, h, fun t ρ w => ⟨_, by simp [binOp, Op.intCmp], .b _⟩⟩
  all_goals exact ⟨_, h, fun t ρ w => ⟨_, by simp [binOp, Op.intArith, Op.intBits], .i _ _⟩⟩
end
end Go.RE
/- Reading a heap; building a struct; strings. -/
namespace Go.RE
open Go.RowKit
noncomputable section

/-! ### cells of the heap -/
def rdC (h : Hp) (id : Nat) (k : T AV → Nat → Bool) : Bool := match h.t.get id with
  | some (.cells c lim) => k c lim
  | _ => false
theorem rdC_ok {h : Hp} {id : Nat} {k : T AV → Nat → Bool} (e : rdC h id k = true) : ∃ c lim, h.t.get id = some (.cells c lim) ∧ k c lim = true := by
  unfold rdC at e
  split at e
  · exact ⟨_, _, ‹_›, e⟩
  · cases e
def rd1 (c : T AV) (lim o : Nat) (k : AV → Bool) : Bool := bif Nat.blt o lim then Option.rec false k (c.get o) else false
theorem rd1_ok {c : T AV} {lim o : Nat} {k : AV → Bool} (e : rd1 c lim o k = true) : ∃ v, c.get o = some v ∧ o < lim ∧ k v = true := by
  unfold rd1 at e
  cases hb : Nat.blt o lim
  · rw [hb] at e; cases e
  · rw [hb] at e
    cases hg : c.get o with
    | none => rw [hg] at e; cases e
    | some v => rw [hg] at e; exact ⟨v, rfl, by simpa [Nat.blt_eq] using hb, e⟩
def rdn (c : T AV) (lim : Nat) : Nat → Nat → (List AV → Bool) → Bool
  | 0, _, k => k []
  | n + 1, o, k => rd1 c lim o fun v => rdn c lim n (o + 1) fun vs => k (v :: vs)
theorem rdn_ok {c : T AV} {lim : Nat} : ∀ {n o : Nat} {k : List AV → Bool}, rdn c lim n o k = true → ∃ vs : List AV, vs.length = n ∧ (∀ j v, vs[j]? = some v → c.get (o + j) = some v ∧ o + j < lim) ∧ k vs = true := by
  intro n
  induction n with
  | zero => intro o k e; exact ⟨[], rfl, fun j v h => by simp at h, e⟩
  | succ n ih =>
    intro o k e
    obtain ⟨v, h1, h2, e⟩ := rd1_ok e
    obtain ⟨vs, h3, h4, e⟩ := ih e
    refine ⟨v :: vs, by simp [h3], fun j u hu => ?_, e⟩
    cases j with
    | zero => simp at hu; subst hu; exact ⟨h1, h2⟩
    | succ j =>
      have := h4 j u (by simpa using hu)
      rw [show o + (j + 1) = o + 1 + j by omega]
      exact this
section
variable {S : Nat → Prop} {w0 w : World} {h : Hp} {ρ : M} {P : Program}
theorem Inv.cells (k : Inv S w0 h ρ w) {id : Nat} {c : T AV} {lim : Nat} (hg : h.t.get id = some (.cells c lim)) : ∃ q cs e fr, ρ id = some q ∧ w.heap[q.block]? = some (.cells cs e fr) ∧ CellsR ρ q c lim cs fr := by
  obtain ⟨q, h1, _, o, h2, cs, e, fr, rfl, h3⟩ := k.obj id _ hg trivial
  exact ⟨q, cs, e, fr, h1, h2, h3⟩
theorem CellsR.cell? {q : Pl} {c : T AV} {lim : Nat} {cs : Array Value} {e : TypeId} {fr : Nat × Nat} (r : CellsR ρ q c lim cs fr) (hg : w.heap[q.block]? = some (.cells cs e fr)) {o : Nat} {v : AV} (hv : c.get o = some v) (ho : o < lim) :
    ∃ u, w.cell? ⟨q.block, q.shift + o, none⟩ = some u ∧ VR ρ v u := by
  obtain ⟨u, h1, h2⟩ := r.cell o v hv ho
  exact ⟨u, by rw [cell_of_row w _ _ _ _ _ hg]; exact h1, h2⟩
theorem add_plain (b o n : Nat) : Addr.add ⟨b, o, none⟩ n = ⟨b, o + n, none⟩ := by
  unfold Addr.add
  split
  · rename_i e; subst e; rfl
  · rfl
theorem CellsR.load {q : Pl} {c : T AV} {lim : Nat} {cs : Array Value} {e : TypeId} {fr : Nat × Nat} (r : CellsR ρ q c lim cs fr) (hg : w.heap[q.block]? = some (.cells cs e fr)) {o n : Nat} {vs : List AV} (hn : vs.length = n)
    (hv : ∀ j v, vs[j]? = some v → c.get (o + j) = some v ∧ o + j < lim) : ∃ us : List Value, VRs ρ vs us ∧ (loadCells ⟨q.block, q.shift + o, none⟩ n).run P w = .ok us.toArray w := by
  have hx : ∀ j, j < n → ∃ u, w.cell? ⟨q.block, q.shift + o + j, none⟩ = some u ∧ ∀ v, vs[j]? = some v → VR ρ v u := fun j hj => by
    have hj' : vs[j]? = some (vs[j]'(by omega)) := List.getElem?_eq_getElem _
    obtain ⟨h1, h2⟩ := hv j _ hj'
    obtain ⟨u, h3, h4⟩ := r.cell? hg h1 h2
    exact ⟨u, by rw [Nat.add_assoc]; exact h3, fun v hv' => by rw [hj'] at hv'; injection hv' with hv'; subst hv'; exact h4⟩
  let us : List Value := (List.range n).map fun j => (w.cell? ⟨q.block, q.shift + o + j, none⟩).getD undef
  have hl : us.length = n := by simp [us]
  have hu : ∀ j u, us[j]? = some u → w.cell? ⟨q.block, q.shift + o + j, none⟩ = some u := fun j u he => by
    have hj : j < n := by rw [← hl]; exact (List.getElem?_eq_some_iff.1 he).1
    obtain ⟨x, h1, _⟩ := hx j hj
    simp only [us, List.getElem?_map, List.getElem?_range hj, Option.map_some, h1, Option.getD_some, Option.some.injEq] at he
    rw [h1, he]
  refine ⟨us, ⟨by rw [hl, hn], fun j v u hv' he => ?_⟩, ?_⟩
  · have hj : j < n := by rw [← hl]; exact (List.getElem?_eq_some_iff.1 he).1
    obtain ⟨x, h1, h2⟩ := hx j hj
    have h3 := hu j u he
    rw [h1] at h3; injection h3 with h3
    rw [← h3]
    exact h2 v hv'
  · have := run_loadCells_list (P := P) (w := w) ⟨q.block, q.shift + o, none⟩ us (fun j u he => by rw [add_plain]; exact hu j u he)
    rwa [hl] at this
end

/-! ### building -/
def fillA : List AV → List (Nat × Nat × AV) → (List AV → Bool) → Bool
  | cs, [], k => k cs
  | cs, (off, n, v) :: ps, k =>
    bif Nat.beq v.cells.length n && Nat.ble (off + n) cs.length then fillA (cs.take off ++ v.cells ++ cs.drop (off + n)) ps k else false
theorem foldl_get (off : Nat) : ∀ (l : List Value) (k : Nat) (cs : Array Value), off + k + l.length ≤ cs.size → ∀ j : Nat,
    ((l.zipIdx k).foldl (fun (cs : Array Value) x => cs.setIfInBounds (off + x.2) x.1) cs)[j]? = if off + k ≤ j ∧ j < off + k + l.length then l[j - (off + k)]? else cs[j]? := by
  intro l
  induction l with
  | nil => intro k cs h j; simp; omega
  | cons v l ih =>
    intro k cs h j
    simp only [List.length_cons] at h
    simp only [List.zipIdx_cons, List.foldl_cons]
    rw [ih (k + 1) _ (by simp; omega) j, Array.getElem?_setIfInBounds]
    simp only [List.length_cons]
    by_cases h1 : off + (k + 1) ≤ j ∧ j < off + (k + 1) + l.length
    · rw [if_pos h1, if_pos (by omega), show j - (off + k) = (j - (off + (k + 1))) + 1 by omega, List.getElem?_cons_succ]
    · rw [if_neg h1]
      by_cases h2 : off + k = j
      · subst h2
        rw [if_pos rfl, if_pos (by omega), if_pos (by omega)]
        simp
      · rw [if_neg h2, if_neg (by omega)]
theorem foldl_set (off : Nat) (l : List Value) (cs : Array Value) (h : off + l.length ≤ cs.size) :
    (l.zipIdx.foldl (fun (cs : Array Value) x => cs.setIfInBounds (off + x.2) x.1) cs).toList = cs.toList.take off ++ l ++ cs.toList.drop (off + l.length) := by
  apply List.ext_getElem?
  intro j
  have h0 := foldl_get off l 0 cs (by omega) j
  rw [Array.getElem?_toList, h0]
  simp only [Nat.add_zero]
  have hl : (cs.toList.take off).length = off := by simp; omega
  rcases Nat.lt_or_ge j off with h1 | h1
  · rw [if_neg (by omega), List.append_assoc, List.getElem?_append_left (by omega), List.getElem?_take, if_pos h1]
    simp
  · rcases Nat.lt_or_ge j (off + l.length) with h2 | h2
    · rw [if_pos ⟨h1, h2⟩, List.getElem?_append_left (by rw [List.length_append, hl]; omega), List.getElem?_append_right (by omega), hl]
    · rw [if_neg (by omega), List.getElem?_append_right (by rw [List.length_append, hl]; omega), List.length_append, hl, List.getElem?_drop, show off + l.length + (j - (off + l.length)) = j by omega]
      simp
def fillR : List AV → List (Nat × Nat × AV) → Option (List AV)
  | cs, [] => some cs
  | cs, (off, n, v) :: ps =>
    if v.cells.length = n ∧ off + n ≤ cs.length then fillR (cs.take off ++ v.cells ++ cs.drop (off + n)) ps else none
theorem fillA_R : ∀ {ps : List (Nat × Nat × AV)} {cs : List AV} {k : List AV → Bool}, fillA cs ps k = true → ∃ cs', fillR cs ps = some cs' ∧ k cs' = true := by
  intro ps
  induction ps with
  | nil => intro cs k h; exact ⟨cs, rfl, h⟩
  | cons p ps ih =>
    intro cs k h
    obtain ⟨off, n, v⟩ := p
    simp only [fillA] at h
    obtain ⟨hb, h1⟩ := bif_t h
    simp only [Bool.and_eq_true, Nat.beq_eq, Nat.ble_eq] at hb
    obtain ⟨cs', h2, h3⟩ := ih h1
    exact ⟨cs', by simp only [fillR]; rw [if_pos hb]; exact h2, h3⟩
theorem fillR_ok {ρ : M} {place : Nat → Option (Nat × Nat)} : ∀ {ps : List (Nat × Nat × AV)} {qs : List (Nat × Value)} {cs cs' : List AV} {us : Array Value},
    fillR cs ps = some cs' → VRs ρ cs us.toList → ps.length = qs.length → (∀ (j : Nat) (p : Nat × Nat × AV) (q : Nat × Value), ps[j]? = some p → qs[j]? = some q → place q.1 = some (p.1, p.2.1) ∧ VR ρ p.2.2 q.2) →
    ∃ us', Instr.fill place us qs = some us' ∧ VRs ρ cs' us'.toList := by
  intro ps
  induction ps with
  | nil =>
    intro qs cs cs' us h hr hl _
    obtain rfl : qs = [] := List.eq_nil_of_length_eq_zero hl.symm
    injection h with h
    subst h
    exact ⟨us, rfl, hr⟩
  | cons p ps ih =>
    intro qs cs cs' us h hr hl hp
    cases qs with
    | nil => simp at hl
    | cons q qs =>
      obtain ⟨off, n, v⟩ := p
      obtain ⟨i, x⟩ := q
      have h0 := hp 0 (off, n, v) (i, x) rfl rfl
      simp only at h0
      simp only [fillR] at h
      split at h
      · rename_i hb
        have hvc := h0.2.cells
        have hxs : x.cells.size = n := by have := hvc.1; rw [← hb.1, this]; simp
        have hus : us.size = cs.length := by have := hr.1; rw [this]; simp
        have hf := foldl_set off x.cells.toList us (by simp; omega)
        simp only [Array.length_toList, hxs] at hf
        obtain ⟨us', h2, h3⟩ := ih (qs := qs) (us := x.cells.zipIdx.foldl (fun cs y => cs.setIfInBounds (off + y.2) y.1) us) h (by
          rw [← Array.foldl_toList, Array.toList_zipIdx, hf]
          exact ((hr.take off).append hvc).append (hr.drop (off + n))) (by simpa using hl) (fun j p q h1 h2 => hp (j + 1) p q (by simpa using h1) (by simpa using h2))
        refine ⟨us', ?_, h3⟩
        simp only [Instr.fill, h0.1]
        rw [if_neg (by simp [hxs]; omega)]
        exact h2
      · cases h
/-- The places of a struct's fields. -/
def plc (tt : T TypeInfo) : List Field → Option (List (Nat × Nat))
  | [] => some []
  | f :: fs => match siz tt f.type, plc tt fs with
    | some n, some l => some ((f.offset, n) :: l)
    | _, _ => none
theorem plc_ok {P : Program} {tt : T TypeInfo} (hT : TyOk P tt) : ∀ {fs : List Field} {l : List (Nat × Nat)}, plc tt fs = some l → fs.mapM (fun f => (P.info? f.type).map fun i => (f.offset, i.size)) = some l := by
  intro fs
  induction fs with
  | nil => intro l h; simp [plc] at h; subst h; rfl
  | cons f fs ih =>
    intro l h
    simp only [plc] at h
    split at h
    · rename_i n l' h1 h2
      injection h with h
      subst h
      obtain ⟨i, h3, h4⟩ := siz_ok hT h1
      simp [List.mapM_cons, h3, h4, ih h2]
    · cases h
/-- Where part i of type t lies. -/
def place (tt : T TypeInfo) (t : TypeId) (i : Nat) : Option (Nat × Nat) :=
  match und tt t with
  | some (.array _ e) => match siz tt e with
    | some n => some (i * n, n)
    | none => none
  | some (.struct fs) => match plc tt fs.toList with
    | some l => l[i]?
    | none => none
  | _ => none
def placeOk (tt : T TypeInfo) (t : TypeId) : Bool :=
  match und tt t with
  | some (.array _ e) => (siz tt e).isSome
  | some (.struct fs) => (plc tt fs.toList).isSome
  | _ => false
theorem built_of {P : Program} {tt : T TypeInfo} (hT : TyOk P tt) {t : TypeId} {it : TypeInfo} {z : Value} {l : List (Nat × Value)} {us : Array Value} (hit : P.info? t = some it) (hz : it.zero = some z) (hp : placeOk tt t = true)
    (h : Instr.fill (place tt t) z.cells l = some us) : P.built t l = some us := by
  unfold placeOk at hp
  cases hu : und tt t with
  | none => rw [hu] at hp; cases hp
  | some d =>
    rw [hu] at hp
    cases d <;> simp only at hp <;> try (cases hp; done)
    · rename_i n e
      obtain ⟨m, hm⟩ := Option.isSome_iff_exists.1 hp
      obtain ⟨ie, h1, h2⟩ := siz_ok hT hm
      have hpl : place tt t = fun i => some (i * ie.size, ie.size) := by funext i; simp [place, hu, hm, h2]
      rw [hpl] at h
      simp [Program.built, hit, und_ok hT hu, hz, h1, h]
    · rename_i fs
      obtain ⟨places, hm⟩ := Option.isSome_iff_exists.1 hp
      have h1 := plc_ok hT hm
      have hpl : place tt t = fun i => places[i]? := by funext i; simp [place, hu, hm]
      rw [hpl] at h
      simp [Program.built, hit, und_ok hT hu, hz, h1, h]
def chkParts (tt : T TypeInfo) (t : TypeId) : List (Nat × Operand) → List (Nat × Nat × AX) → Bool
  | [], [] => true
  | (i, o) :: ps, (off, n, x) :: qs => (match place tt t i with | some (a, b) => decide (a = off) && decide (b = n) | none => false) && chkX o x && chkParts tt t ps qs
  | _, _ => false
def evps (fr : T AV) : List (Nat × Nat × AX) → (List (Nat × Nat × AV) → Bool) → Bool
  | [], k => k []
  | (off, n, x) :: ps, k => ev fr x fun v => evps fr ps fun vs => k ((off, n, v) :: vs)
theorem evps_ok {ρ : M} {D : Nat → Prop} {fr : T AV} {a : Act} {tt : T TypeInfo} {t : TypeId} (hF : FRon ρ D fr a) : ∀ {ps : List (Nat × Operand)} {qs : List (Nat × Nat × AX)} {vs : List (Nat × Nat × AV)},
    chkParts tt t ps qs = true → (∀ p ∈ ps, ∀ s, p.2 = .tmp s → D s) → (∃ l : List AV, vals fr (qs.map (·.2.2)) = some l ∧ vs = (qs.zip l).map fun x => (x.1.1, x.1.2.1, x.2)) →
    vs.length = ps.length ∧ ∀ (j : Nat) (p : Nat × Nat × AV) (q : Nat × Value), vs[j]? = some p → (ps.map fun (i, x) => (i, a.eval x))[j]? = some q → place tt t q.1 = some (p.1, p.2.1) ∧ VR ρ p.2.2 q.2 := by
  intro ps
  induction ps with
  | nil =>
    intro qs vs hc hD hv
    cases qs with
    | nil => obtain ⟨l, h1, rfl⟩ := hv; exact ⟨by simp, fun j p q h => by simp at h⟩
    | cons q qs => cases hc
  | cons p ps ih =>
    intro qs vs hc hD hv
    cases qs with
    | nil => obtain ⟨i, o⟩ := p; cases hc
    | cons q qs =>
      obtain ⟨i, o⟩ := p
      obtain ⟨off, n, x⟩ := q
      simp only [chkParts, Bool.and_eq_true] at hc
      obtain ⟨⟨h1, h2⟩, h3⟩ := hc
      obtain ⟨l, h4, rfl⟩ := hv
      simp only [List.map_cons, vals] at h4
      split at h4
      · rename_i v ws hv hws
        injection h4 with h4
        subst h4
        have hi := ih (qs := qs) (vs := (qs.zip ws).map fun x => (x.1.1, x.1.2.1, x.2)) h3 (fun p hp => hD p (List.mem_cons_of_mem _ hp)) ⟨ws, hws, rfl⟩
        refine ⟨by simpa using hi.1, fun j p q hp hq => ?_⟩
        cases j with
        | zero =>
          simp at hp hq
          subst hp; subst hq
          refine ⟨?_, hF.val h2 hv fun s hs => hD (i, o) (List.mem_cons_self ..) s hs⟩
          cases hpl : place tt t i with
          | none => rw [hpl] at h1; cases h1
          | some ab =>
            obtain ⟨a', b'⟩ := ab
            rw [hpl] at h1
            simp at h1
            rw [h1.1, h1.2]
        | succ j => exact hi.2 j p q (by simpa using hp) (by simpa using hq)
      · cases h4
theorem evps_vals {fr : T AV} : ∀ {qs : List (Nat × Nat × AX)} {k : List (Nat × Nat × AV) → Bool}, evps fr qs k = true →
    ∃ vs, (∃ l : List AV, vals fr (qs.map (·.2.2)) = some l ∧ vs = (qs.zip l).map fun x => (x.1.1, x.1.2.1, x.2)) ∧ k vs = true := by
  intro qs
  induction qs with
  | nil => intro k h; exact ⟨[], ⟨[], rfl, rfl⟩, h⟩
  | cons q qs ih =>
    intro k h
    obtain ⟨off, n, x⟩ := q
    obtain ⟨v, h1, h⟩ := ev_val h
    obtain ⟨vs, ⟨l, h2, rfl⟩, h⟩ := ih h
    exact ⟨_, ⟨v :: l, by simp [vals, h1, h2], by simp⟩, h⟩

/-! ### strings -/
def lEq : List Nat → List Nat → Bool
  | [], [] => true
  | a :: l, b :: m => bif Nat.beq a b then lEq l m else false
  | _, _ => false
theorem lEq_eq : ∀ (l m : List Nat), lEq l m = decide (l = m) := by
  intro l
  induction l with
  | nil => intro m; cases m <;> simp [lEq]
  | cons a l ih =>
    intro m
    cases m with
    | nil => simp [lEq]
    | cons b m =>
      simp only [lEq]
      cases hb : Nat.beq a b
      · have : a ≠ b := fun e => by rw [e, Nat.beq_refl] at hb; cases hb
        simp [this]
      · have : a = b := by simpa using hb
        simp [this, ih]
theorem toNat_inj {l m : List UInt8} (h : l.map UInt8.toNat = m.map UInt8.toNat) : l = m := by
  induction l generalizing m with
  | nil => cases m with
    | nil => rfl
    | cons b m => simp at h
  | cons a l ih => cases m with
    | nil => simp at h
    | cons b m =>
      simp only [List.map_cons, List.cons.injEq] at h
      rw [UInt8.toNat_inj.1 h.1, ih h.2]
def binS (op : BinOp) (a b : List Nat) (k : AV → Bool) : Bool :=
  match op with
  | .add => bif Nat.ble (a.length + b.length) 9223372036854775807 then k (.s (a ++ b)) else false
  | .eql => k (.b (lEq a b))
  | .neq => k (.b (!lEq a b))
  | _ => false
theorem binS_ok {P : Program} {op : BinOp} {a b : List Nat} {k : AV → Bool} (h : binS op a b k = true) :
    ∃ v, k v = true ∧ ∀ (t : TypeId) (ρ : M) (w : World) (x y : ByteArray), x.data.toList.map UInt8.toNat = a → y.data.toList.map UInt8.toNat = b → ∃ v', (binOp op t (.string x) (.string y)).run P w = .ok v' w ∧ VR ρ v v' := by
  have heq : ∀ x y : ByteArray, x.data.toList.map UInt8.toNat = a → y.data.toList.map UInt8.toNat = b → lEq a b = (x.toList == y.toList) := fun x y hx hy => by
    rw [lEq_eq, Lib.toList_data, Lib.toList_data, Bool.eq_iff_iff, decide_eq_true_eq, beq_iff_eq, ← hx, ← hy]
    exact ⟨toNat_inj, fun e => by rw [e]⟩
  cases op <;> simp only [binS] at h <;> try (cases h; done)
  case add =>
    cases hb : Nat.ble (a.length + b.length) 9223372036854775807
    · rw [hb] at h; cases h
    · rw [hb] at h
      refine ⟨_, h, fun t ρ w x y hx hy => ⟨.string (x ++ y), ?_, .s _ _ (by rw [ByteArray.data_append]; simp [hx, hy])⟩⟩
      have h1 : x.size = a.length := by rw [← hx, List.length_map, Array.length_toList]; rfl
      have h2 : y.size = b.length := by rw [← hy, List.length_map, Array.length_toList]; rfl
      have h3 : a.length + b.length ≤ 9223372036854775807 := by simpa [Nat.ble_eq] using hb
      have h4 : ¬ (((x.size + y.size : Nat) : Int) > IntKind.i64.max) := by
        have : IntKind.i64.max = 9223372036854775807 := rfl
        rw [this]; omega
      simp only [binOp, Op.stringOp]
      rw [if_neg h4]
      rfl
  case eql => exact ⟨_, h, fun t ρ w x y hx hy => ⟨.bool (x.toList == y.toList), rfl, by rw [heq x y hx hy]; exact .b _⟩⟩
  case neq => exact ⟨_, h, fun t ρ w x y hx hy => ⟨.bool (!(x.toList == y.toList)), rfl, by rw [heq x y hx hy]; exact .b _⟩⟩
end
end Go.RE
/- Operations that leave the world alone. -/
namespace Go.RE
open Go.RowKit
noncomputable section

inductive SOp where
  | mv (x : AX)
  | pick (c a b : AX)
  | bin (op : BinOp) (x y : AX)
  | eqb (neg : Bool) (x y : AX)
  | cmpA (ks : List IntKind) (neg : Bool) (x y : AX)
  | nilp (neg : Bool) (x y : AX)
  | nils (neg : Bool) (x y : AX)
  | nili (neg : Bool) (x y : AX)
  | un (op : UnOp) (x : AX)
  | cvi (k : IntKind) (x : AX)
  | cvb (x : AX)
  | ld1 (x : AX)
  | ldn (n : Nat) (x : AX)
  | nilc (x : AX)
  | fa (off : Nat) (x : AX)
  | fld1 (off : Nat) (x : AX)
  | fldn (off n : Nat) (x : AX)
  | ia (z : Nat) (x ix : AX)
  | iaa (len z : Nat) (x ix : AX)
  | ixs (x ix : AX)
  | sls (x : AX) (lo hi : Option AX)
  | slc (z : Nat) (x : AX) (lo hi mx : Option AX)
  | sla (n z : Nat) (x : AX) (lo hi : Option AX)
  | mkif (t : TypeId) (x : AX)
  | mkfn (fn : Fn) (first captured : List AX)
  | ext (x : AX) (i : Nat)
  | build (zs : List AV) (ps : List (Nat × Nat × AX))
  | len (x : AX)
  | lens (x : AX)
  | lenm (x : AX)
  | mx (x y : AX)
  | mn (x y : AX)
  | lkp (zero : AV) (ok : Bool) (m k : AX)
  | tas (t : TypeId) (x : AX)
  | entry (x : AX)

/-! ### small readers of values -/
def asI (v : AV) (k : IntKind → Int → Bool) : Bool := match v with
  | .i kd n => k kd n
  | _ => false
def asP (v : AV) (k : Nat → Nat → Bool) : Bool := match v with
  | .p id o => k id o
  | _ => false
/-- A number from nought on. -/
def asN (v : AV) (k : Nat → Bool) : Bool := match v with
  | .i _ (.ofNat n) => k n
  | _ => false
theorem asI_ok {v : AV} {k : IntKind → Int → Bool} (h : asI v k = true) : ∃ kd n, v = .i kd n ∧ k kd n = true := by
  unfold asI at h; split at h
  · exact ⟨_, _, rfl, h⟩
  · cases h
theorem asP_ok {v : AV} {k : Nat → Nat → Bool} (h : asP v k = true) : ∃ id o, v = .p id o ∧ k id o = true := by
  unfold asP at h; split at h
  · exact ⟨_, _, rfl, h⟩
  · cases h
theorem asN_ok {v : AV} {k : Nat → Bool} (h : asN v k = true) : ∃ kd, ∃ n : Nat, v = .i kd (n : Int) ∧ k n = true := by
  unfold asN at h; split at h
  · exact ⟨_, _, rfl, h⟩
  · cases h
def evo (fr : T AV) (x : Option AX) (d : Nat) (k : Nat → Bool) : Bool := match x with
  | none => k d
  | some x => ev fr x fun v => asN v k
/-- Bytes of cells. -/
def bytesOf : List AV → (List Nat → Bool) → Bool
  | [], k => k []
  | v :: vs, k => asI v fun kd n => match n with
    | .ofNat m => bif kEq kd .u8 && Nat.blt m 256 then bytesOf vs fun l => k (m :: l) else false
    | .negSucc _ => false
def eqL : List IntKind → List AV → List AV → (Bool → Bool) → Bool
  | [], [], [], k => k true
  | kd :: ks, u :: us, v :: vs, k => asI u fun a n => asI v fun b m => bif kEq a kd && kEq b kd then eqL ks us vs fun r => k (iEq n m && r) else false
  | _, _, _, _ => false
def fnd (kd : IntKind) (a : Int) : List (AV × AV × Nat) → (Option AV → Bool) → Bool
  | [], k => k none
  | (key, v, _) :: es, k => asI key fun k' b => bif kEq k' kd then (bif iEq a b then k (some v) else fnd kd a es k) else false
def rdM (h : Hp) (m : AV) (k : List (AV × AV × Nat) → Bool) : Bool := match m with
  | .mn => k []
  | .m id => match h.t.get id with
    | some (.map es _) => k es
    | _ => false
  | _ => false
def lastOf : List Nat → Option Nat
  | [] => none
  | [x] => some x
  | _ :: l => lastOf l
def fndB (b : Nat) : List (AV × AV × Nat) → Option (AV × AV)
  | [] => none
  | (key, v, n) :: es => bif Nat.beq n b then some (key, v) else fndB b es

def sop (h : Hp) (fr : T AV) (o : SOp) (k : AV → Bool) : Bool :=
  match o with
  | .mv x => ev fr x k
  | .pick c a b => ev fr c fun v => match v with
    | .b t => bif t then ev fr a k else ev fr b k
    | _ => false
  | .bin op x y => ev fr x fun u => ev fr y fun v => match u with
    | .i kd a => match v with
      | .i k' b => match op with
        | .shl => binI op kd a b k
        | .shr => binI op kd a b k
        | _ => bif kEq kd k' then binI op kd a b k else false
      | _ => false
    | .s a => match v with
      | .s b => binS op a b k
      | _ => false
    | _ => false
  | .eqb neg x y => ev fr x fun u => ev fr y fun v => match u, v with
    | .b a, .b b => k (.b (bif neg then !(a == b) else a == b))
    | _, _ => false
  | .cmpA ks neg x y => ev fr x fun u => ev fr y fun v => match u, v with
    | .ag us, .ag vs => eqL ks us vs fun r => k (.b (bif neg then !r else r))
    | _, _ => false
  | .nilp neg x y => ev fr x fun u => ev fr y fun v => match u, v with
    | .pn, .pn => k (.b (!neg))
    | .p _ _, .pn => k (.b neg)
    | .pn, .p _ _ => k (.b neg)
    | .p id o, .p id' o' => bif Nat.beq id id' && Nat.beq o o' then k (.b (!neg)) else false
    | _, _ => false
  | .nils neg x y => ev fr x fun u => ev fr y fun v => match u, v with
    | .sn, .sn => k (.b (!neg))
    | .sl .., .sn => k (.b neg)
    | .sn, .sl .. => k (.b neg)
    | _, _ => false
  | .nili neg x y => ev fr x fun u => ev fr y fun v => match u, v with
    | .nif, .nif => k (.b (!neg))
    | .ifc .., .nif => k (.b neg)
    | .nif, .ifc .. => k (.b neg)
    | _, _ => false
  | .un op x => ev fr x fun u => match op, u with
    | .not, .b t => k (.b (!t))
    | .neg, .i kd n => k (.i kd (wr kd (0 - n)))
    | .xor, .i kd n => k (.i kd (wr kd (BitVec.ofInt kd.bits (if kd.signed then -1 else kd.max) ^^^ BitVec.ofInt kd.bits n).toNat))
    | _, _ => false
  | .cvi kd x => ev fr x fun u => asI u fun _ n => k (.i kd (wr kd n))
  | .cvb x => ev fr x fun u => match u with
    | .sn => k (.s [])
    | .sl id o n _ _ _ => rdC h id fun c lim => rdn c lim n o fun vs => bytesOf vs fun l => k (.s l)
    | _ => false
  | .ld1 x => ev fr x fun u => asP u fun id o => rdC h id fun c lim => rd1 c lim o k
  | .ldn n x => ev fr x fun u => asP u fun id o => rdC h id fun c lim => rdn c lim n o fun vs => k (.ag vs)
  | .nilc x => ev fr x fun u => match u with
    | .p _ _ => k u
    | .ifc .. => k u
    | .f (.func _) _ _ => k u
    | _ => false
  | .fa off x => ev fr x fun u => asP u fun id o => k (.p id (o + off))
  | .fld1 off x => ev fr x fun u => match u with
    | .ag cs => match cs[off]? with
      | some v => k v
      | none => false
    | _ => false
  | .fldn off n x => ev fr x fun u => match u with
    | .ag cs => k (.ag ((cs.drop off).take n))
    | _ => false
  | .ia z x ix => ev fr x fun u => ev fr ix fun i => asN i fun j => match u with
    | .sl id o n _ _ _ => bif Nat.blt j n then k (.p id (o + j * z)) else false
    | _ => false
  | .iaa n z x ix => ev fr x fun u => ev fr ix fun i => asN i fun j => asP u fun id o => bif Nat.blt j n then k (.p id (o + j * z)) else false
  | .ixs x ix => ev fr x fun u => ev fr ix fun i => asN i fun j => match u with
    | .s l => match l[j]? with
      | some b => k (.i .u8 (.ofNat b))
      | none => false
    | _ => false
  | .sls x lo hi => ev fr x fun u => match u with
    | .s l => evo fr hi l.length fun b => evo fr lo 0 fun a => bif Nat.ble a b && Nat.ble b l.length then k (.s ((l.drop a).take (b - a))) else false
    | _ => false
  | .slc z x lo hi mx => ev fr x fun u => match u with
    | .sn => evo fr lo 0 fun a => evo fr hi 0 fun b => evo fr mx 0 fun c => bif Nat.beq a 0 && Nat.beq b 0 && Nat.beq c 0 then k .sn else false
    | .sl id o n cap e z' => bif Nat.beq z z' then evo fr mx cap fun m => evo fr hi n fun b => evo fr lo 0 fun a =>
        bif Nat.ble a b && Nat.ble b m && Nat.ble m cap then k (.sl id (o + a * z) (b - a) (m - a) (e || mx.isSome) z) else false
      else false
    | _ => false
  | .sla n z x lo hi => ev fr x fun u => asP u fun id o => rdC h id fun _ lim => evo fr hi n fun b => evo fr lo 0 fun a =>
      bif Nat.ble a b && Nat.ble b n && Nat.ble (o + n * z) lim && Nat.ble n 140737488355328 then k (.sl id (o + a * z) (b - a) (n - a) true z) else false
  | .mkif t x => ev fr x fun u => k (.ifc t u)
  | .mkfn fn first captured => evs fr first fun a => evs fr captured fun b => k (.f fn a b)
  | .ext x i => ev fr x fun u => match u with
    | .tu vs => match vs[i]? with
      | some v => k v
      | none => false
    | _ => false
  | .build zs ps => evps fr ps fun vs => fillA zs vs fun cs => k (.ag cs)
  | .len x => ev fr x fun u => match u with
    | .sn => k (.i .i64 0)
    | .sl _ _ n _ _ _ => k (.i .i64 (.ofNat n))
    | _ => false
  | .lens x => ev fr x fun u => match u with
    | .s l => k (.i .i64 (.ofNat l.length))
    | _ => false
  | .lenm x => ev fr x fun u => rdM h u fun es => k (.i .i64 (.ofNat es.length))
  | .mx x y => ev fr x fun u => ev fr y fun v => asI u fun kd a => asI v fun _ b => k (.i kd (bif iLt a b then b else a))
  | .mn x y => ev fr x fun u => ev fr y fun v => asI u fun kd a => asI v fun _ b => k (.i kd (bif iLt b a then b else a))
  | .lkp zero ok m key => ev fr m fun u => ev fr key fun v => asI v fun kd a => rdM h u fun es => fnd kd a es fun r =>
      k (bif ok then .tu [r.getD zero, .b r.isSome] else r.getD zero)
  | .tas t x => ev fr x fun u => match u with
    | .ifc s v => bif Nat.beq s t then k (.tu [v, .b true]) else false
    | _ => false
  | .entry x => ev fr x fun u => match u with
    | .p id 0 => match h.t.get id with
      | some (.mit m _ seen stepped) => match h.t.get m with
        | some (.map es clock) => match lastOf seen with
          | some b => bif Nat.beq clock stepped then (match fndB b es with
            | some (key, v) => k (.tu [key, v])
            | none => false) else false
          | none => false
        | _ => false
      | _ => false
    | _ => false
end
end Go.RE
