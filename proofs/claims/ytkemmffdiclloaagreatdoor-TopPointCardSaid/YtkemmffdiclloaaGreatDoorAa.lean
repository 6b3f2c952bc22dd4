/- Joined for this seat from: XBase XCut XRow XStr XMake XCells XQuiet XEq. -/
import Derived.Test.YtkemmffdiclloaaGreatDoorProg
import Derived.WalkKit
import Derived.WalkSpells
import Derived.WalkLawsBesides
import Derived.Below
import Derived.Laws.OwnMore
import Derived.Deep.AppendLies
import Derived.Deep.Draws
import Derived.Laws.Rows
import Derived.Maps.AppendAt
import Derived.RegionTactic
import Derived.OwnWalk
import Derived.Lib.Hide
import Derived.Deep.OwnRows
import Derived.Laws.AppendOwn
import Derived.Laws.IdiomStrings
import Derived.Laws.IdiomCopy
import Derived.Laws.BitsAllLaws
import Derived.BigQuiet
set_option linter.unusedVariables false
set_option linter.unusedSimpArgs false
namespace Go.Proofs.YtkemmffdiclloaaGreatDoor
open Go.RowKit

/-! ### frames -/
/-- From w to w' only blocks of S, and new ones, may have changed. -/
structure Chg (S : Nat → Prop) (w w' : World) : Prop where
  os : w'.os = w.os
  tape : w'.tape = w.tape
  output : w'.output = w.output
  size : w.heap.size ≤ w'.heap.size
  old : ∀ k, k < w.heap.size → ¬ S k → w'.heap[k]? = w.heap[k]?

/-- No block. -/
def Nil : Nat → Prop := fun _ => False
/-- The block in which a slice value lies. -/
def Own (v : Value) : Nat → Prop := fun k => v.ownBlock = some k

section
variable {S T : Nat → Prop} {a b c w w' : World}
theorem Chg.refl (S : Nat → Prop) (w : World) : Chg S w w := ⟨rfl, rfl, rfl, Nat.le_refl _, fun _ _ _ => rfl⟩
theorem Chg.trans (h : Chg S a b) (k : Chg T b c) (hT : ∀ i, i < a.heap.size → T i → S i) : Chg S a c :=
  ⟨k.os.trans h.os, k.tape.trans h.tape, k.output.trans h.output, Nat.le_trans h.size k.size,
    fun i hi hn => (k.old i (Nat.lt_of_lt_of_le hi h.size) (fun ht => hn (hT i hi ht))).trans (h.old i hi hn)⟩
theorem Chg.wider (h : Chg S a b) (hS : ∀ i, i < a.heap.size → S i → T i) : Chg T a b :=
  ⟨h.os, h.tape, h.output, h.size, fun i hi hn => h.old i hi fun hs => hn (hS i hi hs)⟩
theorem Chg.of_below (h : Below w.heap.size w w') : Chg S w w' := ⟨h.os, h.tape, h.output, h.size, fun i hi _ => h.block i hi⟩
theorem Chg.of_grown {r : Option Nat} (h : w.grownBy w' r) : Chg (fun k => r = some k) w w' := ⟨h.os, h.tape, h.output, h.size, fun i hi hn => h.block i hi fun e => hn e.symm⟩
theorem Chg.below {B : Nat} {w0 : World} (h : Chg S w w') (hb : Below B w0 w) (hB : B ≤ w.heap.size) (hS : ∀ i, i < w.heap.size → S i → B ≤ i) : Below B w0 w' :=
  hb.trans ⟨h.os, h.tape, h.output, h.size, fun i hi => h.old i (by omega) fun hs => by have := hS i (by omega) hs; omega⟩
theorem Chg.below_nil (h : Chg Nil w w') : Below w.heap.size w w' := ⟨h.os, h.tape, h.output, h.size, fun i hi => h.old i hi fun hs => hs⟩
theorem Chg.drew (h : Chg S a w) : Chg S a w.drew := ⟨h.os, h.tape, h.output, h.size, h.old⟩
theorem Chg.drewN (h : Chg S a w) (n : Nat) : Chg S a (w.drewN n) := ⟨h.os, h.tape, h.output, h.size, h.old⟩
theorem Chg.alloc (h : Chg S a w) (o : Obj) : Chg S a (w.alloc o) :=
  ⟨h.os, h.tape, h.output, Nat.le_trans h.size (by simp), fun i hi hn => (Below.heap_alloc w o i (Nat.lt_of_lt_of_le hi h.size)).trans (h.old i hi hn)⟩
theorem Chg.setCell (h : Chg S a w) {p : Addr} (hp : p.block < a.heap.size → S p.block) (u : Value) : Chg S a (w.setCell p u) :=
  ⟨h.os, h.tape, h.output, by simpa [World.setCell] using h.size, fun i hi hn => (Below.heap_setCell w p u i (by
    rintro rfl
    exact hn (hp hi))).trans (h.old i hi hn)⟩
theorem Chg.setRow (h : Chg S a w) {g : Nat} (hg : g < a.heap.size → S g) (cs : Array Value) : Chg S a (w.setRow g cs) :=
  ⟨h.os, h.tape, h.output, by simpa using h.size, fun i hi hn => (setRow_other w g i cs (by rintro rfl; exact hn (hg hi))).trans (h.old i hi hn)⟩
theorem Chg.cell (h : Chg S w w') {p : Addr} {u : Value} (hp : w.cell? p = some u) (hn : ¬ S p.block) : w'.cell? p = some u :=
  (World.cell?_of_block (h.old p.block (block_lt_of_cell hp) hn)).trans hp
theorem Chg.block (h : Chg S w w') {k : Nat} {o : Obj} (hk : w.heap[k]? = some o) (hn : ¬ S k) : w'.heap[k]? = some o := by
  rcases Nat.lt_or_ge k w.heap.size with hlt | hge
  · exact (h.old k hlt hn).trans hk
  · rw [Array.getElem?_eq_none hge] at hk; cases hk
end

/-! ### a slice that reads as a list of cells -/
/-- The slice '.slice A n _' of elements of 'sz' cells reads the cells xs; it lies in a block of S. -/
def Rds (w : World) (S : Nat → Prop) (sz : Nat) (A : Option Addr) (n : Nat) (xs : List Value) : Prop :=
  xs.length = n * sz ∧ (0 < n → ∃ ad, A = some ad ∧ S ad.block ∧ ∀ j u, xs[j]? = some u → w.cell? (ad.add j) = some u)

theorem add_block (a : Addr) (n : Nat) : (a.add n).block = a.block := by unfold Addr.add; split <;> rfl
theorem add_again (a : Addr) (i j : Nat) : (a.add i).add j = a.add (i + j) := by
  unfold Addr.add
  rcases Nat.eq_zero_or_pos i with rfl | hi
  · simp
  · rcases Nat.eq_zero_or_pos j with rfl | hj
    · simp
    · rw [if_neg (by omega), if_neg (by omega), if_neg (by omega)]
      simp [Nat.add_assoc]

section
variable {w w' : World} {S T : Nat → Prop} {sz n : Nat} {A : Option Addr} {xs : List Value}
theorem Rds.nil : Rds w S sz A 0 [] := ⟨by simp, fun h => absurd h (by omega)⟩
theorem Rds.len (h : Rds w S 1 A n xs) : xs.length = n := by simpa using h.1
theorem Rds.wider (h : Rds w S sz A n xs) (hS : ∀ k, k < w.heap.size → S k → T k) (hsz : 0 < sz) : Rds w T sz A n xs := ⟨h.1, fun hn => by
  obtain ⟨ad, e, hs, hc⟩ := h.2 hn
  have hl : 0 < xs.length := by rw [h.1]; exact Nat.mul_pos hn hsz
  exact ⟨ad, e, hS _ (by have := block_lt_of_cell (hc 0 _ (List.getElem?_eq_getElem hl)); rwa [add_block] at this) hs, hc⟩⟩
/-- It lies in a block that is there. -/
theorem Rds.here (h : Rds w S sz A n xs) (hsz : 0 < sz) : Rds w (fun k => S k ∧ k < w.heap.size) sz A n xs := h.wider (fun _ hk hs => ⟨hs, hk⟩) hsz
theorem Rds.keep (h : Rds w S sz A n xs) (hc : Chg T w w') (hd : ∀ k, S k → T k → False) : Rds w' S sz A n xs := ⟨h.1, fun hn => by
  obtain ⟨ad, e, hs, hx⟩ := h.2 hn
  exact ⟨ad, e, hs, fun j u hu => hc.cell (hx j u hu) (by rw [add_block]; exact hd _ hs)⟩⟩
theorem Rds.at_ {k : Nat} (h : Rds w S 1 A n xs) (hk : k < n) : ∃ ad u, A = some ad ∧ S ad.block ∧ xs[k]? = some u ∧ w.cell? (ad.add k) = some u := by
  obtain ⟨ad, e, hs, hx⟩ := h.2 (by omega)
  have hl : k < xs.length := by rw [h.len]; exact hk
  exact ⟨ad, xs[k], e, hs, List.getElem?_eq_getElem hl, hx k _ (List.getElem?_eq_getElem hl)⟩
/-- 's[k:]' and 's[k:m]': the address keeps the model's 'if'. -/
theorem Rds.part (h : Rds w S sz A n xs) {k m : Nat} {c : Prop} [Decidable c] (hk : k ≤ m) (hm : m ≤ n) (hc : k < m → ¬ c) :
    Rds w S sz (if c then A else A.map (·.add (k * sz))) (m - k) ((xs.drop (k * sz)).take ((m - k) * sz)) := by
  refine ⟨?_, fun hn => ?_⟩
  · rw [List.length_take, List.length_drop, h.1, ← Nat.sub_mul]
    exact Nat.min_eq_left (Nat.mul_le_mul_right _ (by omega))
  · obtain ⟨ad, rfl, hs, hx⟩ := h.2 (by omega)
    rw [if_neg (hc (by omega))]
    refine ⟨ad.add (k * sz), rfl, by rw [add_block]; exact hs, fun j u hu => ?_⟩
    rw [add_again]
    rw [List.getElem?_take] at hu
    split at hu
    · rw [List.getElem?_drop] at hu; exact hx _ u hu
    · cases hu
/-- 's[:m]'. -/
theorem Rds.front (h : Rds w S sz A n xs) {m : Nat} (hm : m ≤ n) : Rds w S sz A m (xs.take (m * sz)) := by
  refine ⟨?_, fun hn => ?_⟩
  · rw [List.length_take, h.1]
    exact Nat.min_eq_left (Nat.mul_le_mul_right _ hm)
  · obtain ⟨ad, e, hs, hx⟩ := h.2 (by omega)
    refine ⟨ad, e, hs, fun j u hu => ?_⟩
    rw [List.getElem?_take] at hu
    split at hu
    · exact hx j u hu
    · cases hu
theorem Rds.of_own {base : Nat} {e : TypeId} {c : Nat} (h : w.ownsRow base e sz (.slice A n c) n xs) : Rds w (Own (.slice A n c)) sz A n xs := by
  refine ⟨h.1, fun hn => ?_⟩
  obtain ⟨g, cap, hv, _, hlt⟩ := h.form hn
  have hA : A = some ⟨g, 0, none⟩ := by injection hv
  subst hA
  exact ⟨_, rfl, rfl, h.cells (g := g) rfl⟩
end

/-! ### bytes -/
/-- A byte's value. -/
def bv (b : UInt8) : Value := .int .u8 (b.toNat : Int)
theorem bv_one (l : List UInt8) : ∀ u ∈ l.map bv, u.oneCell' = true := by
  intro u hu
  obtain ⟨b, _, rfl⟩ := List.mem_map.1 hu
  rfl
/-- A slice of n bytes that reads bs. -/
def RdB (w : World) (S : Nat → Prop) (A : Option Addr) (n : Nat) (bs : List UInt8) : Prop := Rds w S 1 A n (bs.map bv)
section
variable {w w' : World} {S T : Nat → Prop} {n : Nat} {A : Option Addr} {bs : List UInt8}
theorem RdB.len (h : RdB w S A n bs) : bs.length = n := by simpa using Rds.len h
theorem RdB.wider (h : RdB w S A n bs) (hS : ∀ k, k < w.heap.size → S k → T k) : RdB w T A n bs := Rds.wider h hS (by omega)
theorem RdB.here (h : RdB w S A n bs) : RdB w (fun k => S k ∧ k < w.heap.size) A n bs := Rds.here h (by omega)
theorem RdB.keep (h : RdB w S A n bs) (hc : Chg T w w') (hd : ∀ k, S k → T k → False) : RdB w' S A n bs := Rds.keep h hc hd
theorem RdB.front (h : RdB w S A n bs) {m : Nat} (hm : m ≤ n) : RdB w S A m (bs.take m) := by
  have := Rds.front h hm
  unfold RdB
  rw [List.map_take]
  simpa using this
theorem RdB.nil : RdB w S A 0 [] := Rds.nil
/-- 's[k:m]'. -/
theorem RdB.part (h : RdB w S A n bs) {k m : Nat} {c : Prop} [Decidable c] (hk : k ≤ m) (hm : m ≤ n) (hc : k < m → ¬ c) :
    RdB w S (if c then A else A.map (·.add (k * 1))) (m - k) ((bs.drop k).take (m - k)) := by
  have := Rds.part h hk hm hc
  unfold RdB
  rw [List.map_take, List.map_drop]
  simpa using this
end

/-- Where there is an element, the address is plain. -/
theorem Rds.plain {w : World} {S : Nat → Prop} {n sz : Nat} {A : Option Addr} {xs : List Value} (h : Rds w S sz A n xs) (hn : 0 < n) (hsz : 0 < sz) :
    ∃ b off, A = some ⟨b, off, none⟩ ∧ S b ∧ b < w.heap.size ∧ ∀ j u, xs[j]? = some u → w.cell? ⟨b, off + j, none⟩ = some u := by
  obtain ⟨⟨b, off, spot⟩, rfl, hs, hx⟩ := h.2 hn
  have hl : 0 < xs.length := by rw [h.1]; exact Nat.mul_pos hn hsz
  have h0 := hx 0 _ (List.getElem?_eq_getElem hl)
  have hspot : spot = none := by simpa [Addr.add] using World.cell?_spot h0
  subst hspot
  have hb := block_lt_of_cell h0
  rw [add_block] at hb
  refine ⟨b, off, rfl, hs, hb, fun j u hu => ?_⟩
  have := hx j u hu
  by_cases hj : j = 0
  · subst hj; simpa [Addr.add] using this
  · simpa [Addr.add, hj] using this
theorem RdB.plain {w : World} {S : Nat → Prop} {n : Nat} {A : Option Addr} {bs : List UInt8} (h : RdB w S A n bs) (hn : 0 < n) :
    ∃ b off, A = some ⟨b, off, none⟩ ∧ S b ∧ b < w.heap.size ∧ ∀ j u, (bs.map bv)[j]? = some u → w.cell? ⟨b, off + j, none⟩ = some u := Rds.plain h hn (by omega)
theorem RdB.of_cells {w : World} {S : Nat → Prop} {b off n : Nat} {bs : List UInt8} (hl : bs.length = n) (hb : S b) (h : ∀ j u, (bs.map bv)[j]? = some u → w.cell? ⟨b, off + j, none⟩ = some u) : RdB w S (some ⟨b, off, none⟩) n bs :=
  ⟨by simpa using hl, fun _ => ⟨_, rfl, hb, fun j u hu => by
    have := h j u hu
    by_cases hj : j = 0
    · subst hj; simpa [Addr.add] using this
    · simpa [Addr.add, hj] using this⟩⟩
/-- A cut of it. -/
theorem RdB.shift {w : World} {b off : Nat} {bs : List UInt8} (k : Nat) (h : ∀ j u, (bs.map bv)[j]? = some u → w.cell? ⟨b, off + j, none⟩ = some u) :
    ∀ j u, ((bs.drop k).map bv)[j]? = some u → w.cell? ⟨b, off + k + j, none⟩ = some u := fun j u hu => by
  rw [Nat.add_assoc]
  exact h (k + j) u (by rw [List.map_drop, List.getElem?_drop] at hu; exact hu)
theorem RdB.byte {w : World} {b off : Nat} {bs : List UInt8} (h : ∀ j u, (bs.map bv)[j]? = some u → w.cell? ⟨b, off + j, none⟩ = some u) {j : Nat} (hj : j < bs.length) :
    w.cell? ⟨b, off + j, none⟩ = some (.int .u8 (bs[j].toNat : Int)) := h j _ (by simp [hj, bv])

/-! ### a slice of slices of bytes -/
/-- The cells vs are slices of bytes that read the bodies. -/
def RdL (w : World) (S : Nat → Prop) (vs : List Value) (bodies : List (List UInt8)) : Prop :=
  vs.length = bodies.length ∧ ∀ (i : Nat) (b : List UInt8), bodies[i]? = some b → ∃ A c, vs[i]? = some (Value.slice A b.length c) ∧ b.length ≤ c ∧ c ≤ maxLen ∧ RdB w S A b.length b
section
variable {w w' : World} {S T : Nat → Prop} {vs : List Value} {bodies : List (List UInt8)}
theorem RdL.nil : RdL w S [] [] := ⟨rfl, fun i b h => by simp at h⟩
theorem RdL.keep (h : RdL w S vs bodies) (hc : Chg T w w') (hd : ∀ k, S k → T k → False) : RdL w' S vs bodies :=
  ⟨h.1, fun i b hb => by
    obtain ⟨A, c, h1, h2, h3, h4⟩ := h.2 i b hb
    exact ⟨A, c, h1, h2, h3, h4.keep hc hd⟩⟩
theorem RdL.wider (h : RdL w S vs bodies) (hS : ∀ k, k < w.heap.size → S k → T k) : RdL w T vs bodies :=
  ⟨h.1, fun i b hb => by
    obtain ⟨A, c, h1, h2, h3, h4⟩ := h.2 i b hb
    exact ⟨A, c, h1, h2, h3, h4.wider hS⟩⟩
theorem RdL.snoc (h : RdL w S vs bodies) {A : Option Addr} {c : Nat} {b : List UInt8} (hb : RdB w S A b.length b) (h2 : b.length ≤ c) (h3 : c ≤ maxLen) : RdL w S (vs ++ [Value.slice A b.length c]) (bodies ++ [b]) := by
  refine ⟨by simp [h.1], fun i b' hb' => ?_⟩
  rcases Nat.lt_or_ge i bodies.length with hlt | hge
  · rw [List.getElem?_append_left hlt] at hb'
    obtain ⟨A, c, h1, h2, h3, h4⟩ := h.2 i b' hb'
    exact ⟨A, c, by rw [List.getElem?_append_left (by rw [h.1]; exact hlt)]; exact h1, h2, h3, h4⟩
  · rw [List.getElem?_append_right hge] at hb'
    have hi : i = bodies.length := by
      rcases Nat.lt_or_ge (i - bodies.length) 1 with h1 | h1
      · omega
      · rw [List.getElem?_eq_none (by simpa using h1)] at hb'; cases hb'
    subst hi
    simp at hb'
    subst hb'
    exact ⟨A, c, by rw [List.getElem?_append_right (by rw [h.1]; exact Nat.le_refl _)]; simp [h.1], h2, h3, hb⟩
end

/-! ### a block that is known whole -/
/-- Block g is just the cells cs of element type t, none frozen. -/
def Bk (w : World) (g : Nat) (t : TypeId) (cs : Array Value) : Prop := w.heap[g]? = some (.cells cs t (0, 0))
section
variable {w w' : World} {g : Nat} {t : TypeId} {cs : Array Value}
theorem Bk.lt (h : Bk w g t cs) : g < w.heap.size := by
  rcases Nat.lt_or_ge g w.heap.size with hlt | hge
  · exact hlt
  · unfold Bk at h; rw [Array.getElem?_eq_none hge] at h; cases h
theorem Bk.cell (h : Bk w g t cs) (i : Nat) {u : Value} (hu : cs[i]? = some u) : w.cell? ⟨g, i, none⟩ = some u := (cell_of_row w g i cs t (0, 0) h).trans hu
theorem Bk.free (h : Bk w g t cs) (i : Nat) : w.frozen? ⟨g, i, none⟩ = false := frozen_of_row w g i cs t h
theorem Bk.new (w : World) (t : TypeId) (cs : Array Value) : Bk (w.alloc (.cells cs t)) w.heap.size t cs := heap_alloc_new w _
theorem Bk.alloc (h : Bk w g t cs) (o : Obj) : Bk (w.alloc o) g t cs := (heap_alloc_old w o h.lt).trans h
theorem Bk.keep {S : Nat → Prop} (h : Bk w g t cs) (hc : Chg S w w') (hn : ¬ S g) : Bk w' g t cs := hc.block h hn
theorem Bk.set (h : Bk w g t cs) (i : Nat) (u : Value) : Bk (w.setCell ⟨g, i, none⟩ u) g t (cs.setIfInBounds i u) := heap_setCell_same w g i cs t u h
theorem Bk.far (h : Bk w g t cs) {p : Addr} (hp : g ≠ p.block) (u : Value) : Bk (w.setCell p u) g t cs := (heap_setCell_other w p g u hp).trans h
theorem Bk.drew (h : Bk w g t cs) : Bk w.drew g t cs := h
theorem Bk.drewN (h : Bk w g t cs) (n : Nat) : Bk (w.drewN n) g t cs := h
end

/-! ### a row of the call's own through a step -/
/-- From (w, v) to (w', v'): only v's block, and new ones, may have changed; v' lies in v's block or in a new one. -/
structure Grew (w : World) (v : Value) (w' : World) (v' : Value) : Prop where
  chg : Chg (Own v) w w'
  lies : ∀ k, k < w.heap.size → Own v' k → Own v k

theorem own_at {g o n c k : Nat} {s : Option Nat} (h : Own (.slice (some ⟨g, o, s⟩) n c) k) : k = g := by
  have : g = k := by simpa [Own, Value.ownBlock] using h
  exact this.symm
section
variable {w w1 w2 : World} {v v1 v2 : Value}
theorem Grew.refl (w : World) (v : Value) : Grew w v w v := ⟨Chg.refl _ _, fun _ _ h => h⟩
theorem Grew.trans (h : Grew w v w1 v1) (k : Grew w1 v1 w2 v2) : Grew w v w2 v2 :=
  ⟨h.chg.trans k.chg h.lies, fun i hi h2 => h.lies i hi (k.lies i (Nat.lt_of_lt_of_le hi h.chg.size) h2)⟩
theorem Grew.of_grown (h : w.grownBy w1 v.ownBlock) (hl : v1.ownBlock = v.ownBlock ∨ v1.ownBlock = some w.heap.size) : Grew w v w1 v1 :=
  ⟨Chg.of_grown h, fun k hk hv => by
    rcases hl with e | e
    · exact e.symm.trans hv
    · have : some w.heap.size = some k := e.symm.trans hv
      injection this with this
      omega⟩
theorem Grew.below {B : Nat} {w0 : World} (h : Grew w v w1 v1) (hb : Below B w0 w) (hB : B ≤ w.heap.size) (hv : ∀ k, Own v k → B ≤ k) : Below B w0 w1 :=
  h.chg.below hb hB fun i _ hi => hv i hi
/-- A step behind a new block. -/
theorem Grew.alloc_left {o : Obj} (h : Grew (w.alloc o) v w1 v1) : Grew w v w1 v1 :=
  ⟨((Chg.refl (Own v) w).alloc o).trans h.chg fun _ _ h => h, fun k hk h2 => h.lies k (by simp; omega) h2⟩
theorem own_lt {base : Nat} {e : TypeId} {sz n : Nat} {xs : List Value} (h : w.ownsRow base e sz v n xs) : ∀ k, Own v k → k < w.heap.size := by
  intro k hk
  rcases h.2 with ⟨rfl, _⟩ | ⟨g, cap, cur, rfl, _, hg, _⟩
  · simp [Own, Value.ownBlock] at hk
  · have : g = k := by simpa [Own, Value.ownBlock] using hk
    subst this
    rcases Nat.lt_or_ge g w.heap.size with hlt | hge
    · exact hlt
    · rw [Array.getElem?_eq_none hge] at hg; cases hg
theorem own_ge {base : Nat} {e : TypeId} {sz n : Nat} {xs : List Value} (h : w.ownsRow base e sz v n xs) : ∀ k, Own v k → base ≤ k := by
  intro k hk
  rcases h.2 with ⟨rfl, _⟩ | ⟨g, cap, cur, rfl, hb, _⟩
  · simp [Own, Value.ownBlock] at hk
  · have : g = k := by simpa [Own, Value.ownBlock] using hk
    omega
end

/-- The form of a value that owns a row. -/
theorem own_form {w : World} {base : Nat} {e : TypeId} {sz n : Nat} {v : Value} {xs : List Value} (h : w.ownsRow base e sz v n xs) : ∃ A c, v = .slice A n c ∧ n ≤ c ∧ c ≤ maxLen := by
  rcases h.2 with ⟨rfl, rfl⟩ | ⟨g, cap, cur, rfl, _, _, hc, hm, _⟩
  · exact ⟨none, 0, rfl, Nat.le_refl _, Nat.zero_le _⟩
  · exact ⟨_, cap, rfl, hc, hm⟩
/-- What is owned stays owned where its block is let alone. -/
theorem own_keep {w w' : World} {S : Nat → Prop} {base : Nat} {e : TypeId} {sz n : Nat} {v : Value} {xs : List Value} (h : w.ownsRow base e sz v n xs) (hc : Chg S w w') (hd : ∀ k, Own v k → S k → False) : w'.ownsRow base e sz v n xs := by
  refine ⟨h.1, ?_⟩
  rcases h.2 with h0 | ⟨g, cap, cur, rfl, hb, hg, rest⟩
  · exact .inl h0
  · exact .inr ⟨g, cap, cur, rfl, hb, hc.block hg fun hs => hd g rfl hs, rest⟩
theorem own_base {w : World} {base base' : Nat} {e : TypeId} {sz n : Nat} {v : Value} {xs : List Value} (h : w.ownsRow base e sz v n xs) (hb : ∀ k, Own v k → base' ≤ k) : w.ownsRow base' e sz v n xs := by
  refine ⟨h.1, ?_⟩
  rcases h.2 with h0 | ⟨g, cap, cur, rfl, _, rest⟩
  · exact .inl h0
  · exact .inr ⟨g, cap, cur, rfl, hb g rfl, rest⟩

/-! ### append, the source a slice that may be nil, empty, cut -/
section
variable {P : Program}
theorem run_append_rds (w : World) (base : Nat) (t ty e : TypeId) (i : TypeInfo) (z : Value) (sz bytes : Nat) (ht : P.underlying t = some (.slice e)) (hi : P.info? e = some i) (hz : i.zero = some z)
    (hsize : i.size = sz) (hby : i.bytes = bytes) (hzs : z.cells.size = sz) (hsz : 0 < sz)
    (v : Value) (n : Nat) (xs : List Value) (hown : w.ownsRow base e sz v n xs) (S : Nat → Prop) (A : Option Addr) (m c : Nat) (news : List Value) (hr : Rds w S sz A m news) (h1 : ∀ u ∈ news, u.oneCell' = true)
    (h63 : n + m ≤ maxLen) (hbytes : (n + m) * bytes ≤ 140737488355328) (hbase : base ≤ w.heap.size) :
    ∃ v' w', (Builtin.append_ #[t, t] ty #[v, .slice A m c]).run P w = .ok v' w' ∧ w'.ownsRow base e sz v' (n + m) (xs ++ news) ∧ Grew w v w' v' := by
  rcases Nat.eq_zero_or_pos m with rfl | hm
  · have hn : news = [] := List.eq_nil_of_length_eq_zero (by simpa using hr.1)
    subst hn
    refine ⟨v, w, ?_, by simpa using hown, Grew.refl w v⟩
    rcases hown.2 with ⟨rfl, rfl⟩ | ⟨g, cap, cur, rfl, _, _, hnc, _⟩
    · cases A with
      | none => simp [Builtin.append_, run_underlying ht, sizeOf, typeInfo, hi, Builtin.lenOf, Builtin.firstCells]
      | some ad => simp [Builtin.append_, run_underlying ht, sizeOf, typeInfo, hi, Builtin.lenOf, Builtin.firstCells, loadCells, loadCellsFrom]
    · cases A with
      | none => simp [Builtin.append_, run_underlying ht, sizeOf, typeInfo, hi, Builtin.lenOf, Builtin.firstCells, hnc, storeCells]
      | some ad => simp [Builtin.append_, run_underlying ht, sizeOf, typeInfo, hi, Builtin.lenOf, Builtin.firstCells, hnc, storeCells, loadCells, loadCellsFrom]
  · obtain ⟨ad, rfl, _, hx⟩ := hr.2 hm
    obtain ⟨v', w', hrun, h2, h3, _, h5⟩ := run_append_own_at (P := P) w base t ty e i z sz bytes ht hi hz hsize hby hzs hsz v n xs hown ad m c news hr.1 hx h1 h63 hbytes hbase
    exact ⟨v', w', hrun, h2, Grew.of_grown h3 h5⟩

theorem wp_append_rds {o : Oper} {a : Act} {w : World} {K : Act → World → Prop} {Q : Exit → Act → World → Prop} (s x : Operand) (t : TypeId)
    (ho : o.op = .call { callee := .builtin .append, args := #[s, x], argTypes := #[t, t] })
    (base : Nat) (e : TypeId) (i : TypeInfo) (z : Value) (sz bytes : Nat) (ht : P.underlying t = some (.slice e)) (hi : P.info? e = some i) (hz : i.zero = some z)
    (hsize : i.size = sz) (hby : i.bytes = bytes) (hzs : z.cells.size = sz) (hsz : 0 < sz)
    (v : Value) (n : Nat) (xs : List Value) (hs : a.eval s = v) (hown : w.ownsRow base e sz v n xs)
    (S : Nat → Prop) (A : Option Addr) (m c : Nat) (news : List Value) (hx : a.eval x = .slice A m c) (hr : Rds w S sz A m news) (h1 : ∀ u ∈ news, u.oneCell' = true)
    (h63 : n + m ≤ maxLen) (hbytes : (n + m) * bytes ≤ 140737488355328) (hbase : base ≤ w.heap.size)
    (h : ∀ v' w', w'.ownsRow base e sz v' (n + m) (xs ++ news) → Grew w v w' v' → K (a.put o.dst v') w') : o.wp P a w K Q := by
  obtain ⟨v', w', hrun, h2, h3⟩ := run_append_rds (P := P) w base t o.type e i z sz bytes ht hi hz hsize hby hzs hsz v n xs hown S A m c news hr h1 h63 hbytes hbase
  unfold Oper.wp execOp
  simp only [ho, resolve, invoke, builtin, Sem.run_bind, Sem.run_pure, Result.andThen_ok, List.map_toArray, List.map_cons, List.map_nil, hs, hx, hrun]
  exact h v' w' h2 h3
theorem wpl_append {ops : Array Oper} {rest : List Oper} {o : Oper} {a : Act} {w : World} {Q : Exit → Act → World → Prop} (hgd : o.guard = none) (s x : Operand) (t : TypeId)
    (ho : o.op = .call { callee := .builtin .append, args := #[s, x], argTypes := #[t, t] })
    (base : Nat) (e : TypeId) (i : TypeInfo) (z : Value) (sz bytes : Nat) (ht : P.underlying t = some (.slice e)) (hi : P.info? e = some i) (hz : i.zero = some z)
    (hsize : i.size = sz) (hby : i.bytes = bytes) (hzs : z.cells.size = sz) (hsz : 0 < sz)
    (v : Value) (n : Nat) (xs : List Value) (hs : a.eval s = v) (hown : w.ownsRow base e sz v n xs)
    (S : Nat → Prop) (A : Option Addr) (m c : Nat) (news : List Value) (hx : a.eval x = .slice A m c) (hr : Rds w S sz A m news) (h1 : ∀ u ∈ news, u.oneCell' = true)
    (h63 : n + m ≤ maxLen) (hbytes : (n + m) * bytes ≤ 140737488355328) (hbase : base ≤ w.heap.size)
    (h : ∀ v' w', w'.ownsRow base e sz v' (n + m) (xs ++ news) → Grew w v w' v' → wpList P ops Q rest (a.put o.dst v') w') : wpList P ops Q (o :: rest) a w :=
  wpList_plain hgd fun _ hK => wp_append_rds s x t ho base e i z sz bytes ht hi hz hsize hby hzs hsz v n xs hs hown S A m c news hx hr h1 h63 hbytes hbase fun v' w' h2 h3 => hK _ _ (h v' w' h2 h3)
theorem step_append {ops : Array Oper} {o : Oper} {a : Act} {w : World} {K : Act → World → Prop} {Q : Exit → Act → World → Prop} {E : Prop} (hgd : o.guard = none) (s x : Operand) (t : TypeId)
    (ho : o.op = .call { callee := .builtin .append, args := #[s, x], argTypes := #[t, t] })
    (base : Nat) (e : TypeId) (i : TypeInfo) (z : Value) (sz bytes : Nat) (ht : P.underlying t = some (.slice e)) (hi : P.info? e = some i) (hz : i.zero = some z)
    (hsize : i.size = sz) (hby : i.bytes = bytes) (hzs : z.cells.size = sz) (hsz : 0 < sz)
    (v : Value) (n : Nat) (xs : List Value) (hs : a.eval s = v) (hown : w.ownsRow base e sz v n xs)
    (S : Nat → Prop) (A : Option Addr) (m c : Nat) (news : List Value) (hx : a.eval x = .slice A m c) (hr : Rds w S sz A m news) (h1 : ∀ u ∈ news, u.oneCell' = true)
    (h63 : n + m ≤ maxLen) (hbytes : (n + m) * bytes ≤ 140737488355328) (hbase : base ≤ w.heap.size)
    (h : ∀ v' w', w'.ownsRow base e sz v' (n + m) (xs ++ news) → Grew w v w' v' → K (a.put o.dst v') w') : if Region.wanted o (yielded ops a.tmps) = true then Oper.wp P o a w K Q else E := by
  rw [if_pos (by simp [Region.wanted, hgd])]
  exact wp_append_rds s x t ho base e i z sz bytes ht hi hz hsize hby hzs hsz v n xs hs hown S A m c news hx hr h1 h63 hbytes hbase h
/-- The one cell that 'append(s, x)' lays for x reads x. -/
theorem rds_one (w : World) (u : Value) (t : TypeId) : Rds (w.alloc (.cells #[u] t)) (fun k => k = w.heap.size) 1 (some ⟨w.heap.size, 0, none⟩) 1 [u] :=
  ⟨rfl, fun _ => ⟨_, rfl, rfl, cell_one_new w u t⟩⟩
end

/-! ### small -/
theorem Hid.mk {p : Prop} (h : p) : Hid p := h
theorem results_four {fn : Func} {t u v x : Tmp} (h : fn.results = #[.tmp t, .tmp u, .tmp v, .tmp x]) (tmps : Array Value) (P : Program) (w : World) :
    (results fn tmps).run P w = .ok (.tuple #[tmps.getD t undef, tmps.getD u undef, tmps.getD v undef, tmps.getD x undef]) w := by simp [results, h]

end Go.Proofs.YtkemmffdiclloaaGreatDoor
namespace Go.Proofs.YtkemmffdiclloaaGreatDoor
open Go.RowKit

/-- The address of 's[k:]': at the capacity the address stays. -/
def cutA (sz : Nat) (A : Option Addr) (c k : Nat) : Option Addr := if c = k then A else A.map (·.add (k * sz))

theorem cutA_rds {w : World} {S : Nat → Prop} {sz n : Nat} {A : Option Addr} {xs : List Value} {c k m : Nat} (h : Rds w S sz A n xs) (hk : k ≤ m) (hm : m ≤ n) (hn : n ≤ c) :
    Rds w S sz (cutA sz A c k) (m - k) ((xs.drop (k * sz)).take ((m - k) * sz)) := h.part hk hm (by omega)
theorem cutA_rdb {w : World} {S : Nat → Prop} {n : Nat} {A : Option Addr} {bs : List UInt8} {c k m : Nat} (h : RdB w S A n bs) (hk : k ≤ m) (hm : m ≤ n) (hn : n ≤ c) :
    RdB w S (cutA 1 A c k) (m - k) ((bs.drop k).take (m - k)) := h.part hk hm (by omega)
theorem cutA_rdb_all {w : World} {S : Nat → Prop} {n : Nat} {A : Option Addr} {bs : List UInt8} {c k : Nat} (h : RdB w S A n bs) (hk : k ≤ n) (hn : n ≤ c) :
    RdB w S (cutA 1 A c k) (n - k) (bs.drop k) := by
  have := cutA_rdb h hk (Nat.le_refl n) hn
  rwa [List.take_of_length_le (by rw [List.length_drop, h.len]; exact Nat.le_refl _)] at this

theorem Rds.ex {w : World} {S : Nat → Prop} {sz n : Nat} {A : Option Addr} {xs : List Value} (h : Rds w S sz A n xs) (hn : 0 < n) : ∃ ad, A = some ad ∧ S ad.block ∧ ∀ j u, xs[j]? = some u → w.cell? (ad.add j) = some u := h.2 hn
theorem RdB.below {w w' : World} {S : Nat → Prop} {n B : Nat} {A : Option Addr} {bs : List UInt8} (h : RdB w S A n bs) (hb : Below B w w') (hS : ∀ k, S k → k < B) : RdB w' S A n bs := by
  refine ⟨h.1, fun hn => ?_⟩
  obtain ⟨ad, e, hs, hx⟩ := Rds.ex h hn
  exact ⟨ad, e, hs, fun j u hu => (hb.cell (p := ad.add j) (by rw [add_block]; exact hS _ hs)).trans (hx j u hu)⟩
/-- A row that was laid and grown: nothing that was there has changed. -/
theorem Grew.fresh {w w1 : World} {o : Obj} {n c off : Nat} {v1 : Value} (h : Grew (w.alloc o) (.slice (some ⟨w.heap.size, off, none⟩) n c) w1 v1) : Chg Nil w w1 ∧ ∀ k, Own v1 k → w.heap.size ≤ k := by
  refine ⟨h.alloc_left.chg.wider fun i hi ho => ?_, fun k hk => ?_⟩
  · have := own_at ho
    omega
  · rcases Nat.lt_or_ge k w.heap.size with hlt | hge
    · have := own_at (h.lies k (by simp; omega) hk)
      omega
    · exact hge
theorem Chg.of_below' {w w' : World} (h : Below w.heap.size w w') : Chg Nil w w' := Chg.of_below h
/-- A row of slices of bytes, one more body laid and appended. -/
theorem rows_step {wr w3 w4 : World} {B : Nat} {e : TypeId} {u4 v4 : Value} {acc : List (List UInt8)} {body : List UInt8} {vs : List Value} {F : Nat → Prop} {A3 : Option Addr} {c3 : Nat} {o : Obj} {e2 : TypeId}
    (hrl : RdL wr F vs acc) (hF : ∀ k, F k → B ≤ k ∧ k < wr.heap.size) (hFo : ∀ k, F k → Own u4 k → False) (hlt : ∀ k, Own u4 k → k < wr.heap.size) (hB : B ≤ wr.heap.size)
    (h3 : Chg Nil wr w3) (o3 : w3.ownsRow B e 1 (.slice A3 body.length c3) body.length (body.map bv)) (hn3 : ∀ k, Own (.slice A3 body.length c3) k → wr.heap.size ≤ k) (hc3 : body.length ≤ c3) (hm3 : c3 ≤ maxLen)
    (o4 : w4.ownsRow B e2 1 v4 (acc.length + 1) (vs ++ [Value.slice A3 body.length c3])) (g4 : Grew (w3.alloc o) u4 w4 v4) :
    ∃ F' : Nat → Prop, w4.ownsRow B e2 1 v4 (acc ++ [body]).length (vs ++ [Value.slice A3 body.length c3]) ∧ RdL w4 F' (vs ++ [Value.slice A3 body.length c3]) (acc ++ [body]) ∧
      (∀ k, F' k → B ≤ k ∧ k < w4.heap.size) ∧ (∀ k, F' k → Own v4 k → False) := by
  have hs3 : wr.heap.size ≤ w3.heap.size := h3.size
  have hs4 : w3.heap.size + 1 ≤ w4.heap.size := by have := g4.chg.size; simpa using this
  have hlt3 := own_lt o3
  have hr3 : RdB w3 (Own (.slice A3 body.length c3)) A3 body.length body := Rds.of_own o3
  have c34 : Chg (Own u4) w3 w4 := g4.alloc_left.chg
  refine ⟨fun k => F k ∨ Own (.slice A3 body.length c3) k, by simpa using o4, ?_, ?_, ?_⟩
  · refine RdL.snoc ?_ ?_ hc3 hm3
    · exact ((hrl.keep h3 (fun _ _ h => h)).keep c34 (fun k hk ho => hFo k hk ho)).wider (fun k _ hk => .inl hk)
    · exact (hr3.keep c34 (fun k hk ho => by have := hn3 k hk; have := hlt k ho; omega)).wider (fun k _ hk => .inr hk)
  · rintro k (hk | hk)
    · have := hF k hk
      omega
    · have := hn3 k hk
      have := hlt3 k hk
      omega
  · rintro k hk hv
    have hkl : k < w3.heap.size := by
      rcases hk with hk | hk
      · have := hF k hk
        omega
      · exact hlt3 k hk
    have hu := g4.lies k (by simp; omega) hv
    rcases hk with hk | hk
    · exact hFo k hk hu
    · have := hn3 k hk
      have := hlt k hu
      omega

section
variable {P : Program}
theorem run_bound_in (w : World) (k : IntKind) (l : Nat) (y : Nat) (code : BoundsCode) (h : l ≤ y) : (Instr.sliceBound (.int k (l : Int)) y code).run P w = .ok l w := by
  simp [Instr.sliceBound, asIntOf, h]
/-- 's[l:]'. -/
theorem run_cut_from (t e : TypeId) (i : TypeInfo) (sz : Nat) (ht : P.underlying t = some (.slice e)) (hi : P.info? e = some i) (hsz : i.size = sz) (A : Option Addr) (n c l : Nat) (k : IntKind) (hl : l ≤ n) (w : World) :
    (Instr.slice t (.slice A n c) (some (.int k (l : Int))) none none).run P w = .ok (.slice (cutA sz A c l) (n - l) (c - l)) w := by
  subst hsz
  simp [Instr.slice, Instr.sliceBounds, run_underlying ht, run_bound_in w k l n _ hl, sizeOf, typeInfo, hi, cutA]
/-- 's[l:h]'. -/
theorem run_cut_part (t e : TypeId) (i : TypeInfo) (sz : Nat) (ht : P.underlying t = some (.slice e)) (hi : P.info? e = some i) (hsz : i.size = sz) (A : Option Addr) (n c l h : Nat) (k k' : IntKind) (hl : l ≤ h) (hc : h ≤ c) (w : World) :
    (Instr.slice t (.slice A n c) (some (.int k (l : Int))) (some (.int k' (h : Int))) none).run P w = .ok (.slice (cutA sz A c l) (h - l) (c - l)) w := by
  subst hsz
  simp [Instr.slice, Instr.sliceBounds, run_underlying ht, run_bound_in w k l h _ hl, run_bound_in w k' h c _ hc, sizeOf, typeInfo, hi, cutA]
end

end Go.Proofs.YtkemmffdiclloaaGreatDoor
namespace Go.Proofs.YtkemmffdiclloaaGreatDoor
open Go.RowKit

/-- The slice value v, of n elements, owns the cells xs: nil, or the head of a block of which no cell is frozen. -/
def Row (w : World) (e : TypeId) (sz : Nat) (v : Value) (n : Nat) (xs : List Value) : Prop :=
  xs.length = n * sz ∧
  ((v = .slice none 0 0 ∧ n = 0) ∨
   ∃ (g cap : Nat) (cur : List Value) (lo hi : Nat), v = .slice (some ⟨g, 0, none⟩) n cap ∧ w.heap[g]? = some (.cells cur.toArray e (lo, hi)) ∧ (hi ≤ lo ∨ cur.length ≤ lo) ∧ n ≤ cap ∧ cap ≤ maxLen ∧ cur.length = cap * sz ∧ cur.take (n * sz) = xs)

section
variable {w w' : World} {e : TypeId} {sz n : Nat} {v : Value} {xs : List Value}
theorem Row.of_own {base : Nat} (h : w.ownsRow base e sz v n xs) : Row w e sz v n xs := by
  refine ⟨h.1, ?_⟩
  rcases h.2 with h0 | ⟨g, cap, cur, rfl, _, hg, hn, hm, hs, ht⟩
  · exact .inl h0
  · exact .inr ⟨g, cap, cur.toList, 0, 0, rfl, by simpa using hg, .inl (Nat.le_refl _), hn, hm, by simpa using hs, ht⟩
theorem Row.form (h : Row w e sz v n xs) : ∃ A c, v = .slice A n c ∧ n ≤ c ∧ c ≤ maxLen := by
  rcases h.2 with ⟨rfl, rfl⟩ | ⟨g, cap, cur, lo, hi, rfl, _, _, hc, hm, _⟩
  · exact ⟨none, 0, rfl, Nat.le_refl _, Nat.zero_le _⟩
  · exact ⟨_, cap, rfl, hc, hm⟩
theorem Row.keep {S : Nat → Prop} (h : Row w e sz v n xs) (hc : Chg S w w') (hd : ∀ k, Own v k → S k → False) : Row w' e sz v n xs := by
  refine ⟨h.1, ?_⟩
  rcases h.2 with h0 | ⟨g, cap, cur, lo, hi, rfl, hg, rest⟩
  · exact .inl h0
  · exact .inr ⟨g, cap, cur, lo, hi, rfl, hc.block hg (fun hs => hd g rfl hs), rest⟩
theorem Row.lt (h : Row w e sz v n xs) : ∀ k, Own v k → k < w.heap.size := by
  intro k hk
  rcases h.2 with ⟨rfl, _⟩ | ⟨g, cap, cur, lo, hi, rfl, hg, _⟩
  · simp [Own, Value.ownBlock] at hk
  · have := own_at hk
    subst this
    rcases Nat.lt_or_ge k w.heap.size with hlt | hge
    · exact hlt
    · rw [Array.getElem?_eq_none hge] at hg; cases hg
theorem cell_of_list {g lo hi : Nat} {cur : List Value} (hg : w.heap[g]? = some (.cells cur.toArray e (lo, hi))) (j : Nat) : w.cell? ⟨g, j, none⟩ = cur[j]? := by
  rw [cell_of_row w g j cur.toArray e (lo, hi) hg]
  simp
theorem free_of_list {g lo hi : Nat} {cur : List Value} (hg : w.heap[g]? = some (.cells cur.toArray e (lo, hi))) (hf : hi ≤ lo ∨ cur.length ≤ lo) {j : Nat} (hj : j < cur.length) : w.frozen? ⟨g, j, none⟩ = false := by
  unfold World.frozen?
  rw [hg]
  simp
  omega
theorem Row.rds (h : Row w e sz v n xs) : ∃ A c, v = .slice A n c ∧ Rds w (Own v) sz A n xs := by
  rcases h.2 with ⟨rfl, rfl⟩ | ⟨g, cap, cur, lo, hi, rfl, hg, hf, hc, hm, hs, ht⟩
  · have : xs = [] := List.eq_nil_of_length_eq_zero (by simpa using h.1)
    subst this
    exact ⟨none, 0, rfl, Rds.nil⟩
  · refine ⟨_, cap, rfl, h.1, fun hn => ⟨_, rfl, rfl, fun j u hu => ?_⟩⟩
    have hj : w.cell? ⟨g, 0 + j, none⟩ = some u := by
      rw [Nat.zero_add, cell_of_list hg]
      rw [← ht, List.getElem?_take] at hu
      split at hu
      · exact hu
      · cases hu
    unfold Addr.add
    split
    · next h0 => subst h0; exact hj
    · exact hj
theorem Row.rd {A : Option Addr} {c : Nat} (h : Row w e sz (.slice A n c) n xs) : Rds w (Own (.slice A n c)) sz A n xs := by
  obtain ⟨A', c', he, hr⟩ := h.rds
  injection he with h1 h2 h3
  subst h1
  exact hr
/-- The head of it: 's[:m]'. -/
theorem Row.front {A : Option Addr} {c m : Nat} (h : Row w e sz (.slice A n c) n xs) (hm : m ≤ n) : Row w e sz (.slice A m c) m (xs.take (m * sz)) := by
  refine ⟨?_, ?_⟩
  · rw [List.length_take, h.1]
    exact Nat.min_eq_left (Nat.mul_le_mul_right _ hm)
  · rcases h.2 with ⟨he, rfl⟩ | ⟨g, cap, cur, lo, hi, he, hg, hf, hc, hx, hs, ht⟩
    · injection he with h1 _ h3
      subst h1 h3
      have : m = 0 := by omega
      subst this
      exact .inl ⟨rfl, rfl⟩
    · injection he with h1 _ h3
      subst h1 h3
      refine .inr ⟨g, c, cur, lo, hi, rfl, hg, hf, by omega, hx, hs, ?_⟩
      rw [← ht, List.take_take, Nat.min_eq_left (Nat.mul_le_mul_right _ hm)]
end

section
variable {P : Program}
/-- Stores into a row. -/
theorem run_store_row (g o : Nat) (e : TypeId) (lo hi : Nat) : ∀ (vs : List Value) (i : Nat) (cur : List Value) (w : World), w.heap[g]? = some (.cells cur.toArray e (lo, hi)) → (hi ≤ lo ∨ cur.length ≤ lo) → o + i + vs.length ≤ cur.length → (∀ v ∈ vs, v.oneCell' = true) →
    ∃ w', (storeCells ⟨g, o, none⟩ vs i).run P w = .ok () w' ∧ w'.heap[g]? = some (.cells (cur.take (o + i) ++ vs ++ cur.drop (o + i + vs.length)).toArray e (lo, hi)) ∧ Chg (· = g) w w'
  | [], i, cur, w, hg, _, _, _ => ⟨w, rfl, by simpa using hg, Chg.refl _ _⟩
  | v :: r, i, cur, w, hg, hf, hl, h1 => by
    simp only [List.length_cons] at hl
    have hadd : (⟨g, o, none⟩ : Addr).add i = ⟨g, o + i, none⟩ := by unfold Addr.add; split <;> simp_all
    have hc : w.cell? ⟨g, o + i, none⟩ = some (cur[o + i]'(by omega)) := by rw [cell_of_list hg, List.getElem?_eq_getElem (by omega)]
    have hz := free_of_list (j := o + i) hg hf (by omega)
    have hst : (store ((⟨g, o, none⟩ : Addr).add i) v).run P w = .ok () (w.setCell ⟨g, o + i, none⟩ v) := by
      rw [hadd, run_store P w _ v _ (h1 v (by simp))]
      simp [hc, hz]
    have hg1 : (w.setCell ⟨g, o + i, none⟩ v).heap[g]? = some (.cells (cur.set (o + i) v).toArray e (lo, hi)) := by
      simp [World.setCell, Array.getElem?_modify, hg]
    obtain ⟨w', hr, hg', hch⟩ := run_store_row g o e lo hi r (i + 1) (cur.set (o + i) v) _ hg1 (by simpa using hf) (by simp; omega) (fun x hx => h1 x (by simp [hx]))
    refine ⟨w', ?_, ?_, ((Chg.refl (· = g) w).setCell (p := ⟨g, o + i, none⟩) (fun _ => rfl) v).trans hch (fun _ _ h => h)⟩
    · simp only [storeCells, Sem.run_bind, hst, Result.andThen_ok, hr]
    · rw [hg']
      congr 3
      rw [show o + (i + 1) = o + i + 1 by omega, show o + i + 1 + r.length = o + i + (r.length + 1) by omega, List.length_cons]
      rw [List.drop_set_of_lt (by omega), List.take_set, List.take_succ_eq_append_getElem (by omega)]
      rw [List.set_append_right _ _ (by simp; omega)]
      simp [Nat.min_eq_left (show o + i ≤ cur.length by omega)]

/-- What growing leaves. -/
theorem row_grown (w : World) (e : TypeId) (sz : Nat) (z : Value) (hzs : z.cells.size = sz) (v : Value) (n m old : Nat) (xs news : List Value) (hx : xs.length = n * sz) (hl : news.length = m * sz) (h63 : n + m ≤ maxLen) :
    Row (w.drew.alloc (.cells (xs.toArray ++ news.toArray ++ Builtin.zeroCells z.cells (grownCap w (n + m) old e - (n + m))) e)) e sz (.slice (some ⟨w.heap.size, 0, none⟩) (n + m) (grownCap w (n + m) old e)) (n + m) (xs ++ news) ∧
    Grew w v (w.drew.alloc (.cells (xs.toArray ++ news.toArray ++ Builtin.zeroCells z.cells (grownCap w (n + m) old e - (n + m))) e)) (.slice (some ⟨w.heap.size, 0, none⟩) (n + m) (grownCap w (n + m) old e)) := by
  have hge := grownCap_ge w (n + m) old e
  have hcm : grownCap w (n + m) old e ≤ maxLen := grownCap_le_maxLen w (n + m) old e h63
  refine ⟨⟨by rw [List.length_append, hx, hl, Nat.add_mul], .inr ⟨w.heap.size, _, xs ++ news ++ (Builtin.zeroCells z.cells (grownCap w (n + m) old e - (n + m))).toList, 0, 0, rfl, ?_, .inl (Nat.le_refl _), hge, hcm, ?_, ?_⟩⟩, ⟨((Chg.refl _ w).drew).alloc _, fun k hk h => ?_⟩⟩
  · refine (heap_alloc_new w.drew _).trans ?_
    congr 2
    apply Array.ext'
    simp
  · simp only [List.length_append, Array.length_toList, size_zeroCells, hzs, hx, hl, ← Nat.add_mul]
    congr 1
    omega
  · rw [List.append_assoc, ← List.append_assoc, List.take_left']
    rw [List.length_append, hx, hl, Nat.add_mul]
  · have := own_at h
    omega
/-- append within the capacity: what the stores leave. -/
theorem row_room {w : World} {e : TypeId} {sz n m g cap lo hi : Nat} {cur xs news : List Value} (hx : xs.length = n * sz) (hl : news.length = m * sz) (hg : w.heap[g]? = some (.cells cur.toArray e (lo, hi))) (hf : hi ≤ lo ∨ cur.length ≤ lo)
    (hcm : cap ≤ maxLen) (hcs : cur.length = cap * sz) (ht : cur.take (n * sz) = xs) (hroom : n + m ≤ cap) (h1 : ∀ u ∈ news, u.oneCell' = true) :
    ∃ w', (storeCells ((⟨g, 0, none⟩ : Addr).add (n * sz)) news 0).run P w = .ok () w' ∧ Row w' e sz (.slice (some ⟨g, 0, none⟩) (n + m) cap) (n + m) (xs ++ news) ∧ Grew w (.slice (some ⟨g, 0, none⟩) n cap) w' (.slice (some ⟨g, 0, none⟩) (n + m) cap) := by
  have hadd : (⟨g, 0, none⟩ : Addr).add (n * sz) = ⟨g, n * sz, none⟩ := by unfold Addr.add; split <;> simp_all
  have hfit : n * sz + 0 + news.length ≤ cur.length := by rw [hl, hcs, Nat.add_zero, ← Nat.add_mul]; exact Nat.mul_le_mul_right _ hroom
  obtain ⟨w', hr, hg', hch⟩ := run_store_row (P := P) g (n * sz) e lo hi news 0 cur w hg hf hfit h1
  refine ⟨w', by rw [hadd]; exact hr, ⟨by rw [List.length_append, hx, hl, Nat.add_mul], .inr ⟨g, cap, _, lo, hi, rfl, hg', ?_, hroom, hcm, ?_, ?_⟩⟩, ⟨hch.wider (fun k _ hk => by subst hk; rfl), fun k _ hk => hk⟩⟩
  · simp only [List.length_append, List.length_take, List.length_drop]
    omega
  · simp only [List.length_append, List.length_take, List.length_drop]
    omega
  · rw [Nat.add_zero, ht, List.take_left']
    rw [List.length_append, hx, hl, Nat.add_mul]

theorem run_append_row (w : World) (t ty e : TypeId) (i : TypeInfo) (z : Value) (sz bytes : Nat) (ht : P.underlying t = some (.slice e)) (hi : P.info? e = some i) (hz : i.zero = some z)
    (hsize : i.size = sz) (hby : i.bytes = bytes) (hzs : z.cells.size = sz) (hsz : 0 < sz)
    (v : Value) (n : Nat) (xs : List Value) (hown : Row w e sz v n xs) (S : Nat → Prop) (A : Option Addr) (m c : Nat) (news : List Value) (hr : Rds w S sz A m news) (h1 : ∀ u ∈ news, u.oneCell' = true)
    (h63 : n + m ≤ maxLen) (hbytes : (n + m) * bytes ≤ 140737488355328) :
    ∃ v' w', (Builtin.append_ #[t, t] ty #[v, .slice A m c]).run P w = .ok v' w' ∧ Row w' e sz v' (n + m) (xs ++ news) ∧ Grew w v w' v' := by
  subst hsize
  subst hby
  have hsmall : n + m ≤ 9223372036854775807 := by simp only [maxLen] at h63; omega
  rcases Nat.eq_zero_or_pos m with rfl | hm
  · have hn : news = [] := List.eq_nil_of_length_eq_zero (by simpa using hr.1)
    subst hn
    refine ⟨v, w, ?_, by simpa using hown, Grew.refl w v⟩
    rcases hown.2 with ⟨rfl, rfl⟩ | ⟨g, cap, cur, lo, hi', rfl, _, _, hnc, _⟩
    · cases A with
      | none => simp [Builtin.append_, run_underlying ht, sizeOf, typeInfo, hi, Builtin.lenOf, Builtin.firstCells]
      | some ad => simp [Builtin.append_, run_underlying ht, sizeOf, typeInfo, hi, Builtin.lenOf, Builtin.firstCells, loadCells, loadCellsFrom]
    · cases A with
      | none => simp [Builtin.append_, run_underlying ht, sizeOf, typeInfo, hi, Builtin.lenOf, Builtin.firstCells, hnc, storeCells]
      | some ad => simp [Builtin.append_, run_underlying ht, sizeOf, typeInfo, hi, Builtin.lenOf, Builtin.firstCells, hnc, storeCells, loadCells, loadCellsFrom]
  · obtain ⟨ad, rfl, _, hnews⟩ := hr.2 hm
    have hl := hr.1
    rcases hown.2 with ⟨rfl, rfl⟩ | ⟨g, cap, cur, lo, hi', rfl, hg, hf, hnc, hcm, hcs, htake⟩
    · have hx : xs = [] := List.eq_nil_of_length_eq_zero (by simpa using hown.1)
      subst hx
      have hrun := run_append_nil (P := P) w t ty e i z ht hi hz ad m c news hl hnews hm (by omega) (by have hb := hbytes; simp only [Nat.zero_add] at hb; omega)
      have hgr := row_grown w e i.size z hzs (.slice none 0 0) 0 m 0 [] news (by simp) hl h63
      simp only [Nat.zero_add, List.nil_append, Array.empty_append] at hgr ⊢
      exact ⟨_, _, hrun, hgr.1, hgr.2⟩
    · by_cases hroom : n + m ≤ cap
      · obtain ⟨w', hst, h2, h3⟩ := row_room (P := P) hown.1 hl hg hf hcm hcs htake hroom h1
        have hfc := run_firstCells_some (P := P) w i.size m ad m c news hl hnews
        exact ⟨_, w', by simp [Builtin.append_, run_underlying ht, sizeOf, typeInfo, hi, Builtin.lenOf, hroom, hfc, hst], h2, h3⟩
      · have holds : ∀ j u, xs[j]? = some u → w.cell? ((⟨g, 0, none⟩ : Addr).add j) = some u := by
          intro j u hu
          have hj : w.cell? ⟨g, j, none⟩ = some u := by
            rw [cell_of_list hg]
            rw [← htake, List.getElem?_take] at hu
            split at hu
            · exact hu
            · cases hu
          unfold Addr.add
          split
          · next h0 => subst h0; exact hj
          · simpa using hj
        have hrun := run_append_grow (P := P) w t ty e i z ht hi hz ⟨g, 0, none⟩ n cap xs hown.1 holds ad m c news hl hnews (by omega) (by omega) (growslice_fits (by omega) hbytes)
        have hgr := row_grown w e i.size z hzs (.slice (some ⟨g, 0, none⟩) n cap) n m cap xs news hown.1 hl h63
        exact ⟨_, _, hrun, hgr.1, hgr.2⟩

/-- 'append(s, make([]T, m)...)'. -/
theorem run_append_zeros (w : World) (m : Nat) (t u ty e : TypeId) (i : TypeInfo) (z : Value) (sz bytes : Nat) (ht : P.underlying t = some (.slice e)) (hu : P.underlying u = some (.int .i64)) (hi : P.info? e = some i) (hz : i.zero = some z)
    (hsize : i.size = sz) (hby : i.bytes = bytes) (hzs : z.cells.size = sz) (hsz : 0 < sz) (hone : ∀ x ∈ (Builtin.zeroCells z.cells m).toList, x.oneCell' = true)
    (v : Value) (n : Nat) (xs : List Value) (hown : Row w e sz v n xs) (hm : 0 < m) (h63 : n + m ≤ maxLen) (hbytes : (n + m) * bytes ≤ 140737488355328) :
    ∃ v' w', (Builtin.append_ #[t, u] ty #[v, .int .i64 (m : Int)]).run P w = .ok v' w' ∧ Row w' e sz v' (n + m) (xs ++ (Builtin.zeroCells z.cells m).toList) ∧ Grew w v w' v' := by
  subst hsize
  subst hby
  have hsmall : n + m ≤ 9223372036854775807 := by simp only [maxLen] at h63; omega
  have hwr : IntKind.i64.wrap (m : Int) = m := by rw [IntKind.wrap_i64]; omega
  have hneg : ¬ ((m : Int) < 0) := by omega
  have hmb : m * i.bytes ≤ 140737488355328 := Nat.le_trans (Nat.mul_le_mul_right _ (by omega)) hbytes
  have hbig : ¬ (281474976710656 < (m : Int) * (i.bytes : Int)) := by
    have : ((m * i.bytes : Nat) : Int) ≤ 140737488355328 := by omega
    rw [Int.natCast_mul] at this
    omega
  have hms : ¬ (m * i.size = 0) := by have := Nat.mul_pos hm hsz; omega
  have hl : (Builtin.zeroCells z.cells m).toList.length = m * i.size := by rw [Array.length_toList, size_zeroCells, hzs]
  rcases hown.2 with ⟨rfl, rfl⟩ | ⟨g, cap, cur, lo, hi', rfl, hg, hf, hnc, hcm, hcs, htake⟩
  · have hx : xs = [] := List.eq_nil_of_length_eq_zero (by simpa using hown.1)
    subst hx
    have hgr := row_grown w e i.size z hzs (.slice none 0 0) 0 m 0 [] (Builtin.zeroCells z.cells m).toList (by simp) hl h63
    simp only [Nat.zero_add, List.nil_append, Array.empty_append] at hgr ⊢
    refine ⟨_, _, ?_, hgr.1, hgr.2⟩
    have hm0 : ¬ (m = 0) := by omega
    have h63' : ¬ (9223372036854775807 < (m : Int)) := by omega
    have h48 : ¬ (281474976710656 < Builtin.nextslicecap m 0 * i.bytes) := by rw [nextslicecap_zero hm]; omega
    simp [Builtin.append_, run_underlying ht, run_underlying hu, sizeOf, typeInfo, zeroValue, hi, hz, hwr, hneg, hbig, hms, asInt, asIntOf, hm0, h63', h48, Question.forced, run_firstCells_none, newRow, grownCap]
  · by_cases hroom : n + m ≤ cap
    · obtain ⟨w', hst, h2, h3⟩ := row_room (P := P) hown.1 hl hg hf hcm hcs htake hroom hone
      refine ⟨_, w', ?_, h2, h3⟩
      simp [Builtin.append_, run_underlying ht, run_underlying hu, sizeOf, typeInfo, zeroValue, hi, hz, hwr, hneg, hbig, hms, hroom, asInt, asIntOf, hst]
    · have holds : ∀ j u, xs[j]? = some u → w.cell? ((⟨g, 0, none⟩ : Addr).add j) = some u := by
        obtain ⟨A, c, he, hr⟩ := hown.rds
        injection he with h1
        subst h1
        intro j u hu
        rcases Nat.eq_zero_or_pos n with h0 | h0
        · have : xs = [] := List.eq_nil_of_length_eq_zero (by rw [hown.1, h0, Nat.zero_mul])
          subst this
          simp at hu
        · obtain ⟨ad, h2, _, hx⟩ := hr.2 h0
          injection h2 with h2
          subst h2
          exact hx j u hu
      have hgr := row_grown w e i.size z hzs (.slice (some ⟨g, 0, none⟩) n cap) n m cap xs (Builtin.zeroCells z.cells m).toList hown.1 hl h63
      refine ⟨_, _, ?_, hgr.1, hgr.2⟩
      have h63' : ¬ (9223372036854775807 < ((n : Int) + (m : Int))) := by omega
      have h48 : ¬ (281474976710656 < Builtin.nextslicecap (n + m) cap * i.bytes) := by have := growslice_fits (show cap < n + m by omega) hbytes; omega
      have hfo := run_firstCells_some (P := P) w.drew i.size n ⟨g, 0, none⟩ n cap xs hown.1 (by simpa using holds)
      simp [Builtin.append_, run_underlying ht, run_underlying hu, sizeOf, typeInfo, zeroValue, hi, hz, hwr, hneg, hbig, hms, hroom, asInt, asIntOf, h63', h48, Question.forced, hfo, newRow, grownCap]
end

end Go.Proofs.YtkemmffdiclloaaGreatDoor
namespace Go.Proofs.YtkemmffdiclloaaGreatDoor
open Go.RowKit

/-- A string of bytes. -/
def sv (l : List UInt8) : Value := .string ⟨l.toArray⟩

section
variable {P : Program}
theorem run_bytes_str {w : World} {S : Nat → Prop} {A : Option Addr} {n c : Nat} {bs : List UInt8} (h : RdB w S A n bs) (src dst e : TypeId) (hs : P.underlying src = some (.slice e)) (he : P.underlying e = some (.int .u8)) (hd : P.underlying dst = some .string) :
    (convert src dst (.slice A n c)).run P w = .ok (.string ⟨bs.toArray⟩) w := by
  have hlen := h.len
  rcases Nat.eq_zero_or_pos n with rfl | hn
  · have : bs = [] := List.eq_nil_of_length_eq_zero hlen
    subst this
    cases A with
    | none => exact run_convert_bytes_nil w src e hs he 0 c dst hd
    | some ad =>
      have := run_convert_bytes_back (P := P) w src dst e ad c [] hs he hd (fun j hj => by simp at hj)
      simpa using this
  · obtain ⟨ad, rfl, _, hx⟩ := Rds.ex h hn
    have := run_convert_bytes_back (P := P) w src dst e ad c bs hs he hd (fun j hj => hx j _ (by simp [hj, bv]))
    rw [hlen] at this
    exact this

/-- '[]byte(s)'. -/
theorem row_of_str (w : World) (e : TypeId) (s : ByteArray) (C : Nat) (hC : s.size ≤ C) (hCm : C ≤ maxLen) :
    Row (w.drew.alloc (.cells (bytesRow s C) e ((bytesRow s C).size, (bytesRow s C).size + 1))) e 1 (.slice (some ⟨w.heap.size, 0, none⟩) s.size C) s.size (s.data.toList.map bv) := by
  refine ⟨by simp, .inr ⟨w.heap.size, C, (bytesRow s C).toList, (bytesRow s C).size, (bytesRow s C).size + 1, rfl, ?_, .inr (by simp), hC, hCm, ?_, ?_⟩⟩
  · exact (heap_alloc_new w.drew _).trans (by simp)
  · simp only [bytesRow, Array.length_toList, Array.size_append, Array.size_map, Array.size_replicate]
    have : s.data.size = s.size := rfl
    omega
  · simp only [bytesRow, Array.toList_append, Array.toList_map, Nat.mul_one]
    rw [List.take_left']
    · rfl
    · simp
theorem wpl_bytes {ops : Array Oper} {rest : List Oper} {o : Oper} {a : Act} {w : World} {Q : Exit → Act → World → Prop} (hgd : o.guard = none) (x : Operand) (src dst e : TypeId)
    (ho : o.op = .convert src dst x) (hs : P.underlying src = some .string) (hd : P.underlying dst = some (.slice e)) (he : P.underlying e = some (.int .u8)) (l : List UInt8) (hx : a.eval x = .string ⟨l.toArray⟩) (hm : l.length ≤ maxLen)
    (h : ∀ C w', l.length ≤ C → C ≤ maxLen → Row w' e 1 (.slice (some ⟨w.heap.size, 0, none⟩) l.length C) l.length (l.map bv) → Chg Nil w w' → w.heap.size < w'.heap.size → wpList P ops Q rest (a.put o.dst (.slice (some ⟨w.heap.size, 0, none⟩) l.length C)) w') :
    wpList P ops Q (o :: rest) a w := by
  refine wpList_plain hgd fun K hK => ?_
  have hsz : (ByteArray.mk l.toArray).size = l.length := by simp [ByteArray.size]
  have hrun := run_bytes_of_string (P := P) w src dst e ⟨l.toArray⟩ hs hd he
  have hge := grownCap_ge w l.length 0 e
  have hcm := grownCap_le_maxLen w l.length 0 e hm
  have hrow := row_of_str w e ⟨l.toArray⟩ (grownCap w l.length 0 e) (by rw [hsz]; exact hge) hcm
  rw [hsz] at hrun hrow
  unfold Oper.wp execOp
  simp only [ho, Sem.run_bind, hx, hrun, Result.andThen_ok]
  exact hK _ _ (h _ _ hge hcm hrow (((Chg.refl _ w).drew).alloc _) (by simp))

theorem wpl_append_row {ops : Array Oper} {rest : List Oper} {o : Oper} {a : Act} {w : World} {Q : Exit → Act → World → Prop} (hgd : o.guard = none) (s x : Operand) (t : TypeId)
    (ho : o.op = .call { callee := .builtin .append, args := #[s, x], argTypes := #[t, t] })
    (e : TypeId) (i : TypeInfo) (z : Value) (sz bytes : Nat) (ht : P.underlying t = some (.slice e)) (hi : P.info? e = some i) (hz : i.zero = some z)
    (hsize : i.size = sz) (hby : i.bytes = bytes) (hzs : z.cells.size = sz) (hsz : 0 < sz)
    (v : Value) (n : Nat) (xs : List Value) (hs : a.eval s = v) (hown : Row w e sz v n xs)
    (S : Nat → Prop) (A : Option Addr) (m c : Nat) (news : List Value) (hx : a.eval x = .slice A m c) (hr : Rds w S sz A m news) (h1 : ∀ u ∈ news, u.oneCell' = true)
    (h63 : n + m ≤ maxLen) (hbytes : (n + m) * bytes ≤ 140737488355328)
    (h : ∀ v' w', Row w' e sz v' (n + m) (xs ++ news) → Grew w v w' v' → wpList P ops Q rest (a.put o.dst v') w') : wpList P ops Q (o :: rest) a w := by
  refine wpList_plain hgd fun K hK => ?_
  obtain ⟨v', w', hrun, h2, h3⟩ := run_append_row (P := P) w t o.type e i z sz bytes ht hi hz hsize hby hzs hsz v n xs hown S A m c news hr h1 h63 hbytes
  unfold Oper.wp execOp
  simp only [ho, resolve, invoke, builtin, Sem.run_bind, Sem.run_pure, Result.andThen_ok, List.map_toArray, List.map_cons, List.map_nil, hs, hx, hrun]
  exact hK _ _ (h v' w' h2 h3)

theorem wpl_append_zeros {ops : Array Oper} {rest : List Oper} {o : Oper} {a : Act} {w : World} {Q : Exit → Act → World → Prop} (hgd : o.guard = none) (s x : Operand) (t u : TypeId)
    (ho : o.op = .call { callee := .builtin .append, args := #[s, x], argTypes := #[t, u] })
    (e : TypeId) (i : TypeInfo) (z : Value) (sz bytes : Nat) (ht : P.underlying t = some (.slice e)) (hu : P.underlying u = some (.int .i64)) (hi : P.info? e = some i) (hz : i.zero = some z)
    (hsize : i.size = sz) (hby : i.bytes = bytes) (hzs : z.cells.size = sz) (hsz : 0 < sz) (m : Nat) (hone : ∀ x ∈ (Builtin.zeroCells z.cells m).toList, x.oneCell' = true)
    (v : Value) (n : Nat) (xs : List Value) (hs : a.eval s = v) (hown : Row w e sz v n xs) (hx : a.eval x = .int .i64 (m : Int)) (hm : 0 < m)
    (h63 : n + m ≤ maxLen) (hbytes : (n + m) * bytes ≤ 140737488355328)
    (h : ∀ v' w', Row w' e sz v' (n + m) (xs ++ (Builtin.zeroCells z.cells m).toList) → Grew w v w' v' → wpList P ops Q rest (a.put o.dst v') w') : wpList P ops Q (o :: rest) a w := by
  refine wpList_plain hgd fun K hK => ?_
  obtain ⟨v', w', hrun, h2, h3⟩ := run_append_zeros (P := P) w m t u o.type e i z sz bytes ht hu hi hz hsize hby hzs hsz hone v n xs hown hm h63 hbytes
  unfold Oper.wp execOp
  simp only [ho, resolve, invoke, builtin, Sem.run_bind, Sem.run_pure, Result.andThen_ok, List.map_toArray, List.map_cons, List.map_nil, hs, hx, hrun]
  exact hK _ _ (h v' w' h2 h3)
end

theorem zero_bytes (m : Nat) : (Builtin.zeroCells (Value.int .u8 0).cells m).toList = (List.replicate m (0 : UInt8)).map bv := by
  apply List.ext_getElem?
  intro j
  by_cases hj : j < m
  · simp [Builtin.zeroCells, Value.cells, hj, Nat.mod_one, bv]
  · simp [Builtin.zeroCells, Value.cells, hj]

end Go.Proofs.YtkemmffdiclloaaGreatDoor
namespace Go.Proofs.YtkemmffdiclloaaGreatDoor
open Go.RowKit
theorem wpl_make {P : Program} {w : World} {ops : Array Oper} {rest : List Oper} {o : Oper} {a : Act} {Q : Exit → Act → World → Prop}
    (hg : o.guard = none) (l c : Operand) (t : TypeId) (hop : o.op = Op.makeSlice t l c)
    (e : TypeId) (i : TypeInfo) (z : Value) (bytes : Nat) (h1 : P.underlying t = some (.slice e)) (h2 : P.info? e = some i) (h3 : i.zero = some z) (h4 : i.size = 1) (h5 : i.bytes = bytes) (hz : z.cells = #[z])
    (n : Nat) (hl : a.eval l = .int .i64 (n : Int)) (hc : a.eval c = .int .i64 (n : Int)) (b2 : bytes * n ≤ 281474976710656) (b3 : n ≤ maxLen)
    (hK : ∀ w', w'.ownsRow w.heap.size e 1 (.slice (some ⟨w.heap.size, 0, none⟩) n n) n (List.replicate n z) → Chg Nil w w' → w.heap.size < w'.heap.size → wpList P ops Q rest (a.put o.dst (.slice (some ⟨w.heap.size, 0, none⟩) n n)) w') :
    wpList P ops Q (o :: rest) a w := by
  refine wpList_make_full w hg l c t hop w.heap.size e i z 1 h1 h2 h3 h4 .i64 .i64 n n n hl hc rfl rfl (by rw [h5]; exact b2) b3 (Nat.le_refl _) fun w' r1 r2 => ?_
  rw [hz, Nat.mul_one, toList_madeCells_one] at r1
  refine hK w' r1 ((Chg.of_grown r2).wider fun _ _ h => by cases h) ?_
  exact own_lt r1 w.heap.size rfl

end Go.Proofs.YtkemmffdiclloaaGreatDoor
namespace Go.Proofs.YtkemmffdiclloaaGreatDoor
open Go.RowKit
section
variable {w : World} {e : TypeId} {g n C : Nat} {xs : List Value}
theorem Row.cellAt (h : Row w e 1 (.slice (some ⟨g, 0, none⟩) n C) n xs) {j : Nat} (hj : j < n) : w.cell? ⟨g, j, none⟩ = xs[j]? := by
  rcases h.2 with ⟨he, _⟩ | ⟨g', cap, cur, lo, hi, he, hg, hf, hc, hm, hs, ht⟩
  · cases he
  · injection he with h1 _ h3
    injection h1 with h1
    injection h1 with h1
    subst h1 h3
    rw [cell_of_list hg, ← ht, List.getElem?_take, if_pos (by omega)]
theorem Row.freeAt (h : Row w e 1 (.slice (some ⟨g, 0, none⟩) n C) n xs) {j : Nat} (hj : j < n) : w.frozen? ⟨g, j, none⟩ = false := by
  rcases h.2 with ⟨he, _⟩ | ⟨g', cap, cur, lo, hi, he, hg, hf, hc, hm, hs, ht⟩
  · cases he
  · injection he with h1 _ h3
    injection h1 with h1
    injection h1 with h1
    subst h1 h3
    exact free_of_list hg hf (by omega)
theorem Row.stored (h : Row w e 1 (.slice (some ⟨g, 0, none⟩) n C) n xs) (j : Nat) (u : Value) : Row (w.setCell ⟨g, j, none⟩ u) e 1 (.slice (some ⟨g, 0, none⟩) n C) n (xs.set j u) := by
  refine ⟨by simpa using h.1, ?_⟩
  rcases h.2 with ⟨he, _⟩ | ⟨g', cap, cur, lo, hi, he, hg, hf, hc, hm, hs, ht⟩
  · cases he
  · injection he with h1 _ h3
    injection h1 with h1
    injection h1 with h1
    subst h1 h3
    refine .inr ⟨g, C, cur.set j u, lo, hi, rfl, ?_, by simpa using hf, hc, hm, by simpa using hs, ?_⟩
    · simp [World.setCell, Array.getElem?_modify, hg]
    · rw [← ht, List.take_set]
end
theorem set_map_bv (l : List UInt8) (i : Nat) (b : UInt8) : (l.map bv).set i (bv b) = (l.set i b).map bv := by
  rw [List.map_set]

theorem i64_and_1 (n : Int) : bits .and .i64 n 1 = ((((n % 2).toNat : Nat)) : Int) := by
  have h : (BitVec.ofInt 64 1).toNat = 2 ^ 1 - 1 := by decide
  have key : (BitVec.ofInt 64 n &&& BitVec.ofInt 64 1).toNat = (n % ((2 ^ 64 : Nat) : Int)).toNat % 2 ^ 1 := by
    rw [BitVec.toNat_and, BitVec.toNat_ofInt, h, Nat.and_two_pow_sub_one_eq_mod]
  show IntKind.i64.wrap ((BitVec.ofInt 64 n &&& BitVec.ofInt 64 1).toNat : Nat) = _
  rw [key, IntKind.wrap_i64]
  omega
theorem i64_and_3 (n : Int) : bits .and .i64 n 3 = ((((n % 4).toNat : Nat)) : Int) := by
  have h : (BitVec.ofInt 64 3).toNat = 2 ^ 2 - 1 := by decide
  have key : (BitVec.ofInt 64 n &&& BitVec.ofInt 64 3).toNat = (n % ((2 ^ 64 : Nat) : Int)).toNat % 2 ^ 2 := by
    rw [BitVec.toNat_and, BitVec.toNat_ofInt, h, Nat.and_two_pow_sub_one_eq_mod]
  show IntKind.i64.wrap ((BitVec.ofInt 64 n &&& BitVec.ofInt 64 3).toNat : Nat) = _
  rw [key, IntKind.wrap_i64]
  omega
theorem i64_and_7 (n : Int) : bits .and .i64 n 7 = ((((n % 8).toNat : Nat)) : Int) := by
  have h : (BitVec.ofInt 64 7).toNat = 2 ^ 3 - 1 := by decide
  have key : (BitVec.ofInt 64 n &&& BitVec.ofInt 64 7).toNat = (n % ((2 ^ 64 : Nat) : Int)).toNat % 2 ^ 3 := by
    rw [BitVec.toNat_and, BitVec.toNat_ofInt, h, Nat.and_two_pow_sub_one_eq_mod]
  show IntKind.i64.wrap ((BitVec.ofInt 64 n &&& BitVec.ofInt 64 7).toNat : Nat) = _
  rw [key, IntKind.wrap_i64]
  omega
theorem i64_and_15 (n : Int) : bits .and .i64 n 15 = ((((n % 16).toNat : Nat)) : Int) := by
  have h : (BitVec.ofInt 64 15).toNat = 2 ^ 4 - 1 := by decide
  have key : (BitVec.ofInt 64 n &&& BitVec.ofInt 64 15).toNat = (n % ((2 ^ 64 : Nat) : Int)).toNat % 2 ^ 4 := by
    rw [BitVec.toNat_and, BitVec.toNat_ofInt, h, Nat.and_two_pow_sub_one_eq_mod]
  show IntKind.i64.wrap ((BitVec.ofInt 64 n &&& BitVec.ofInt 64 15).toNat : Nat) = _
  rw [key, IntKind.wrap_i64]
  omega
theorem i64_and_31 (n : Int) : bits .and .i64 n 31 = ((((n % 32).toNat : Nat)) : Int) := by
  have h : (BitVec.ofInt 64 31).toNat = 2 ^ 5 - 1 := by decide
  have key : (BitVec.ofInt 64 n &&& BitVec.ofInt 64 31).toNat = (n % ((2 ^ 64 : Nat) : Int)).toNat % 2 ^ 5 := by
    rw [BitVec.toNat_and, BitVec.toNat_ofInt, h, Nat.and_two_pow_sub_one_eq_mod]
  show IntKind.i64.wrap ((BitVec.ofInt 64 n &&& BitVec.ofInt 64 31).toNat : Nat) = _
  rw [key, IntKind.wrap_i64]
  omega
theorem i64_and_63 (n : Int) : bits .and .i64 n 63 = ((((n % 64).toNat : Nat)) : Int) := by
  have h : (BitVec.ofInt 64 63).toNat = 2 ^ 6 - 1 := by decide
  have key : (BitVec.ofInt 64 n &&& BitVec.ofInt 64 63).toNat = (n % ((2 ^ 64 : Nat) : Int)).toNat % 2 ^ 6 := by
    rw [BitVec.toNat_and, BitVec.toNat_ofInt, h, Nat.and_two_pow_sub_one_eq_mod]
  show IntKind.i64.wrap ((BitVec.ofInt 64 n &&& BitVec.ofInt 64 63).toNat : Nat) = _
  rw [key, IntKind.wrap_i64]
  omega
theorem i64_and_127 (n : Int) : bits .and .i64 n 127 = ((((n % 128).toNat : Nat)) : Int) := by
  have h : (BitVec.ofInt 64 127).toNat = 2 ^ 7 - 1 := by decide
  have key : (BitVec.ofInt 64 n &&& BitVec.ofInt 64 127).toNat = (n % ((2 ^ 64 : Nat) : Int)).toNat % 2 ^ 7 := by
    rw [BitVec.toNat_and, BitVec.toNat_ofInt, h, Nat.and_two_pow_sub_one_eq_mod]
  show IntKind.i64.wrap ((BitVec.ofInt 64 n &&& BitVec.ofInt 64 127).toNat : Nat) = _
  rw [key, IntKind.wrap_i64]
  omega
theorem i64_and_255 (n : Int) : bits .and .i64 n 255 = ((((n % 256).toNat : Nat)) : Int) := by
  have h : (BitVec.ofInt 64 255).toNat = 2 ^ 8 - 1 := by decide
  have key : (BitVec.ofInt 64 n &&& BitVec.ofInt 64 255).toNat = (n % ((2 ^ 64 : Nat) : Int)).toNat % 2 ^ 8 := by
    rw [BitVec.toNat_and, BitVec.toNat_ofInt, h, Nat.and_two_pow_sub_one_eq_mod]
  show IntKind.i64.wrap ((BitVec.ofInt 64 n &&& BitVec.ofInt 64 255).toNat : Nat) = _
  rw [key, IntKind.wrap_i64]
  omega
theorem i64_and_65535 (n : Int) : bits .and .i64 n 65535 = ((((n % 65536).toNat : Nat)) : Int) := by
  have h : (BitVec.ofInt 64 65535).toNat = 2 ^ 16 - 1 := by decide
  have key : (BitVec.ofInt 64 n &&& BitVec.ofInt 64 65535).toNat = (n % ((2 ^ 64 : Nat) : Int)).toNat % 2 ^ 16 := by
    rw [BitVec.toNat_and, BitVec.toNat_ofInt, h, Nat.and_two_pow_sub_one_eq_mod]
  show IntKind.i64.wrap ((BitVec.ofInt 64 n &&& BitVec.ofInt 64 65535).toNat : Nat) = _
  rw [key, IntKind.wrap_i64]
  omega

end Go.Proofs.YtkemmffdiclloaaGreatDoor
namespace Go.Proofs.YtkemmffdiclloaaGreatDoor
open Go.RowKit

section
variable {P : Program} {C : World → Prop} {a : Act} {o : Oper} {K : Act → Prop}
theorem wp_region_class {id : Nat} {Q : Exit → Act → World → Prop} {w : World} {l : List Oper} (C : World → Prop) (hm : P.follows .mixedOrders = true) (hB : Region.lexB .any l.toArray = true) (hC : C { w with drawn := w.drawn + 1 })
    (h : wpQuiet P l.toArray C (fun a' => ∀ w', C w' → Q .normal a' w') l a) : (Code.region id l.toArray true).wp P Q a w := wp_region_quiet hm hB hC (by simpa using h)
end

/-- A world in which all that was there in w is as it was. -/
structure After (w : World) where
  world : World
  below : Below w.heap.size w world
theorem After.some (w : World) : Nonempty (After w) := ⟨⟨w, Below.refl _ _⟩⟩
theorem After.chg {w : World} (x : After w) : Chg Nil w x.world := Chg.of_below x.below
theorem After.call {P : Program} {w : World} {f : FuncId} {args : Array Value} {r : Value} (h : ∀ W : World, Below w.heap.size w W → Calls P f args W (fun e w' => e = .returned r ∧ Below W.heap.size W w')) (x : After w) :
    Calls P f args x.world (fun e w' => e = .returned r ∧ ∃ y : After w, w' = y.world) :=
  (h x.world x.below).mono fun _ w' ⟨he, hb⟩ => ⟨he, ⟨w', x.below.trans (hb.mono x.below.size)⟩, rfl⟩
theorem wp_region_after {P : Program} {a : Act} {id : Nat} {Q : Exit → Act → World → Prop} {w : World} {l : List Oper} (hm : P.follows .mixedOrders = true) (hB : Region.lexB .any l.toArray = true)
    (h : wpQuiet P l.toArray (fun W => ∃ x : After w, W = x.world) (fun a' => ∀ w', (∃ x : After w, w' = x.world) → Q .normal a' w') l a) : (Code.region id l.toArray true).wp P Q a w :=
  wp_region_class (fun W => ∃ x : After w, W = x.world) hm hB ⟨⟨{ w with drawn := w.drawn + 1 }, ⟨rfl, rfl, rfl, Nat.le_refl _, fun _ _ => rfl⟩⟩, rfl⟩ h

end Go.Proofs.YtkemmffdiclloaaGreatDoor
namespace Go.Proofs.YtkemmffdiclloaaGreatDoor
open Go.RowKit
theorem After.stepN {w : World} (x : After w) {W : World} (h : Chg Nil x.world W) : ∃ y : After w, W = y.world := ⟨⟨W, (x.chg.trans h (fun _ _ h => h)).below_nil⟩, rfl⟩
theorem After.callE {P : Program} {w : World} {f : FuncId} {args : Array Value} {r : Value} (h : ∀ W : World, Calls P f args W (fun e w' => e = .returned r ∧ Chg Nil W w')) (x : After w) :
    Calls P f args x.world (fun e w' => e = .returned r ∧ ∃ y : After w, w' = y.world) := (h x.world).mono fun _ _ ⟨h1, h2⟩ => ⟨h1, x.stepN h2⟩
theorem Bk.after {w : World} {g : Nat} {t : TypeId} {cs : Array Value} (h : Bk w g t cs) (x : After w) : Bk x.world g t cs := h.keep x.chg (fun h => h)

end Go.Proofs.YtkemmffdiclloaaGreatDoor
