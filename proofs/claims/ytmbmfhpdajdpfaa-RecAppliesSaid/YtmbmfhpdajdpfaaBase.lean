/- Plain words for memory, over any program: frames (which blocks may have changed), a slice that reads as a list of cells, rows of the call's own through several steps. No condition. -/
import Derived.Test.YtmbmfhpdajdpfaaChecked
import Derived.WalkKit
import Derived.WalkSpells
import Derived.WalkLawsBesides
import Derived.Below
import Derived.Laws.OwnMore
import Derived.Deep.AppendLies
import Derived.Deep.Draws
import Derived.Laws.Rows
import Derived.Maps.AppendAt
import Derived.RegionTactic
import Derived.OwnWalk
import Derived.Lib.Hide
import Derived.Deep.OwnRows
import Derived.Laws.AppendOwn
namespace Go.Proofs.Ytmbmfhpdajdpfaa
open Go.RowKit

/-! ### frames -/
/-- From w to w' only blocks of S, and new ones, may have changed. -/
structure Chg (S : Nat → Prop) (w w' : World) : Prop where
  os : w'.os = w.os
  tape : w'.tape = w.tape
  output : w'.output = w.output
  size : w.heap.size ≤ w'.heap.size
  old : ∀ k, k < w.heap.size → ¬ S k → w'.heap[k]? = w.heap[k]?

/-- No block. -/
def Nil : Nat → Prop := fun _ => False
/-- The block in which a slice value lies. -/
def Own (v : Value) : Nat → Prop := fun k => v.ownBlock = some k

section
variable {S T : Nat → Prop} {a b c w w' : World}
theorem Chg.refl (S : Nat → Prop) (w : World) : Chg S w w := ⟨rfl, rfl, rfl, Nat.le_refl _, fun _ _ _ => rfl⟩
theorem Chg.trans (h : Chg S a b) (k : Chg T b c) (hT : ∀ i, i < a.heap.size → T i → S i) : Chg S a c :=
  ⟨k.os.trans h.os, k.tape.trans h.tape, k.output.trans h.output, Nat.le_trans h.size k.size,
    fun i hi hn => (k.old i (Nat.lt_of_lt_of_le hi h.size) (fun ht => hn (hT i hi ht))).trans (h.old i hi hn)⟩
theorem Chg.wider (h : Chg S a b) (hS : ∀ i, i < a.heap.size → S i → T i) : Chg T a b :=
  ⟨h.os, h.tape, h.output, h.size, fun i hi hn => h.old i hi fun hs => hn (hS i hi hs)⟩
theorem Chg.of_below (h : Below w.heap.size w w') : Chg S w w' := ⟨h.os, h.tape, h.output, h.size, fun i hi _ => h.block i hi⟩
theorem Chg.of_grown {r : Option Nat} (h : w.grownBy w' r) : Chg (fun k => r = some k) w w' := ⟨h.os, h.tape, h.output, h.size, fun i hi hn => h.block i hi fun e => hn e.symm⟩
theorem Chg.below {B : Nat} {w0 : World} (h : Chg S w w') (hb : Below B w0 w) (hB : B ≤ w.heap.size) (hS : ∀ i, i < w.heap.size → S i → B ≤ i) : Below B w0 w' :=
  hb.trans ⟨h.os, h.tape, h.output, h.size, fun i hi => h.old i (by omega) fun hs => by have := hS i (by omega) hs; omega⟩
theorem Chg.below_nil (h : Chg Nil w w') : Below w.heap.size w w' := ⟨h.os, h.tape, h.output, h.size, fun i hi => h.old i hi fun hs => hs⟩
theorem Chg.drew (h : Chg S a w) : Chg S a w.drew := ⟨h.os, h.tape, h.output, h.size, h.old⟩
theorem Chg.drewN (h : Chg S a w) (n : Nat) : Chg S a (w.drewN n) := ⟨h.os, h.tape, h.output, h.size, h.old⟩
theorem Chg.alloc (h : Chg S a w) (o : Obj) : Chg S a (w.alloc o) :=
  ⟨h.os, h.tape, h.output, Nat.le_trans h.size (by simp), fun i hi hn => (Below.heap_alloc w o i (Nat.lt_of_lt_of_le hi h.size)).trans (h.old i hi hn)⟩
theorem Chg.setCell (h : Chg S a w) {p : Addr} (hp : p.block < a.heap.size → S p.block) (u : Value) : Chg S a (w.setCell p u) :=
  ⟨h.os, h.tape, h.output, by simpa [World.setCell] using h.size, fun i hi hn => (Below.heap_setCell w p u i (by
    rintro rfl
    exact hn (hp hi))).trans (h.old i hi hn)⟩
theorem Chg.setRow (h : Chg S a w) {g : Nat} (hg : g < a.heap.size → S g) (cs : Array Value) : Chg S a (w.setRow g cs) :=
  ⟨h.os, h.tape, h.output, by simpa using h.size, fun i hi hn => (setRow_other w g i cs (by rintro rfl; exact hn (hg hi))).trans (h.old i hi hn)⟩
theorem Chg.cell (h : Chg S w w') {p : Addr} {u : Value} (hp : w.cell? p = some u) (hn : ¬ S p.block) : w'.cell? p = some u :=
  (World.cell?_of_block (h.old p.block (block_lt_of_cell hp) hn)).trans hp
theorem Chg.block (h : Chg S w w') {k : Nat} {o : Obj} (hk : w.heap[k]? = some o) (hn : ¬ S k) : w'.heap[k]? = some o := by
  rcases Nat.lt_or_ge k w.heap.size with hlt | hge
  · exact (h.old k hlt hn).trans hk
  · rw [Array.getElem?_eq_none hge] at hk; cases hk
end

/-! ### a slice that reads as a list of cells -/
/-- The slice '.slice A n _' of elements of 'sz' cells reads the cells xs; it lies in a block of S. -/
def Rds (w : World) (S : Nat → Prop) (sz : Nat) (A : Option Addr) (n : Nat) (xs : List Value) : Prop :=
  xs.length = n * sz ∧ (0 < n → ∃ ad, A = some ad ∧ S ad.block ∧ ∀ j u, xs[j]? = some u → w.cell? (ad.add j) = some u)

theorem add_block (a : Addr) (n : Nat) : (a.add n).block = a.block := by unfold Addr.add; split <;> rfl
theorem add_again (a : Addr) (i j : Nat) : (a.add i).add j = a.add (i + j) := by
  unfold Addr.add
  rcases Nat.eq_zero_or_pos i with rfl | hi
  · simp
  · rcases Nat.eq_zero_or_pos j with rfl | hj
    · simp
    · rw [if_neg (by omega), if_neg (by omega), if_neg (by omega)]
      simp [Nat.add_assoc]

section
variable {w w' : World} {S T : Nat → Prop} {sz n : Nat} {A : Option Addr} {xs : List Value}
theorem Rds.nil : Rds w S sz A 0 [] := ⟨by simp, fun h => absurd h (by omega)⟩
theorem Rds.len (h : Rds w S 1 A n xs) : xs.length = n := by simpa using h.1
theorem Rds.wider (h : Rds w S sz A n xs) (hS : ∀ k, k < w.heap.size → S k → T k) (hsz : 0 < sz) : Rds w T sz A n xs := ⟨h.1, fun hn => by
  obtain ⟨ad, e, hs, hc⟩ := h.2 hn
  have hl : 0 < xs.length := by rw [h.1]; exact Nat.mul_pos hn hsz
  exact ⟨ad, e, hS _ (by have := block_lt_of_cell (hc 0 _ (List.getElem?_eq_getElem hl)); rwa [add_block] at this) hs, hc⟩⟩
/-- It lies in a block that is there. -/
theorem Rds.here (h : Rds w S sz A n xs) (hsz : 0 < sz) : Rds w (fun k => S k ∧ k < w.heap.size) sz A n xs := h.wider (fun _ hk hs => ⟨hs, hk⟩) hsz
theorem Rds.keep (h : Rds w S sz A n xs) (hc : Chg T w w') (hd : ∀ k, S k → T k → False) : Rds w' S sz A n xs := ⟨h.1, fun hn => by
  obtain ⟨ad, e, hs, hx⟩ := h.2 hn
  exact ⟨ad, e, hs, fun j u hu => hc.cell (hx j u hu) (by rw [add_block]; exact hd _ hs)⟩⟩
theorem Rds.at_ {k : Nat} (h : Rds w S 1 A n xs) (hk : k < n) : ∃ ad u, A = some ad ∧ S ad.block ∧ xs[k]? = some u ∧ w.cell? (ad.add k) = some u := by
  obtain ⟨ad, e, hs, hx⟩ := h.2 (by omega)
  have hl : k < xs.length := by rw [h.len]; exact hk
  exact ⟨ad, xs[k], e, hs, List.getElem?_eq_getElem hl, hx k _ (List.getElem?_eq_getElem hl)⟩
/-- 's[k:]' and 's[k:m]': the address keeps the model's 'if'. -/
theorem Rds.part (h : Rds w S sz A n xs) {k m : Nat} {c : Prop} [Decidable c] (hk : k ≤ m) (hm : m ≤ n) (hc : k < m → ¬ c) :
    Rds w S sz (if c then A else A.map (·.add (k * sz))) (m - k) ((xs.drop (k * sz)).take ((m - k) * sz)) := by
  refine ⟨?_, fun hn => ?_⟩
  · rw [List.length_take, List.length_drop, h.1, ← Nat.sub_mul]
    exact Nat.min_eq_left (Nat.mul_le_mul_right _ (by omega))
  · obtain ⟨ad, rfl, hs, hx⟩ := h.2 (by omega)
    rw [if_neg (hc (by omega))]
    refine ⟨ad.add (k * sz), rfl, by rw [add_block]; exact hs, fun j u hu => ?_⟩
    rw [add_again]
    rw [List.getElem?_take] at hu
    split at hu
    · rw [List.getElem?_drop] at hu; exact hx _ u hu
    · cases hu
/-- 's[:m]'. -/
theorem Rds.front (h : Rds w S sz A n xs) {m : Nat} (hm : m ≤ n) : Rds w S sz A m (xs.take (m * sz)) := by
  refine ⟨?_, fun hn => ?_⟩
  · rw [List.length_take, h.1]
    exact Nat.min_eq_left (Nat.mul_le_mul_right _ hm)
  · obtain ⟨ad, e, hs, hx⟩ := h.2 (by omega)
    refine ⟨ad, e, hs, fun j u hu => ?_⟩
    rw [List.getElem?_take] at hu
    split at hu
    · exact hx j u hu
    · cases hu
theorem Rds.of_own {base : Nat} {e : TypeId} {c : Nat} (h : w.ownsRow base e sz (.slice A n c) n xs) : Rds w (Own (.slice A n c)) sz A n xs := by
  refine ⟨h.1, fun hn => ?_⟩
  obtain ⟨g, cap, hv, _, hlt⟩ := h.form hn
  have hA : A = some ⟨g, 0, none⟩ := by injection hv
  subst hA
  exact ⟨_, rfl, rfl, h.cells (g := g) rfl⟩
end

/-! ### bytes -/
/-- A byte's value. -/
def bv (b : UInt8) : Value := .int .u8 (b.toNat : Int)
theorem bv_one (l : List UInt8) : ∀ u ∈ l.map bv, u.oneCell' = true := by
  intro u hu
  obtain ⟨b, _, rfl⟩ := List.mem_map.1 hu
  rfl
/-- A slice of n bytes that reads bs. -/
def RdB (w : World) (S : Nat → Prop) (A : Option Addr) (n : Nat) (bs : List UInt8) : Prop := Rds w S 1 A n (bs.map bv)
section
variable {w w' : World} {S T : Nat → Prop} {n : Nat} {A : Option Addr} {bs : List UInt8}
theorem RdB.len (h : RdB w S A n bs) : bs.length = n := by simpa using Rds.len h
theorem RdB.wider (h : RdB w S A n bs) (hS : ∀ k, k < w.heap.size → S k → T k) : RdB w T A n bs := Rds.wider h hS (by omega)
theorem RdB.here (h : RdB w S A n bs) : RdB w (fun k => S k ∧ k < w.heap.size) A n bs := Rds.here h (by omega)
theorem RdB.keep (h : RdB w S A n bs) (hc : Chg T w w') (hd : ∀ k, S k → T k → False) : RdB w' S A n bs := Rds.keep h hc hd
theorem RdB.front (h : RdB w S A n bs) {m : Nat} (hm : m ≤ n) : RdB w S A m (bs.take m) := by
  have := Rds.front h hm
  unfold RdB
  rw [List.map_take]
  simpa using this
theorem RdB.nil : RdB w S A 0 [] := Rds.nil
/-- 's[k:m]'. -/
theorem RdB.part (h : RdB w S A n bs) {k m : Nat} {c : Prop} [Decidable c] (hk : k ≤ m) (hm : m ≤ n) (hc : k < m → ¬ c) :
    RdB w S (if c then A else A.map (·.add (k * 1))) (m - k) ((bs.drop k).take (m - k)) := by
  have := Rds.part h hk hm hc
  unfold RdB
  rw [List.map_take, List.map_drop]
  simpa using this
end

/-- Where there is an element, the address is plain. -/
theorem Rds.plain {w : World} {S : Nat → Prop} {n sz : Nat} {A : Option Addr} {xs : List Value} (h : Rds w S sz A n xs) (hn : 0 < n) (hsz : 0 < sz) :
    ∃ b off, A = some ⟨b, off, none⟩ ∧ S b ∧ b < w.heap.size ∧ ∀ j u, xs[j]? = some u → w.cell? ⟨b, off + j, none⟩ = some u := by
  obtain ⟨⟨b, off, spot⟩, rfl, hs, hx⟩ := h.2 hn
  have hl : 0 < xs.length := by rw [h.1]; exact Nat.mul_pos hn hsz
  have h0 := hx 0 _ (List.getElem?_eq_getElem hl)
  have hspot : spot = none := by simpa [Addr.add] using World.cell?_spot h0
  subst hspot
  have hb := block_lt_of_cell h0
  rw [add_block] at hb
  refine ⟨b, off, rfl, hs, hb, fun j u hu => ?_⟩
  have := hx j u hu
  by_cases hj : j = 0
  · subst hj; simpa [Addr.add] using this
  · simpa [Addr.add, hj] using this
theorem RdB.plain {w : World} {S : Nat → Prop} {n : Nat} {A : Option Addr} {bs : List UInt8} (h : RdB w S A n bs) (hn : 0 < n) :
    ∃ b off, A = some ⟨b, off, none⟩ ∧ S b ∧ b < w.heap.size ∧ ∀ j u, (bs.map bv)[j]? = some u → w.cell? ⟨b, off + j, none⟩ = some u := Rds.plain h hn (by omega)
theorem RdB.of_cells {w : World} {S : Nat → Prop} {b off n : Nat} {bs : List UInt8} (hl : bs.length = n) (hb : S b) (h : ∀ j u, (bs.map bv)[j]? = some u → w.cell? ⟨b, off + j, none⟩ = some u) : RdB w S (some ⟨b, off, none⟩) n bs :=
  ⟨by simpa using hl, fun _ => ⟨_, rfl, hb, fun j u hu => by
    have := h j u hu
    by_cases hj : j = 0
    · subst hj; simpa [Addr.add] using this
    · simpa [Addr.add, hj] using this⟩⟩
/-- A cut of it. -/
theorem RdB.shift {w : World} {b off : Nat} {bs : List UInt8} (k : Nat) (h : ∀ j u, (bs.map bv)[j]? = some u → w.cell? ⟨b, off + j, none⟩ = some u) :
    ∀ j u, ((bs.drop k).map bv)[j]? = some u → w.cell? ⟨b, off + k + j, none⟩ = some u := fun j u hu => by
  rw [Nat.add_assoc]
  exact h (k + j) u (by rw [List.map_drop, List.getElem?_drop] at hu; exact hu)
theorem RdB.byte {w : World} {b off : Nat} {bs : List UInt8} (h : ∀ j u, (bs.map bv)[j]? = some u → w.cell? ⟨b, off + j, none⟩ = some u) {j : Nat} (hj : j < bs.length) :
    w.cell? ⟨b, off + j, none⟩ = some (.int .u8 (bs[j].toNat : Int)) := h j _ (by simp [hj, bv])

/-! ### a slice of slices of bytes -/
/-- The cells vs are slices of bytes that read the bodies. -/
def RdL (w : World) (S : Nat → Prop) (vs : List Value) (bodies : List (List UInt8)) : Prop :=
  vs.length = bodies.length ∧ ∀ (i : Nat) (b : List UInt8), bodies[i]? = some b → ∃ A c, vs[i]? = some (Value.slice A b.length c) ∧ b.length ≤ c ∧ c ≤ maxLen ∧ RdB w S A b.length b
section
variable {w w' : World} {S T : Nat → Prop} {vs : List Value} {bodies : List (List UInt8)}
theorem RdL.nil : RdL w S [] [] := ⟨rfl, fun i b h => by simp at h⟩
theorem RdL.keep (h : RdL w S vs bodies) (hc : Chg T w w') (hd : ∀ k, S k → T k → False) : RdL w' S vs bodies :=
  ⟨h.1, fun i b hb => by
    obtain ⟨A, c, h1, h2, h3, h4⟩ := h.2 i b hb
    exact ⟨A, c, h1, h2, h3, h4.keep hc hd⟩⟩
theorem RdL.wider (h : RdL w S vs bodies) (hS : ∀ k, k < w.heap.size → S k → T k) : RdL w T vs bodies :=
  ⟨h.1, fun i b hb => by
    obtain ⟨A, c, h1, h2, h3, h4⟩ := h.2 i b hb
    exact ⟨A, c, h1, h2, h3, h4.wider hS⟩⟩
theorem RdL.snoc (h : RdL w S vs bodies) {A : Option Addr} {c : Nat} {b : List UInt8} (hb : RdB w S A b.length b) (h2 : b.length ≤ c) (h3 : c ≤ maxLen) : RdL w S (vs ++ [Value.slice A b.length c]) (bodies ++ [b]) := by
  refine ⟨by simp [h.1], fun i b' hb' => ?_⟩
  rcases Nat.lt_or_ge i bodies.length with hlt | hge
  · rw [List.getElem?_append_left hlt] at hb'
    obtain ⟨A, c, h1, h2, h3, h4⟩ := h.2 i b' hb'
    exact ⟨A, c, by rw [List.getElem?_append_left (by rw [h.1]; exact hlt)]; exact h1, h2, h3, h4⟩
  · rw [List.getElem?_append_right hge] at hb'
    have hi : i = bodies.length := by
      rcases Nat.lt_or_ge (i - bodies.length) 1 with h1 | h1
      · omega
      · rw [List.getElem?_eq_none (by simpa using h1)] at hb'; cases hb'
    subst hi
    simp at hb'
    subst hb'
    exact ⟨A, c, by rw [List.getElem?_append_right (by rw [h.1]; exact Nat.le_refl _)]; simp [h.1], h2, h3, hb⟩
end

/-! ### a block that is known whole -/
/-- Block g is just the cells cs of element type t, none frozen. -/
def Bk (w : World) (g : Nat) (t : TypeId) (cs : Array Value) : Prop := w.heap[g]? = some (.cells cs t (0, 0))
section
variable {w w' : World} {g : Nat} {t : TypeId} {cs : Array Value}
theorem Bk.lt (h : Bk w g t cs) : g < w.heap.size := by
  rcases Nat.lt_or_ge g w.heap.size with hlt | hge
  · exact hlt
  · unfold Bk at h; rw [Array.getElem?_eq_none hge] at h; cases h
theorem Bk.cell (h : Bk w g t cs) (i : Nat) {u : Value} (hu : cs[i]? = some u) : w.cell? ⟨g, i, none⟩ = some u := (cell_of_row w g i cs t (0, 0) h).trans hu
theorem Bk.free (h : Bk w g t cs) (i : Nat) : w.frozen? ⟨g, i, none⟩ = false := frozen_of_row w g i cs t h
theorem Bk.new (w : World) (t : TypeId) (cs : Array Value) : Bk (w.alloc (.cells cs t)) w.heap.size t cs := heap_alloc_new w _
theorem Bk.alloc (h : Bk w g t cs) (o : Obj) : Bk (w.alloc o) g t cs := (heap_alloc_old w o h.lt).trans h
theorem Bk.keep {S : Nat → Prop} (h : Bk w g t cs) (hc : Chg S w w') (hn : ¬ S g) : Bk w' g t cs := hc.block h hn
theorem Bk.set (h : Bk w g t cs) (i : Nat) (u : Value) : Bk (w.setCell ⟨g, i, none⟩ u) g t (cs.setIfInBounds i u) := heap_setCell_same w g i cs t u h
theorem Bk.far (h : Bk w g t cs) {p : Addr} (hp : g ≠ p.block) (u : Value) : Bk (w.setCell p u) g t cs := (heap_setCell_other w p g u hp).trans h
theorem Bk.drew (h : Bk w g t cs) : Bk w.drew g t cs := h
theorem Bk.drewN (h : Bk w g t cs) (n : Nat) : Bk (w.drewN n) g t cs := h
end

/-! ### a row of the call's own through a step -/
/-- From (w, v) to (w', v'): only v's block, and new ones, may have changed; v' lies in v's block or in a new one. -/
structure Grew (w : World) (v : Value) (w' : World) (v' : Value) : Prop where
  chg : Chg (Own v) w w'
  lies : ∀ k, k < w.heap.size → Own v' k → Own v k

theorem own_at {g o n c k : Nat} {s : Option Nat} (h : Own (.slice (some ⟨g, o, s⟩) n c) k) : k = g := by
  have : g = k := by simpa [Own, Value.ownBlock] using h
  exact this.symm
section
variable {w w1 w2 : World} {v v1 v2 : Value}
theorem Grew.refl (w : World) (v : Value) : Grew w v w v := ⟨Chg.refl _ _, fun _ _ h => h⟩
theorem Grew.trans (h : Grew w v w1 v1) (k : Grew w1 v1 w2 v2) : Grew w v w2 v2 :=
  ⟨h.chg.trans k.chg h.lies, fun i hi h2 => h.lies i hi (k.lies i (Nat.lt_of_lt_of_le hi h.chg.size) h2)⟩
theorem Grew.of_grown (h : w.grownBy w1 v.ownBlock) (hl : v1.ownBlock = v.ownBlock ∨ v1.ownBlock = some w.heap.size) : Grew w v w1 v1 :=
  ⟨Chg.of_grown h, fun k hk hv => by
    rcases hl with e | e
    · exact e.symm.trans hv
    · have : some w.heap.size = some k := e.symm.trans hv
      injection this with this
      omega⟩
theorem Grew.below {B : Nat} {w0 : World} (h : Grew w v w1 v1) (hb : Below B w0 w) (hB : B ≤ w.heap.size) (hv : ∀ k, Own v k → B ≤ k) : Below B w0 w1 :=
  h.chg.below hb hB fun i _ hi => hv i hi
/-- A step behind a new block. -/
theorem Grew.alloc_left {o : Obj} (h : Grew (w.alloc o) v w1 v1) : Grew w v w1 v1 :=
  ⟨((Chg.refl (Own v) w).alloc o).trans h.chg fun _ _ h => h, fun k hk h2 => h.lies k (by simp; omega) h2⟩
theorem own_lt {base : Nat} {e : TypeId} {sz n : Nat} {xs : List Value} (h : w.ownsRow base e sz v n xs) : ∀ k, Own v k → k < w.heap.size := by
  intro k hk
  rcases h.2 with ⟨rfl, _⟩ | ⟨g, cap, cur, rfl, _, hg, _⟩
  · simp [Own, Value.ownBlock] at hk
  · have : g = k := by simpa [Own, Value.ownBlock] using hk
    subst this
    rcases Nat.lt_or_ge g w.heap.size with hlt | hge
    · exact hlt
    · rw [Array.getElem?_eq_none hge] at hg; cases hg
theorem own_ge {base : Nat} {e : TypeId} {sz n : Nat} {xs : List Value} (h : w.ownsRow base e sz v n xs) : ∀ k, Own v k → base ≤ k := by
  intro k hk
  rcases h.2 with ⟨rfl, _⟩ | ⟨g, cap, cur, rfl, hb, _⟩
  · simp [Own, Value.ownBlock] at hk
  · have : g = k := by simpa [Own, Value.ownBlock] using hk
    omega
end

/-- The form of a value that owns a row. -/
theorem own_form {w : World} {base : Nat} {e : TypeId} {sz n : Nat} {v : Value} {xs : List Value} (h : w.ownsRow base e sz v n xs) : ∃ A c, v = .slice A n c ∧ n ≤ c ∧ c ≤ maxLen := by
  rcases h.2 with ⟨rfl, rfl⟩ | ⟨g, cap, cur, rfl, _, _, hc, hm, _⟩
  · exact ⟨none, 0, rfl, Nat.le_refl _, Nat.zero_le _⟩
  · exact ⟨_, cap, rfl, hc, hm⟩
/-- What is owned stays owned where its block is let alone. -/
theorem own_keep {w w' : World} {S : Nat → Prop} {base : Nat} {e : TypeId} {sz n : Nat} {v : Value} {xs : List Value} (h : w.ownsRow base e sz v n xs) (hc : Chg S w w') (hd : ∀ k, Own v k → S k → False) : w'.ownsRow base e sz v n xs := by
  refine ⟨h.1, ?_⟩
  rcases h.2 with h0 | ⟨g, cap, cur, rfl, hb, hg, rest⟩
  · exact .inl h0
  · exact .inr ⟨g, cap, cur, rfl, hb, hc.block hg fun hs => hd g rfl hs, rest⟩
theorem own_base {w : World} {base base' : Nat} {e : TypeId} {sz n : Nat} {v : Value} {xs : List Value} (h : w.ownsRow base e sz v n xs) (hb : ∀ k, Own v k → base' ≤ k) : w.ownsRow base' e sz v n xs := by
  refine ⟨h.1, ?_⟩
  rcases h.2 with h0 | ⟨g, cap, cur, rfl, _, rest⟩
  · exact .inl h0
  · exact .inr ⟨g, cap, cur, rfl, hb g rfl, rest⟩

/-! ### append, the source a slice that may be nil, empty, cut -/
section
variable {P : Program}
theorem run_append_rds (w : World) (base : Nat) (t ty e : TypeId) (i : TypeInfo) (z : Value) (sz bytes : Nat) (ht : P.underlying t = some (.slice e)) (hi : P.info? e = some i) (hz : i.zero = some z)
    (hsize : i.size = sz) (hby : i.bytes = bytes) (hzs : z.cells.size = sz) (hsz : 0 < sz)
    (v : Value) (n : Nat) (xs : List Value) (hown : w.ownsRow base e sz v n xs) (S : Nat → Prop) (A : Option Addr) (m c : Nat) (news : List Value) (hr : Rds w S sz A m news) (h1 : ∀ u ∈ news, u.oneCell' = true)
    (h63 : n + m ≤ maxLen) (hbytes : (n + m) * bytes ≤ 140737488355328) (hbase : base ≤ w.heap.size) :
    ∃ v' w', (Builtin.append_ #[t, t] ty #[v, .slice A m c]).run P w = .ok v' w' ∧ w'.ownsRow base e sz v' (n + m) (xs ++ news) ∧ Grew w v w' v' := by
  rcases Nat.eq_zero_or_pos m with rfl | hm
  · have hn : news = [] := List.eq_nil_of_length_eq_zero (by simpa using hr.1)
    subst hn
    refine ⟨v, w, ?_, by simpa using hown, Grew.refl w v⟩
    rcases hown.2 with ⟨rfl, rfl⟩ | ⟨g, cap, cur, rfl, _, _, hnc, _⟩
    · cases A with
      | none => simp [Builtin.append_, run_underlying ht, sizeOf, typeInfo, hi, Builtin.lenOf, Builtin.firstCells]
      | some ad => simp [Builtin.append_, run_underlying ht, sizeOf, typeInfo, hi, Builtin.lenOf, Builtin.firstCells, loadCells, loadCellsFrom]
    · cases A with
      | none => simp [Builtin.append_, run_underlying ht, sizeOf, typeInfo, hi, Builtin.lenOf, Builtin.firstCells, hnc, storeCells]
      | some ad => simp [Builtin.append_, run_underlying ht, sizeOf, typeInfo, hi, Builtin.lenOf, Builtin.firstCells, hnc, storeCells, loadCells, loadCellsFrom]
  · obtain ⟨ad, rfl, _, hx⟩ := hr.2 hm
    obtain ⟨v', w', hrun, h2, h3, _, h5⟩ := run_append_own_at (P := P) w base t ty e i z sz bytes ht hi hz hsize hby hzs hsz v n xs hown ad m c news hr.1 hx h1 h63 hbytes hbase
    exact ⟨v', w', hrun, h2, Grew.of_grown h3 h5⟩

theorem wp_append_rds {o : Oper} {a : Act} {w : World} {K : Act → World → Prop} {Q : Exit → Act → World → Prop} (s x : Operand) (t : TypeId)
    (ho : o.op = .call { callee := .builtin .append, args := #[s, x], argTypes := #[t, t] })
    (base : Nat) (e : TypeId) (i : TypeInfo) (z : Value) (sz bytes : Nat) (ht : P.underlying t = some (.slice e)) (hi : P.info? e = some i) (hz : i.zero = some z)
    (hsize : i.size = sz) (hby : i.bytes = bytes) (hzs : z.cells.size = sz) (hsz : 0 < sz)
    (v : Value) (n : Nat) (xs : List Value) (hs : a.eval s = v) (hown : w.ownsRow base e sz v n xs)
    (S : Nat → Prop) (A : Option Addr) (m c : Nat) (news : List Value) (hx : a.eval x = .slice A m c) (hr : Rds w S sz A m news) (h1 : ∀ u ∈ news, u.oneCell' = true)
    (h63 : n + m ≤ maxLen) (hbytes : (n + m) * bytes ≤ 140737488355328) (hbase : base ≤ w.heap.size)
    (h : ∀ v' w', w'.ownsRow base e sz v' (n + m) (xs ++ news) → Grew w v w' v' → K (a.put o.dst v') w') : o.wp P a w K Q := by
  obtain ⟨v', w', hrun, h2, h3⟩ := run_append_rds (P := P) w base t o.type e i z sz bytes ht hi hz hsize hby hzs hsz v n xs hown S A m c news hr h1 h63 hbytes hbase
  unfold Oper.wp execOp
  simp only [ho, resolve, invoke, builtin, Sem.run_bind, Sem.run_pure, Result.andThen_ok, List.map_toArray, List.map_cons, List.map_nil, hs, hx, hrun]
  exact h v' w' h2 h3
theorem wpl_append {ops : Array Oper} {rest : List Oper} {o : Oper} {a : Act} {w : World} {Q : Exit → Act → World → Prop} (hgd : o.guard = none) (s x : Operand) (t : TypeId)
    (ho : o.op = .call { callee := .builtin .append, args := #[s, x], argTypes := #[t, t] })
    (base : Nat) (e : TypeId) (i : TypeInfo) (z : Value) (sz bytes : Nat) (ht : P.underlying t = some (.slice e)) (hi : P.info? e = some i) (hz : i.zero = some z)
    (hsize : i.size = sz) (hby : i.bytes = bytes) (hzs : z.cells.size = sz) (hsz : 0 < sz)
    (v : Value) (n : Nat) (xs : List Value) (hs : a.eval s = v) (hown : w.ownsRow base e sz v n xs)
    (S : Nat → Prop) (A : Option Addr) (m c : Nat) (news : List Value) (hx : a.eval x = .slice A m c) (hr : Rds w S sz A m news) (h1 : ∀ u ∈ news, u.oneCell' = true)
    (h63 : n + m ≤ maxLen) (hbytes : (n + m) * bytes ≤ 140737488355328) (hbase : base ≤ w.heap.size)
    (h : ∀ v' w', w'.ownsRow base e sz v' (n + m) (xs ++ news) → Grew w v w' v' → wpList P ops Q rest (a.put o.dst v') w') : wpList P ops Q (o :: rest) a w :=
  wpList_plain hgd fun _ hK => wp_append_rds s x t ho base e i z sz bytes ht hi hz hsize hby hzs hsz v n xs hs hown S A m c news hx hr h1 h63 hbytes hbase fun v' w' h2 h3 => hK _ _ (h v' w' h2 h3)
theorem step_append {ops : Array Oper} {o : Oper} {a : Act} {w : World} {K : Act → World → Prop} {Q : Exit → Act → World → Prop} {E : Prop} (hgd : o.guard = none) (s x : Operand) (t : TypeId)
    (ho : o.op = .call { callee := .builtin .append, args := #[s, x], argTypes := #[t, t] })
    (base : Nat) (e : TypeId) (i : TypeInfo) (z : Value) (sz bytes : Nat) (ht : P.underlying t = some (.slice e)) (hi : P.info? e = some i) (hz : i.zero = some z)
    (hsize : i.size = sz) (hby : i.bytes = bytes) (hzs : z.cells.size = sz) (hsz : 0 < sz)
    (v : Value) (n : Nat) (xs : List Value) (hs : a.eval s = v) (hown : w.ownsRow base e sz v n xs)
    (S : Nat → Prop) (A : Option Addr) (m c : Nat) (news : List Value) (hx : a.eval x = .slice A m c) (hr : Rds w S sz A m news) (h1 : ∀ u ∈ news, u.oneCell' = true)
    (h63 : n + m ≤ maxLen) (hbytes : (n + m) * bytes ≤ 140737488355328) (hbase : base ≤ w.heap.size)
    (h : ∀ v' w', w'.ownsRow base e sz v' (n + m) (xs ++ news) → Grew w v w' v' → K (a.put o.dst v') w') : if Region.wanted o (yielded ops a.tmps) = true then Oper.wp P o a w K Q else E := by
  rw [if_pos (by simp [Region.wanted, hgd])]
  exact wp_append_rds s x t ho base e i z sz bytes ht hi hz hsize hby hzs hsz v n xs hs hown S A m c news hx hr h1 h63 hbytes hbase h
/-- The one cell that 'append(s, x)' lays for x reads x. -/
theorem rds_one (w : World) (u : Value) (t : TypeId) : Rds (w.alloc (.cells #[u] t)) (fun k => k = w.heap.size) 1 (some ⟨w.heap.size, 0, none⟩) 1 [u] :=
  ⟨rfl, fun _ => ⟨_, rfl, rfl, cell_one_new w u t⟩⟩
end

/-! ### small -/
theorem Hid.mk {p : Prop} (h : p) : Hid p := h
theorem results_four {fn : Func} {t u v x : Tmp} (h : fn.results = #[.tmp t, .tmp u, .tmp v, .tmp x]) (tmps : Array Value) (P : Program) (w : World) :
    (results fn tmps).run P w = .ok (.tuple #[tmps.getD t undef, tmps.getD u undef, tmps.getD v undef, tmps.getD x undef]) w := by simp [results, h]
end Go.Proofs.Ytmbmfhpdajdpfaa
