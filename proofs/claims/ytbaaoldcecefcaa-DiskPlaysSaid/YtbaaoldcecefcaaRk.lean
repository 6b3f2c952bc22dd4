/- The document's disk, plainly and in memory; its small methods. -/
import Derived.Test.YtbaaoldcecefcaaDOps
namespace Go.Proofs.Ytbaaoldcecefcaa
open Go.RowKit

structure Rp where
  now : List UInt8
  lasts : List UInt8
  waits : List (Nat × UInt8)
  left : Int
  dead : Bool
structure Rp.ok (r : Rp) : Prop where
  same : r.lasts.length = r.now.length
  most : r.now.length ≤ 1000000
  fits : ∀ p ∈ r.waits, p.1 < r.now.length
  lo : -1 ≤ r.left
  hi : r.left ≤ 9223372036854775807
def rCells (l : List (Nat × UInt8)) : List Value := wCells (l.map fun p => (p.1, bv p.2))
structure RkAt (w : World) (g : Nat) (M : Nat → Prop) (r : Rp) (nv lv wv : Value) : Prop where
  bk : Bk w g 51 #[nv, lv, wv, .int .i64 r.left, .bool r.dead]
  now : Row w 5 1 nv r.now.length (r.now.map bv)
  lasts : Row w 5 1 lv r.now.length (r.lasts.map bv)
  row : Row w 66 2 wv r.waits.length (rCells r.waits)
  mg : M g
  mn : ∀ k, Own nv k → M k ∧ k ≠ g
  ml : ∀ k, Own lv k → M k ∧ k ≠ g ∧ ¬ Own nv k
  mw : ∀ k, Own wv k → M k ∧ k ≠ g ∧ ¬ Own nv k ∧ ¬ Own lv k
  lt : ∀ k, M k → k < w.heap.size
  ok : r.ok
def Rk (w : World) (g : Nat) (M : Nat → Prop) (r : Rp) : Prop := ∃ nv lv wv, RkAt w g M r nv lv wv

section
variable {w w' : World} {g : Nat} {M S : Nat → Prop} {r : Rp} {nv lv wv : Value}
theorem RkAt.keep (h : RkAt w g M r nv lv wv) (hc : Chg S w w') (hm : ∀ k, M k → ¬ S k) : RkAt w' g M r nv lv wv :=
  { bk := h.bk.keep hc (hm g h.mg), now := h.now.keep hc (fun k hk hs => hm k (h.mn k hk).1 hs), lasts := h.lasts.keep hc (fun k hk hs => hm k (h.ml k hk).1 hs),
    row := h.row.keep hc (fun k hk hs => hm k (h.mw k hk).1 hs), mg := h.mg, mn := h.mn, ml := h.ml, mw := h.mw, lt := fun k hk => Nat.lt_of_lt_of_le (h.lt k hk) hc.size, ok := h.ok }
theorem Rk.keep (h : Rk w g M r) (hc : Chg S w w') (hm : ∀ k, M k → ¬ S k) : Rk w' g M r := by
  obtain ⟨nv, lv, wv, h⟩ := h
  exact ⟨nv, lv, wv, h.keep hc hm⟩
theorem Rk.keep_nil (h : Rk w g M r) (hc : Chg Nil w w') : Rk w' g M r := h.keep hc (fun _ _ h => h)
theorem Rk.mg (h : Rk w g M r) : M g := by obtain ⟨_, _, _, h⟩ := h; exact h.mg
theorem Rk.ok (h : Rk w g M r) : r.ok := by obtain ⟨_, _, _, h⟩ := h; exact h.ok
theorem Rk.lt (h : Rk w g M r) : ∀ k, M k → k < w.heap.size := by obtain ⟨_, _, _, h⟩ := h; exact h.lt
/-- Only the struct's own cells have changed: left and dead. -/
theorem RkAt.turn (h : RkAt w g M r nv lv wv) (hc : Chg (· = g) w w') {left' : Int} {dead' : Bool} (hb : Bk w' g 51 #[nv, lv, wv, .int .i64 left', .bool dead']) (h1 : -1 ≤ left') (h2 : left' ≤ 9223372036854775807) :
    RkAt w' g M { r with left := left', dead := dead' } nv lv wv :=
  { bk := hb, now := h.now.keep hc (fun k hk hs => (h.mn k hk).2 hs), lasts := h.lasts.keep hc (fun k hk hs => (h.ml k hk).2.1 hs),
    row := h.row.keep hc (fun k hk hs => (h.mw k hk).2.1 hs), mg := h.mg, mn := h.mn, ml := h.ml, mw := h.mw, lt := fun k hk => Nat.lt_of_lt_of_le (h.lt k hk) hc.size, ok := ⟨h.ok.same, h.ok.most, h.ok.fits, h1, h2⟩ }
theorem RkAt.set34 (h : RkAt w g M r nv lv wv) (x : Int) (b : Bool) (h1 : -1 ≤ x) (h2 : x ≤ 9223372036854775807) :
    Chg (· = g) w ((w.setCell ⟨g, 3, none⟩ (.int .i64 x)).setCell ⟨g, 4, none⟩ (.bool b)) ∧ RkAt ((w.setCell ⟨g, 3, none⟩ (.int .i64 x)).setCell ⟨g, 4, none⟩ (.bool b)) g M { r with left := x, dead := b } nv lv wv := by
  have hch : Chg (· = g) w ((w.setCell ⟨g, 3, none⟩ (.int .i64 x)).setCell ⟨g, 4, none⟩ (.bool b)) :=
    ((Chg.refl (· = g) w).setCell (p := ⟨g, 3, none⟩) (fun _ => rfl) _).setCell (p := ⟨g, 4, none⟩) (fun _ => rfl) _
  exact ⟨hch, h.turn hch ((h.bk.set 3 (.int .i64 x)).set 4 (.bool b)) h1 h2⟩
theorem RkAt.lasted (h : RkAt w g M r nv lv wv) {x : List UInt8} (hrow : Row w' 5 1 lv r.now.length (x.map bv)) (hc : Chg (Own lv) w w') (hx : x.length = r.now.length) : RkAt w' g M { r with lasts := x } nv lv wv :=
  { bk := h.bk.keep hc (fun hg => (h.ml g hg).2.1 rfl), now := h.now.keep hc (fun k hk hs => (h.ml k hs).2.2 hk), lasts := hrow,
    row := h.row.keep hc (fun k hk hs => (h.mw k hk).2.2.2 hs), mg := h.mg, mn := h.mn, ml := h.ml, mw := h.mw, lt := fun k hk => Nat.lt_of_lt_of_le (h.lt k hk) hc.size, ok := ⟨hx, h.ok.most, h.ok.fits, h.ok.lo, h.ok.hi⟩ }
theorem RkAt.nowed (h : RkAt w g M r nv lv wv) {x : List UInt8} (hrow : Row w' 5 1 nv r.now.length (x.map bv)) (hc : Chg (Own nv) w w') (hx : x.length = r.now.length) : RkAt w' g M { r with now := x } nv lv wv :=
  { bk := h.bk.keep hc (fun hg => (h.mn g hg).2 rfl), now := by rw [← hx] at hrow; exact hrow, lasts := by
      have := h.lasts.keep hc (fun k hk hs => (h.ml k hk).2.2 hs)
      rw [← hx] at this
      exact this
    row := h.row.keep hc (fun k hk hs => (h.mw k hk).2.2.1 hs), mg := h.mg, mn := h.mn, ml := h.ml, mw := h.mw, lt := fun k hk => Nat.lt_of_lt_of_le (h.lt k hk) hc.size,
    ok := ⟨by rw [hx]; exact h.ok.same, by rw [hx]; exact h.ok.most, fun p hp => by rw [hx]; exact h.ok.fits p hp, h.ok.lo, h.ok.hi⟩ }
theorem RkAt.waitless (h : RkAt w g M r nv lv wv) :
    Chg (· = g) w (w.setCell ⟨g, 2, none⟩ (.slice none 0 0)) ∧ RkAt (w.setCell ⟨g, 2, none⟩ (.slice none 0 0)) g M { r with waits := [] } nv lv (.slice none 0 0) := by
  have hch : Chg (· = g) w (w.setCell ⟨g, 2, none⟩ (.slice none 0 0)) := (Chg.refl (· = g) w).setCell (p := ⟨g, 2, none⟩) (fun _ => rfl) _
  refine ⟨hch, ?_⟩
  exact
    { bk := h.bk.set 2 (.slice none 0 0), now := h.now.keep hch (fun k hk hs => (h.mn k hk).2 hs), lasts := h.lasts.keep hch (fun k hk hs => (h.ml k hk).2.1 hs),
      row := ⟨rfl, .inl ⟨rfl, rfl⟩⟩, mg := h.mg, mn := h.mn, ml := h.ml, mw := fun k hk => by simp [Own, Value.ownBlock] at hk
      lt := fun k hk => Nat.lt_of_lt_of_le (h.lt k hk) hch.size, ok := ⟨h.ok.same, h.ok.most, fun p hp => by simp at hp, h.ok.lo, h.ok.hi⟩ }
end

/-! ### New -/
def Rp.new (n : Int) : Rp := ⟨List.replicate (newN n) 0, List.replicate (newN n) 0, [], -1, false⟩
theorem rnew_laid (w : World) (N : Nat) (hN : N ≤ 1000000) (x y : Nat) (hxy : (x = w.heap.size ∧ y = w.heap.size + 1) ∨ (x = w.heap.size + 1 ∧ y = w.heap.size)) :
    Chg Nil w (((w.alloc (.cells (madeCells #[.int .u8 0] N) 5)).alloc (.cells (madeCells #[.int .u8 0] N) 5)).alloc (.cells #[.slice (some ⟨x, 0, none⟩) N N, .slice (some ⟨y, 0, none⟩) N N, .slice none 0 0, .int .i64 (-1), .bool false] 51)).drew ∧
    ∃ M, Rk (((w.alloc (.cells (madeCells #[.int .u8 0] N) 5)).alloc (.cells (madeCells #[.int .u8 0] N) 5)).alloc (.cells #[.slice (some ⟨x, 0, none⟩) N N, .slice (some ⟨y, 0, none⟩) N N, .slice none 0 0, .int .i64 (-1), .bool false] 51)).drew
      (w.heap.size + 1 + 1) M ⟨List.replicate N 0, List.replicate N 0, [], -1, false⟩ ∧ ∀ k, M k → w.heap.size ≤ k := by
  have b0 : Bk (((w.alloc (.cells (madeCells #[.int .u8 0] N) 5)).alloc (.cells (madeCells #[.int .u8 0] N) 5)).alloc (.cells #[.slice (some ⟨x, 0, none⟩) N N, .slice (some ⟨y, 0, none⟩) N N, .slice none 0 0, .int .i64 (-1), .bool false] 51)).drew w.heap.size 5 (madeCells #[.int .u8 0] N) :=
    ((Bk.new w _ _).alloc _).alloc _
  have b1 : Bk (((w.alloc (.cells (madeCells #[.int .u8 0] N) 5)).alloc (.cells (madeCells #[.int .u8 0] N) 5)).alloc (.cells #[.slice (some ⟨x, 0, none⟩) N N, .slice (some ⟨y, 0, none⟩) N N, .slice none 0 0, .int .i64 (-1), .bool false] 51)).drew (w.heap.size + 1) 5 (madeCells #[.int .u8 0] N) := by
    have h := (Bk.new (w.alloc (.cells (madeCells #[.int .u8 0] N) 5)) 5 (madeCells #[.int .u8 0] N)).alloc (.cells #[.slice (some ⟨x, 0, none⟩) N N, .slice (some ⟨y, 0, none⟩) N N, .slice none 0 0, .int .i64 (-1), .bool false] 51)
    simpa using h.drew
  have b2 : Bk (((w.alloc (.cells (madeCells #[.int .u8 0] N) 5)).alloc (.cells (madeCells #[.int .u8 0] N) 5)).alloc (.cells #[.slice (some ⟨x, 0, none⟩) N N, .slice (some ⟨y, 0, none⟩) N N, .slice none 0 0, .int .i64 (-1), .bool false] 51)).drew (w.heap.size + 1 + 1) 51
      #[.slice (some ⟨x, 0, none⟩) N N, .slice (some ⟨y, 0, none⟩) N N, .slice none 0 0, .int .i64 (-1), .bool false] := by
    have h := (Bk.new ((w.alloc (.cells (madeCells #[.int .u8 0] N) 5)).alloc (.cells (madeCells #[.int .u8 0] N) 5)) 51 #[.slice (some ⟨x, 0, none⟩) N N, .slice (some ⟨y, 0, none⟩) N N, .slice none 0 0, .int .i64 (-1), .bool false]).drew
    simpa using h
  have hch : Chg Nil w (((w.alloc (.cells (madeCells #[.int .u8 0] N) 5)).alloc (.cells (madeCells #[.int .u8 0] N) 5)).alloc (.cells #[.slice (some ⟨x, 0, none⟩) N N, .slice (some ⟨y, 0, none⟩) N N, .slice none 0 0, .int .i64 (-1), .bool false] 51)).drew :=
    ((((Chg.refl Nil w).alloc _).alloc _).alloc _).drew
  refine ⟨hch, ?_⟩
  generalize (((w.alloc (.cells (madeCells #[.int .u8 0] N) 5)).alloc (.cells (madeCells #[.int .u8 0] N) 5)).alloc (.cells #[.slice (some ⟨x, 0, none⟩) N N, .slice (some ⟨y, 0, none⟩) N N, .slice none 0 0, .int .i64 (-1), .bool false] 51)).drew = W at *
  have hsz : (madeCells #[Value.int .u8 0] N).size = N := by
    have := congrArg List.length (toList_madeCells_one (.int .u8 0) N)
    simpa using this
  have hl : (madeCells #[Value.int .u8 0] N).toList = (List.replicate N (0 : UInt8)).map bv := by
    rw [toList_madeCells_one]
    simp [bv]
  have r0 := Row.of_bk b0 hsz (by simp only [maxLen]; omega)
  have r1 := Row.of_bk b1 hsz (by simp only [maxLen]; omega)
  rw [hl] at r0 r1
  have hlt := b2.lt
  have rx : Row W 5 1 (.slice (some ⟨x, 0, none⟩) N N) N ((List.replicate N (0 : UInt8)).map bv) := by
    rcases hxy with ⟨rfl, _⟩ | ⟨rfl, _⟩
    · exact r0
    · exact r1
  have ry : Row W 5 1 (.slice (some ⟨y, 0, none⟩) N N) N ((List.replicate N (0 : UInt8)).map bv) := by
    rcases hxy with ⟨_, rfl⟩ | ⟨_, rfl⟩
    · exact r1
    · exact r0
  refine ⟨fun k => w.heap.size ≤ k ∧ k < w.heap.size + 3, ⟨.slice (some ⟨x, 0, none⟩) N N, .slice (some ⟨y, 0, none⟩) N N, .slice none 0 0, ?_⟩, fun k hk => hk.1⟩
  exact
    { bk := b2, now := by simpa using rx, lasts := by simpa using ry, row := ⟨rfl, .inl ⟨rfl, rfl⟩⟩, mg := ⟨by omega, by omega⟩
      mn := fun k hk => by have := own_at hk; omega
      ml := fun k hk => by
        have := own_at hk
        refine ⟨by omega, by omega, fun h => ?_⟩
        have := own_at h
        omega
      mw := fun k hk => by simp [Own, Value.ownBlock] at hk
      lt := fun k hk => by omega
      ok := ⟨by simp, by simpa using hN, fun p hp => by simp at hp, by simp, by simp⟩ }

set_option maxHeartbeats 1000000 in
set_option maxRecDepth 100000 in
theorem rnew_any (n : Int) (w : World) :
    Calls Try.prog 20 #[.int .i64 n] w fun e w' => ∃ g M, e = .returned (.pointer (some ⟨g, 0, none⟩)) ∧ Chg Nil w w' ∧ Rk w' g M (Rp.new n) ∧ ∀ k, M k → w.heap.size ≤ k := by
  have hmk : ∀ N : Nat, N ≤ 1000000 → ∀ w : World, (Instr.makeSlice 22 (.int .i64 (N : Int)) (.int .i64 (N : Int))).run Try.prog w = .ok (.slice (some ⟨w.heap.size, 0, none⟩) N N) (w.alloc (.cells (madeCells #[.int .u8 0] N) 5)) :=
    fun N h => run_make_row' (P := Try.prog) 22 5 (.int .u8 0) 1 Try.underlying22 Try.infoU8 rfl .i64 .i64 N (by omega) (by omega)
  have hk : n < 0 ∨ (0 ≤ n ∧ n ≤ 1000000) ∨ 1000000 < n := by omega
  rcases hk with hk | ⟨hk, hk2⟩ | hk
  · have e : newN n = 0 := by unfold newN; omega
    have hm : ∀ w : World, (Instr.makeSlice 22 (.int .i64 0) (.int .i64 0)).run Try.prog w = .ok (.slice (some ⟨w.heap.size, 0, none⟩) 0 0) (w.alloc (.cells (madeCells #[.int .u8 0] 0) 5)) := hmk 0 (by omega)
    clear hmk
    go_enter Try.func20, Try.ntmps20
    go_wp2_with fail
    go_region
    · go_wp2
      go_ret
      obtain ⟨hc, M, hd, hs⟩ := rnew_laid w 0 (by omega) _ _ (.inl ⟨rfl, rfl⟩)
      exact ⟨_, M, rfl, hc, by rw [Rp.new, e]; exact hd, hs⟩
    · go_wp2
      go_ret
      obtain ⟨hc, M, hd, hs⟩ := rnew_laid w 0 (by omega) _ _ (.inr ⟨rfl, rfl⟩)
      exact ⟨_, M, rfl, hc, by rw [Rp.new, e]; exact hd, hs⟩
  · obtain ⟨N, rfl⟩ : ∃ N : Nat, n = (N : Int) := ⟨n.toNat, by omega⟩
    have e : newN (N : Int) = N := by unfold newN; omega
    have hm := hmk N (by omega)
    clear hmk
    go_enter Try.func20, Try.ntmps20
    go_wp2_with fail
    go_region
    · go_wp2
      go_ret
      obtain ⟨hc, M, hd, hs⟩ := rnew_laid w N (by omega) _ _ (.inl ⟨rfl, rfl⟩)
      exact ⟨_, M, rfl, hc, by rw [Rp.new, e]; exact hd, hs⟩
    · go_wp2
      go_ret
      obtain ⟨hc, M, hd, hs⟩ := rnew_laid w N (by omega) _ _ (.inr ⟨rfl, rfl⟩)
      exact ⟨_, M, rfl, hc, by rw [Rp.new, e]; exact hd, hs⟩
  · have e : newN n = 1000000 := by unfold newN; omega
    have hm : ∀ w : World, (Instr.makeSlice 22 (.int .i64 1000000) (.int .i64 1000000)).run Try.prog w = .ok (.slice (some ⟨w.heap.size, 0, none⟩) 1000000 1000000) (w.alloc (.cells (madeCells #[.int .u8 0] 1000000) 5)) := hmk 1000000 (by omega)
    clear hmk
    go_enter Try.func20, Try.ntmps20
    go_wp2_with fail
    go_region
    · go_wp2
      go_ret
      obtain ⟨hc, M, hd, hs⟩ := rnew_laid w 1000000 (by omega) _ _ (.inl ⟨rfl, rfl⟩)
      exact ⟨_, M, rfl, hc, by rw [Rp.new, e]; exact hd, hs⟩
    · go_wp2
      go_ret
      obtain ⟨hc, M, hd, hs⟩ := rnew_laid w 1000000 (by omega) _ _ (.inr ⟨rfl, rfl⟩)
      exact ⟨_, M, rfl, hc, by rw [Rp.new, e]; exact hd, hs⟩
end Go.Proofs.Ytbaaoldcecefcaa
