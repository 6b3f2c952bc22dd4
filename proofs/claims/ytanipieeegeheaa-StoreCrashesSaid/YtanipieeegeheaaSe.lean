/- Joined for this seat from: XDk XDkA XDkB XDkC XDkD XDkE XDkF XAwakeD XLive2. -/
import Derived.Laws.CopyOwn
import Derived.Lib.SliceRun
import Derived.BigRegion
import Derived.Deep.RegionHeld3
import Derived.Deep.RegionLaw
import Derived.Lib.SlBytesConst
import Derived.Test.YtanipieeegeheaaSd
namespace Go.Proofs.Ytanipieeegeheaa
open Go.RowKit

/-! ### plainly -/
structure Dp where
  now : List UInt8
  lasts : List UInt8
  waits : List (Nat × List UInt8)
  dead : Bool
  stop : Nat
/-- What always holds of it. -/
structure Dp.ok (d : Dp) : Prop where
  same : d.lasts.length = d.now.length
  most : d.now.length ≤ 1000000
  fits : ∀ p ∈ d.waits, p.1 + p.2.length ≤ d.now.length
  stop : d.stop ≤ 9223372036854775807

/-! ### copy onto a part of a row -/
theorem splice_nil {α : Type} (l : List α) (o : Nat) : splice l o [] = l := by simp [splice]
theorem splice_len {α : Type} (l : List α) (o : Nat) (cs : List α) (h : o + cs.length ≤ l.length) : (splice l o cs).length = l.length := length_splice l o cs h
theorem splice_map {α β : Type} (f : α → β) (l : List α) (o : Nat) (cs : List α) : splice (l.map f) o (cs.map f) = (splice l o cs).map f := by simp [splice]
section
variable {P : Program}
theorem run_copy_rowat (w : World) (dT sT ty elem e : TypeId) (hu : P.underlying dT = some (.slice elem)) (hs : (P.info? elem).map (·.size) = some 1)
    (A : Option Addr) (n c off dc : Nat) (xs : List Value) (hrow : Row w e 1 (.slice A n c) n xs) (dp : Option Addr) (hdp : ∀ g, A = some ⟨g, 0, none⟩ → off < n → dp = some ⟨g, off, none⟩) (hoff : off ≤ n)
    (S : Nat → Prop) (B : Option Addr) (m mc : Nat) (ys : List Value) (hr : Rds w S 1 B m ys) (h1 : ∀ u ∈ ys, u.oneCell' = true) :
    ∃ w', (Builtin.copy_ #[dT, sT] ty #[.slice dp (n - off) dc, .slice B m mc]).run P w = .ok (.int .i64 ((min m (n - off) : Nat) : Int)) w' ∧
      Row w' e 1 (.slice A n c) n (splice xs off (ys.take (min m (n - off)))) ∧ Chg (Own (.slice A n c)) w w' := by
  have hlen := hr.len
  rcases Nat.eq_zero_or_pos (min m (n - off)) with h0 | hp
  · refine ⟨w, ?_, ?_, Chg.refl _ _⟩
    · have := run_copy_none (P := P) w dT sT ty elem dp B (n - off) dc m mc hu hs h0
      rw [this, h0]; rfl
    · rw [h0, List.take_zero, splice_nil]; exact hrow
  · rcases hrow.2 with ⟨he, h2⟩ | ⟨g, cap, cur, lo, hi, he, hg, hf, hnc, hcm, hcs, ht⟩
    · subst h2; omega
    · injection he with hA _ hc
      subst hA hc
      have hdp' := hdp g rfl (by omega)
      subst hdp'
      obtain ⟨ad, rfl, _, hx⟩ := hr.2 (by omega)
      have hl : (ys.take (min m (n - off))).length = min m (n - off) := by rw [List.length_take, hlen]; omega
      have hxl : xs.length = n := by simpa using hrow.1
      have hsrc : ∀ j v, (ys.take (min m (n - off)))[j]? = some v → w.cell? (ad.add j) = some v := by
        intro j v hv
        rw [List.getElem?_take] at hv
        split at hv
        · exact hx j v hv
        · cases hv
      obtain ⟨w', hst, hg', hch⟩ := run_store_row (P := P) g off e lo hi (ys.take (min m (n - off))) 0 cur w hg hf (by rw [hl]; omega) (fun v hv => h1 v (List.mem_of_mem_take hv))
      have hld := run_loadCells_list (P := P) w ad _ hsrc
      refine ⟨w', ?_, ⟨?_, .inr ⟨g, c, _, lo, hi, rfl, hg', ?_, hnc, hcm, ?_, ?_⟩⟩, hch.wider (fun k _ hk => by subst hk; rfl)⟩
      · cases hq : P.info? elem with
        | none => simp [hq] at hs
        | some i =>
          have hi' : i.size = 1 := by simpa [hq] using hs
          rw [hl] at hld
          have hnm : Nat.min m (n - off) = min m (n - off) := rfl
          simp [Builtin.copy_, run_underlying hu, Builtin.lenOf, Builtin.firstCells, sizeOf, typeInfo, hq, hi', hnm, hld, hst, goInt]
      · rw [splice_len _ _ _ (by rw [hl, hxl]; omega)]; simpa using hxl
      · rcases hf with h | h
        · exact .inl h
        · exact .inr (by simp only [List.length_append, List.length_take, List.length_drop]; omega)
      · simp only [List.length_append, List.length_take, List.length_drop]
        omega
      · rw [← ht]
        simp only [splice, Nat.add_zero, Nat.mul_one, hl]
        apply List.ext_getElem?
        intro j
        simp only [List.getElem?_take, List.getElem?_append, List.getElem?_drop, List.length_take, List.length_append, hlen]
        have hcl : cur.length = c := by simpa using hcs
        rw [hcl]
        (repeat' split) <;> first | rfl | omega | (congr 1; omega) | skip
        all_goals (try (exfalso; omega))
theorem wpl_copy {w : World} {ops : Array Oper} {rest : List Oper} {o : Oper} {a : Act} {Q : Exit → Act → World → Prop} (hgd : o.guard = none) (d s : Operand) (dT sT : TypeId)
    (ho : o.op = .call { callee := .builtin .copy, args := #[d, s], argTypes := #[dT, sT] }) (elem e : TypeId) (hu : P.underlying dT = some (.slice elem)) (hsz : (P.info? elem).map (·.size) = some 1)
    (A : Option Addr) (n c off dc : Nat) (xs : List Value) (hrow : Row w e 1 (.slice A n c) n xs) (dp : Option Addr) (hdp : ∀ g, A = some ⟨g, 0, none⟩ → off < n → dp = some ⟨g, off, none⟩) (hoff : off ≤ n)
    (S : Nat → Prop) (B : Option Addr) (m mc : Nat) (ys : List Value) (hr : Rds w S 1 B m ys) (h1 : ∀ u ∈ ys, u.oneCell' = true)
    (hd : a.eval d = .slice dp (n - off) dc) (hs : a.eval s = .slice B m mc)
    (h : ∀ w', Row w' e 1 (.slice A n c) n (splice xs off (ys.take (min m (n - off)))) → Chg (Own (.slice A n c)) w w' → wpList P ops Q rest (a.put o.dst (.int .i64 ((min m (n - off) : Nat) : Int))) w') : wpList P ops Q (o :: rest) a w := by
  refine wpList_plain hgd fun K hK => ?_
  obtain ⟨w', hrun, h2, h3⟩ := run_copy_rowat (P := P) w dT sT o.type elem e hu hsz A n c off dc xs hrow dp hdp hoff S B m mc ys hr h1
  unfold Oper.wp execOp
  simp only [ho, resolve, invoke, builtin, Sem.run_bind, Sem.run_pure, Result.andThen_ok, List.map_toArray, List.map_cons, List.map_nil, hd, hs, hrun]
  exact hK _ _ (h w' h2 h3)
end

/-! ### a row of writes -/
def wCells (ws : List (Nat × Value)) : List Value := ws.flatMap fun q => [.int .i64 (q.1 : Int), q.2]
theorem wCells_len (ws : List (Nat × Value)) : (wCells ws).length = ws.length * 2 := by
  induction ws with
  | nil => rfl
  | cons a t ih => simp only [wCells, List.flatMap_cons, List.length_append] at *; rw [ih]; simp; omega
theorem wCells_get (ws : List (Nat × Value)) (m : Nat) (q : Nat × Value) (h : ws[m]? = some q) : (wCells ws)[m * 2]? = some (.int .i64 (q.1 : Int)) ∧ (wCells ws)[m * 2 + 1]? = some q.2 := by
  induction ws generalizing m with
  | nil => simp at h
  | cons a t ih =>
    cases m with
    | zero => simp at h; subst h; exact ⟨rfl, rfl⟩
    | succ m =>
      have := ih m (by simpa using h)
      simp only [wCells, List.flatMap_cons] at *
      rw [List.getElem?_append_right (by simp; omega), List.getElem?_append_right (by simp; omega)]
      simp only [List.length_cons, List.length_nil]
      rw [show (m + 1) * 2 - (0 + 1 + 1) = m * 2 by omega, show (m + 1) * 2 + 1 - (0 + 1 + 1) = m * 2 + 1 by omega]
      exact this
theorem wCells_snoc (ws : List (Nat × Value)) (q : Nat × Value) : wCells (ws ++ [q]) = wCells ws ++ [.int .i64 (q.1 : Int), q.2] := by simp [wCells]

/-! ### in memory -/
/-- Where a disk lies: the struct in block g; its slices; what waits. M: the blocks that it may change, R: those that it reads. -/
structure DkAt (w : World) (g : Nat) (M R : Nat → Prop) (d : Dp) (nv lv wv : Value) (ws : List (Nat × Value)) : Prop where
  bk : Bk w g 74 #[nv, lv, wv, .bool d.dead, .int .i64 (d.stop : Int)]
  now : Row w 5 1 nv d.now.length (d.now.map bv)
  lasts : Row w 5 1 lv d.now.length (d.lasts.map bv)
  row : Row w 90 2 wv d.waits.length (wCells ws)
  ats : ws.map (·.1) = d.waits.map (·.1)
  vals : RdL w R (ws.map (·.2)) (d.waits.map (·.2))
  mg : M g
  mn : ∀ k, Own nv k → M k ∧ k ≠ g
  ml : ∀ k, Own lv k → M k ∧ k ≠ g ∧ ¬ Own nv k
  mw : ∀ k, Own wv k → M k ∧ k ≠ g ∧ ¬ Own nv k ∧ ¬ Own lv k
  apart : ∀ k, M k → R k → False
  lt : ∀ k, M k ∨ R k → k < w.heap.size
  ok : d.ok
def Dk (w : World) (g : Nat) (M R : Nat → Prop) (d : Dp) : Prop := ∃ nv lv wv ws, DkAt w g M R d nv lv wv ws

/-- What a call does to a disk's blocks. -/
structure Went (w w' : World) (M R M' R' : Nat → Prop) : Prop where
  chg : Chg M w w'
  m : ∀ k, k < w.heap.size → M' k → M k
  r : ∀ k, k < w.heap.size → R' k → R k

section
variable {w w' : World} {g : Nat} {M R S : Nat → Prop} {d : Dp} {nv lv wv : Value} {ws : List (Nat × Value)}
theorem DkAt.keep (h : DkAt w g M R d nv lv wv ws) (hc : Chg S w w') (hm : ∀ k, M k → ¬ S k) (hr : ∀ k, R k → ¬ S k) : DkAt w' g M R d nv lv wv ws :=
  { bk := h.bk.keep hc (hm g h.mg), now := h.now.keep hc (fun k hk hs => hm k (h.mn k hk).1 hs), lasts := h.lasts.keep hc (fun k hk hs => hm k (h.ml k hk).1 hs),
    row := h.row.keep hc (fun k hk hs => hm k (h.mw k hk).1 hs), ats := h.ats, vals := h.vals.keep hc (fun k hk hs => hr k hk hs),
    mg := h.mg, mn := h.mn, ml := h.ml, mw := h.mw, apart := h.apart, lt := fun k hk => Nat.lt_of_lt_of_le (h.lt k hk) hc.size, ok := h.ok }
theorem Dk.keep (h : Dk w g M R d) (hc : Chg S w w') (hm : ∀ k, M k → ¬ S k) (hr : ∀ k, R k → ¬ S k) : Dk w' g M R d := by
  obtain ⟨nv, lv, wv, ws, h⟩ := h
  exact ⟨nv, lv, wv, ws, h.keep hc hm hr⟩
theorem Dk.keep_nil (h : Dk w g M R d) (hc : Chg Nil w w') : Dk w' g M R d := h.keep hc (fun _ _ h => h) (fun _ _ h => h)
theorem Dk.ok (h : Dk w g M R d) : d.ok := by obtain ⟨_, _, _, _, h⟩ := h; exact h.ok
theorem Dk.lt (h : Dk w g M R d) : ∀ k, M k ∨ R k → k < w.heap.size := by obtain ⟨_, _, _, _, h⟩ := h; exact h.lt
theorem Went.refl (w : World) (M R : Nat → Prop) : Went w w M R M R := ⟨Chg.refl _ _, fun _ _ h => h, fun _ _ h => h⟩
theorem Went.of_chg (h : Chg M w w') : Went w w' M R M R := ⟨h, fun _ _ h => h, fun _ _ h => h⟩
/-- Only the struct's own cells have changed: dead and stop. -/
theorem DkAt.turn (h : DkAt w g M R d nv lv wv ws) (hc : Chg (· = g) w w') {dead' : Bool} {stop' : Nat} (hb : Bk w' g 74 #[nv, lv, wv, .bool dead', .int .i64 (stop' : Int)]) (hs : stop' ≤ 9223372036854775807) :
    DkAt w' g M R { d with dead := dead', stop := stop' } nv lv wv ws :=
  { bk := hb, now := h.now.keep hc (fun k hk hs => (h.mn k hk).2 hs), lasts := h.lasts.keep hc (fun k hk hs => (h.ml k hk).2.1 hs),
    row := h.row.keep hc (fun k hk hs => (h.mw k hk).2.1 hs), ats := h.ats, vals := h.vals.keep hc (fun k hk hs => h.apart k (hs ▸ h.mg) hk),
    mg := h.mg, mn := h.mn, ml := h.ml, mw := h.mw, apart := h.apart, lt := fun k hk => Nat.lt_of_lt_of_le (h.lt k hk) hc.size, ok := ⟨h.ok.same, h.ok.most, h.ok.fits, hs⟩ }
theorem DkAt.set34 (h : DkAt w g M R d nv lv wv ws) (x : Int) (b : Bool) (s : Nat) (hx : x = (s : Int)) (hs : s ≤ 9223372036854775807) :
    Chg (· = g) w ((w.setCell ⟨g, 4, none⟩ (.int .i64 x)).setCell ⟨g, 3, none⟩ (.bool b)) ∧ Dk ((w.setCell ⟨g, 4, none⟩ (.int .i64 x)).setCell ⟨g, 3, none⟩ (.bool b)) g M R { d with dead := b, stop := s } := by
  subst hx
  have hch : Chg (· = g) w ((w.setCell ⟨g, 4, none⟩ (.int .i64 (s : Int))).setCell ⟨g, 3, none⟩ (.bool b)) :=
    ((Chg.refl (· = g) w).setCell (p := ⟨g, 4, none⟩) (fun _ => rfl) _).setCell (p := ⟨g, 3, none⟩) (fun _ => rfl) _
  exact ⟨hch, nv, lv, wv, ws, h.turn hch ((h.bk.set 4 (.int .i64 (s : Int))).set 3 (.bool b)) hs⟩
theorem DkAt.wslen (h : DkAt w g M R d nv lv wv ws) : ws.length = d.waits.length := by simpa using congrArg List.length h.ats
end

end Go.Proofs.Ytanipieeegeheaa
namespace Go.Proofs.Ytanipieeegeheaa
open Go.RowKit

theorem Try.infoU8 : (Try.prog.info? 5).map (fun i => (i.zero, i.size, i.bytes)) = some (some (.int .u8 0), 1, 1) := by kernel_rfl

/-- Whether so many bytes are there. -/
def Dp.fits (d : Dp) (p n : Int) : Bool := decide (p ≥ 0) && decide (n ≥ 0) && decide (p ≤ d.now.length) && decide (n ≤ (d.now.length : Int) - p)

set_option maxHeartbeats 1000000 in
set_option maxRecDepth 100000 in
theorem din_any {g : Nat} {M R : Nat → Prop} {d : Dp} {w : World} (h : Dk w g M R d) (p n : Int) :
    Calls Try.prog 55 #[.pointer (some ⟨g, 0, none⟩), .int .i64 p, .int .i64 n] w fun e w' => e = .returned (.bool (d.fits p n)) ∧ Chg Nil w w' := by
  obtain ⟨nv, lv, wv, ws, h⟩ := h
  have hmost := h.ok.most
  obtain ⟨A, c, rfl, hc, hm⟩ := h.now.form
  have hc0 : w.cell? ⟨g, 0, none⟩ = some (.slice A d.now.length c) := h.bk.cell 0 rfl
  clear h
  unfold Dp.fits
  generalize d.now.length = L at *
  go_enter Try.func55, Try.ntmps55
  by_cases h1 : p ≥ 0
  · have d1 : decide (p ≥ 0) = true := decide_eq_true h1
    by_cases h2 : n ≥ 0
    · have d2 : decide (n ≥ 0) = true := decide_eq_true h2
      by_cases h3 : p ≤ L
      · have d3 : decide (p ≤ (L : Int)) = true := decide_eq_true h3
        generalize hd4 : decide (n ≤ (L : Int) - p) = d4
        go_wp2
        go_ret
        simp_all [Chg.refl]
      · have d3 : decide (p ≤ (L : Int)) = false := decide_eq_false h3
        go_wp2
        go_ret
        simp_all [Chg.refl]
    · have d2 : decide (n ≥ 0) = false := decide_eq_false h2
      go_wp2
      go_ret
      simp_all [Chg.refl]
  · have d1 : decide (p ≥ 0) = false := decide_eq_false h1
    go_wp2
    go_ret
    simp_all [Chg.refl]

/-- A call is counted. -/
def Dp.called (d : Dp) : Dp := if 0 < d.stop then { d with stop := d.stop - 1, dead := decide (d.stop - 1 = 0) } else d
theorem Dp.called_ok {d : Dp} (h : d.ok) : d.called.ok := by
  unfold Dp.called
  split
  · exact ⟨h.same, h.most, h.fits, Nat.le_trans (Nat.sub_le _ _) h.stop⟩
  · exact h

set_option maxHeartbeats 1000000 in
set_option maxRecDepth 100000 in
theorem call_dead {g : Nat} {M R : Nat → Prop} {d : Dp} {w : World} (h : Dk w g M R d) (hd : d.dead = true) :
    Calls Try.prog 56 #[.pointer (some ⟨g, 0, none⟩)] w fun e w' => e = .returned (.int .i64 9) ∧ w' = w := by
  obtain ⟨nv, lv, wv, ws, h⟩ := h
  have hc3 : w.cell? ⟨g, 3, none⟩ = some (.bool d.dead) := h.bk.cell 3 rfl
  rw [hd] at hc3
  clear h
  go_enter Try.func56, Try.ntmps56
  go_wp2
  go_ret
  exact ⟨rfl, rfl⟩

set_option maxHeartbeats 1000000 in
set_option maxRecDepth 100000 in
theorem call_ok {g : Nat} {M R : Nat → Prop} {d : Dp} {w : World} (h : Dk w g M R d) (hd : d.dead = false) :
    Calls Try.prog 56 #[.pointer (some ⟨g, 0, none⟩)] w fun e w' => e = .returned (.int .i64 0) ∧ Chg (· = g) w w' ∧ Dk w' g M R d.called := by
  obtain ⟨nv, lv, wv, ws, h⟩ := h
  have hc3 : w.cell? ⟨g, 3, none⟩ = some (.bool d.dead) := h.bk.cell 3 rfl
  have hc4 : w.cell? ⟨g, 4, none⟩ = some (.int .i64 (d.stop : Int)) := h.bk.cell 4 rfl
  have hf3 := h.bk.free 3
  have hf4 := h.bk.free 4
  have hs := h.ok.stop
  rw [hd] at hc3
  by_cases h0 : 0 < d.stop
  · have d0 : decide ((d.stop : Int) > 0) = true := decide_eq_true (by omega)
    have HH := Hid.mk h
    clear h
    go_enter Try.func56, Try.ntmps56
    go_wp2
    go_ret
    have e2 : ((d.stop : Int) - 1 == 0) = decide (d.stop - 1 = 0) := by
      rw [show ((d.stop : Int) - 1) = ((d.stop - 1 : Nat) : Int) by omega]
      by_cases h : d.stop - 1 = 0
      · simp [h]
      · simp [h]
    have hh := HH.out.set34 ((d.stop : Int) - 1) ((d.stop : Int) - 1 == 0) (d.stop - 1) (by omega) (by omega)
    rw [Dp.called, if_pos h0]
    rw [e2] at hh ⊢
    exact ⟨rfl, hh⟩
  · have d0 : decide ((d.stop : Int) > 0) = false := decide_eq_false (by omega)
    have HH := Hid.mk h
    clear h
    go_enter Try.func56, Try.ntmps56
    go_wp2
    go_ret
    refine ⟨rfl, Chg.refl _ _, ?_⟩
    rw [Dp.called, if_neg h0]
    exact ⟨_, _, _, _, HH.out⟩

set_option maxHeartbeats 1000000 in
set_option maxRecDepth 100000 in
theorem size_any {g : Nat} {M R : Nat → Prop} {d : Dp} {w : World} (h : Dk w g M R d) :
    Calls Try.prog 40 #[.pointer (some ⟨g, 0, none⟩)] w fun e w' => e = .returned (.int .i64 (d.now.length : Int)) ∧ w' = w := by
  obtain ⟨nv, lv, wv, ws, h⟩ := h
  obtain ⟨A, c, rfl, hc, hm⟩ := h.now.form
  have hc0 : w.cell? ⟨g, 0, none⟩ = some (.slice A d.now.length c) := h.bk.cell 0 rfl
  clear h
  go_enter Try.func40, Try.ntmps40
  go_wp2
  go_ret
  exact ⟨rfl, rfl⟩
theorem dead_any {g : Nat} {M R : Nat → Prop} {d : Dp} {w : World} (h : Dk w g M R d) :
    Calls Try.prog 38 #[.pointer (some ⟨g, 0, none⟩)] w fun e w' => e = .returned (.bool d.dead) ∧ w' = w := by
  obtain ⟨nv, lv, wv, ws, h⟩ := h
  have hc3 : w.cell? ⟨g, 3, none⟩ = some (.bool d.dead) := h.bk.cell 3 rfl
  clear h
  go_enter Try.func38, Try.ntmps38
  go_wp2
  go_ret
  exact ⟨rfl, rfl⟩

set_option maxHeartbeats 1000000 in
set_option maxRecDepth 100000 in
theorem stop_any {g : Nat} {M R : Nat → Prop} {d : Dp} {w : World} (h : Dk w g M R d) (n : Int) (hn : n ≤ 9223372036854775807) :
    Calls Try.prog 34 #[.pointer (some ⟨g, 0, none⟩), .int .i64 n] w fun e w' => (∃ v, e = .returned v) ∧ Chg (· = g) w w' ∧ Dk w' g M R { d with stop := n.toNat, dead := d.dead || n == 0 } := by
  obtain ⟨nv, lv, wv, ws, h⟩ := h
  have hc3 : w.cell? ⟨g, 3, none⟩ = some (.bool d.dead) := h.bk.cell 3 rfl
  have hc4 : w.cell? ⟨g, 4, none⟩ = some (.int .i64 (d.stop : Int)) := h.bk.cell 4 rfl
  have hf3 := h.bk.free 3
  have hf4 := h.bk.free 4
  have HH := Hid.mk h
  clear h
  cases hd : d.dead
  all_goals
    rw [hd] at hc3
    go_enter Try.func34, Try.ntmps34
    go_wp2
    all_goals go_end0
    case inr => exact ⟨⟨_, rfl⟩, HH.out.set34 _ _ _ (by omega) (by omega)⟩
    case inl => exact ⟨⟨_, rfl⟩, HH.out.set34 _ _ _ (by omega) (by omega)⟩

/-- slices.Clone at bytes. -/
theorem clone_nil (n c : Nat) (w : World) : Calls Try.prog 57 #[.slice none n c] w fun e w' => e = .returned (.slice none 0 0) ∧ w' = w := by
  have q : ∀ (w : World) (a : Option Addr) (n c n' c' : Nat), (binOp .eql 46 (.slice a n c) (.slice none n' c')).run Try.prog w = .ok (.bool a.isNone) w := fun w a n c n' c' => Lib.run_eql_slice_nil w _ _ a n c n' c' Try.underlying46
  go_enter Try.func57, Try.ntmps57
  go_wp2
  go_ret
  exact ⟨rfl, rfl⟩
set_option maxHeartbeats 1000000 in
set_option maxRecDepth 100000 in
theorem clone_some (ad : Addr) (n c : Nat) (bs : List UInt8) (S : Nat → Prop) (w : World) (hr : RdB w S (some ad) n bs) (hl : n ≤ 140737488355328) :
    Calls Try.prog 57 #[.slice (some ad) n c] w fun e w' => ∃ v', e = .returned v' ∧ w'.ownsRow w.heap.size 5 1 v' n (bs.map bv) ∧ Chg Nil w w' := by
  have q : ∀ (w : World) (a : Option Addr) (n c n' c' : Nat), (binOp .eql 46 (.slice a n c) (.slice none n' c')).run Try.prog w = .ok (.bool a.isNone) w := fun w a n c n' c' => Lib.run_eql_slice_nil w _ _ a n c n' c' Try.underlying46
  obtain ⟨i0, hi, hz0, hz1, hz2⟩ := info_parts Try.infoU8
  have hr1 : ∀ o, RdB (w.alloc o) (fun k => S k ∧ k < w.heap.size) (some ad) n bs := fun o => hr.here.keep ((Chg.refl Nil w).alloc o) (fun _ _ h => h)
  have HR := Hid.mk hr1
  clear hr hr1
  go_enter Try.func57, Try.ntmps57
  go_wp2_with (at_builtin; refine wpl_append rfl _ _ 46 rfl w.heap.size 5 i0 _ 1 1 Try.underlying46 hi hz0 hz1 hz2 rfl (by omega) _ _ _ rfl (World.ownsRow_made w #[] 0 (Nat.le_refl _) (Nat.zero_le _) (by simp)) _ (some ad) n c _ rfl (HR.out _) (bv_one _) ?c2 ?c3 ?c4 ?_)
  case c2 => simp only [maxLen]; omega
  case c3 => omega
  case c4 => simp
  intro v' w1 hown hg
  have H := Hid.mk (And.intro hown hg)
  clear hown hg
  go_wp2
  go_ret
  refine ⟨v', rfl, by simpa using H.out.1, ?_⟩
  exact ((Chg.refl Nil w).alloc _).trans H.out.2.chg (fun k hk h => by have := own_at h; omega)

end Go.Proofs.Ytanipieeegeheaa
namespace Go.Proofs.Ytanipieeegeheaa
open Go.RowKit

/-- slices.Clone at bytes, nil or not. -/
theorem clone_any (A : Option Addr) (n c : Nat) (bs : List UInt8) (S : Nat → Prop) (w : World) (hr : RdB w S A n bs) (hl : n ≤ 140737488355328) :
    Calls Try.prog 57 #[.slice A n c] w fun e w' => ∃ v', e = .returned v' ∧ w'.ownsRow w.heap.size 5 1 v' n (bs.map bv) ∧ Chg Nil w w' := by
  cases A with
  | some ad => exact clone_some ad n c bs S w hr hl
  | none =>
    have h0 : n = 0 := by
      rcases Nat.eq_zero_or_pos n with h | h
      · exact h
      · obtain ⟨ad, he, _⟩ := hr.2 h
        cases he
    subst h0
    have hb : bs = [] := List.eq_nil_of_length_eq_zero hr.len
    subst hb
    refine (clone_nil 0 c w).mono ?_
    rintro e w' ⟨rfl, rfl⟩
    exact ⟨_, rfl, ⟨by simp, .inl ⟨rfl, rfl⟩⟩, Chg.refl _ _⟩

/-- A new disk. -/
def newN (n : Int) : Nat := (min (max n 0) 1000000).toNat
def Dp.new (n : Int) : Dp := ⟨List.replicate (newN n) 0, List.replicate (newN n) 0, [], false, 0⟩

theorem Row.of_bk {w : World} {g n : Nat} {e : TypeId} {cs : Array Value} (h : Bk w g e cs) (hn : cs.size = n) (hm : n ≤ maxLen) : Row w e 1 (.slice (some ⟨g, 0, none⟩) n n) n cs.toList :=
  ⟨by simpa using hn, .inr ⟨g, n, cs.toList, 0, 0, rfl, by simpa [Bk] using h, .inl (Nat.le_refl _), Nat.le_refl _, hm, by simpa using hn, by rw [List.take_of_length_le]; simp; omega⟩⟩
theorem dnew_laid (w : World) (N : Nat) (hN : N ≤ 1000000) (x y : Nat) (hxy : (x = w.heap.size ∧ y = w.heap.size + 1) ∨ (x = w.heap.size + 1 ∧ y = w.heap.size)) :
    Chg Nil w (((w.alloc (.cells (madeCells #[.int .u8 0] N) 5)).alloc (.cells (madeCells #[.int .u8 0] N) 5)).alloc (.cells #[.slice (some ⟨x, 0, none⟩) N N, .slice (some ⟨y, 0, none⟩) N N, .slice none 0 0, .bool false, .int .i64 0] 74)).drew ∧
    ∃ M R, Dk (((w.alloc (.cells (madeCells #[.int .u8 0] N) 5)).alloc (.cells (madeCells #[.int .u8 0] N) 5)).alloc (.cells #[.slice (some ⟨x, 0, none⟩) N N, .slice (some ⟨y, 0, none⟩) N N, .slice none 0 0, .bool false, .int .i64 0] 74)).drew
      (w.heap.size + 1 + 1) M R ⟨List.replicate N 0, List.replicate N 0, [], false, 0⟩ ∧ ∀ k, M k ∨ R k → w.heap.size ≤ k := by
  have b0 : Bk (((w.alloc (.cells (madeCells #[.int .u8 0] N) 5)).alloc (.cells (madeCells #[.int .u8 0] N) 5)).alloc (.cells #[.slice (some ⟨x, 0, none⟩) N N, .slice (some ⟨y, 0, none⟩) N N, .slice none 0 0, .bool false, .int .i64 0] 74)).drew w.heap.size 5 (madeCells #[.int .u8 0] N) :=
    ((Bk.new w _ _).alloc _).alloc _
  have b1 : Bk (((w.alloc (.cells (madeCells #[.int .u8 0] N) 5)).alloc (.cells (madeCells #[.int .u8 0] N) 5)).alloc (.cells #[.slice (some ⟨x, 0, none⟩) N N, .slice (some ⟨y, 0, none⟩) N N, .slice none 0 0, .bool false, .int .i64 0] 74)).drew (w.heap.size + 1) 5 (madeCells #[.int .u8 0] N) := by
    have h := (Bk.new (w.alloc (.cells (madeCells #[.int .u8 0] N) 5)) 5 (madeCells #[.int .u8 0] N)).alloc (.cells #[.slice (some ⟨x, 0, none⟩) N N, .slice (some ⟨y, 0, none⟩) N N, .slice none 0 0, .bool false, .int .i64 0] 74)
    simpa using h.drew
  have b2 : Bk (((w.alloc (.cells (madeCells #[.int .u8 0] N) 5)).alloc (.cells (madeCells #[.int .u8 0] N) 5)).alloc (.cells #[.slice (some ⟨x, 0, none⟩) N N, .slice (some ⟨y, 0, none⟩) N N, .slice none 0 0, .bool false, .int .i64 0] 74)).drew (w.heap.size + 1 + 1) 74
      #[.slice (some ⟨x, 0, none⟩) N N, .slice (some ⟨y, 0, none⟩) N N, .slice none 0 0, .bool false, .int .i64 0] := by
    have h := (Bk.new ((w.alloc (.cells (madeCells #[.int .u8 0] N) 5)).alloc (.cells (madeCells #[.int .u8 0] N) 5)) 74 #[.slice (some ⟨x, 0, none⟩) N N, .slice (some ⟨y, 0, none⟩) N N, .slice none 0 0, .bool false, .int .i64 0]).drew
    simpa using h
  have hch : Chg Nil w (((w.alloc (.cells (madeCells #[.int .u8 0] N) 5)).alloc (.cells (madeCells #[.int .u8 0] N) 5)).alloc (.cells #[.slice (some ⟨x, 0, none⟩) N N, .slice (some ⟨y, 0, none⟩) N N, .slice none 0 0, .bool false, .int .i64 0] 74)).drew :=
    ((((Chg.refl Nil w).alloc _).alloc _).alloc _).drew
  refine ⟨hch, ?_⟩
  generalize (((w.alloc (.cells (madeCells #[.int .u8 0] N) 5)).alloc (.cells (madeCells #[.int .u8 0] N) 5)).alloc (.cells #[.slice (some ⟨x, 0, none⟩) N N, .slice (some ⟨y, 0, none⟩) N N, .slice none 0 0, .bool false, .int .i64 0] 74)).drew = W at *
  have hsz : (madeCells #[Value.int .u8 0] N).size = N := by
    have := congrArg List.length (toList_madeCells_one (.int .u8 0) N)
    simpa using this
  have hl : (madeCells #[Value.int .u8 0] N).toList = (List.replicate N (0 : UInt8)).map bv := by
    rw [toList_madeCells_one]
    simp [bv]
  have r0 := Row.of_bk b0 hsz (by simp only [maxLen]; omega)
  have r1 := Row.of_bk b1 hsz (by simp only [maxLen]; omega)
  rw [hl] at r0 r1
  have hlt := b2.lt
  have rx : Row W 5 1 (.slice (some ⟨x, 0, none⟩) N N) N ((List.replicate N (0 : UInt8)).map bv) := by
    rcases hxy with ⟨rfl, _⟩ | ⟨rfl, _⟩
    · exact r0
    · exact r1
  have ry : Row W 5 1 (.slice (some ⟨y, 0, none⟩) N N) N ((List.replicate N (0 : UInt8)).map bv) := by
    rcases hxy with ⟨_, rfl⟩ | ⟨_, rfl⟩
    · exact r1
    · exact r0
  refine ⟨fun k => w.heap.size ≤ k ∧ k < w.heap.size + 3, Nil, ⟨.slice (some ⟨x, 0, none⟩) N N, .slice (some ⟨y, 0, none⟩) N N, .slice none 0 0, [], ?_⟩, fun k hk => ?_⟩
  · exact
      { bk := b2, now := by simpa using rx, lasts := by simpa using ry, row := ⟨rfl, .inl ⟨rfl, rfl⟩⟩, ats := rfl, vals := RdL.nil, mg := ⟨by omega, by omega⟩
        mn := fun k hk => by have := own_at hk; omega
        ml := fun k hk => by
          have := own_at hk
          refine ⟨by omega, by omega, fun h => ?_⟩
          have := own_at h
          omega
        mw := fun k hk => by simp [Own, Value.ownBlock] at hk
        apart := fun _ _ h => h
        lt := fun k hk => by
          rcases hk with h | h
          · omega
          · exact h.elim
        ok := ⟨by simp, by simpa using hN, fun p hp => by simp at hp, by simp⟩ }
  · rcases hk with h | h
    · exact h.1
    · exact h.elim

set_option maxHeartbeats 1000000 in
set_option maxRecDepth 100000 in
theorem dnew_any (n : Int) (w : World) :
    Calls Try.prog 12 #[.int .i64 n] w fun e w' => ∃ g M R, e = .returned (.pointer (some ⟨g, 0, none⟩)) ∧ Chg Nil w w' ∧ Dk w' g M R (Dp.new n) ∧ ∀ k, M k ∨ R k → w.heap.size ≤ k := by
  have hmk : ∀ N : Nat, N ≤ 1000000 → ∀ w : World, (Instr.makeSlice 46 (.int .i64 (N : Int)) (.int .i64 (N : Int))).run Try.prog w = .ok (.slice (some ⟨w.heap.size, 0, none⟩) N N) (w.alloc (.cells (madeCells #[.int .u8 0] N) 5)) :=
    fun N h => run_make_row' (P := Try.prog) 46 5 (.int .u8 0) 1 Try.underlying46 Try.infoU8 rfl .i64 .i64 N (by omega) (by omega)
  have hk : n < 0 ∨ (0 ≤ n ∧ n ≤ 1000000) ∨ 1000000 < n := by omega
  rcases hk with hk | ⟨hk, hk2⟩ | hk
  · have e : newN n = 0 := by unfold newN; omega
    have hm : ∀ w : World, (Instr.makeSlice 46 (.int .i64 0) (.int .i64 0)).run Try.prog w = .ok (.slice (some ⟨w.heap.size, 0, none⟩) 0 0) (w.alloc (.cells (madeCells #[.int .u8 0] 0) 5)) := hmk 0 (by omega)
    clear hmk
    go_enter Try.func12, Try.ntmps12
    go_wp2_with fail
    go_region
    · go_wp2
      go_ret
      obtain ⟨hc, M, R, hd, hs⟩ := dnew_laid w 0 (by omega) _ _ (.inl ⟨rfl, rfl⟩)
      exact ⟨_, M, R, rfl, hc, by rw [Dp.new, e]; exact hd, hs⟩
    · go_wp2
      go_ret
      obtain ⟨hc, M, R, hd, hs⟩ := dnew_laid w 0 (by omega) _ _ (.inr ⟨rfl, rfl⟩)
      exact ⟨_, M, R, rfl, hc, by rw [Dp.new, e]; exact hd, hs⟩
  · obtain ⟨N, rfl⟩ : ∃ N : Nat, n = (N : Int) := ⟨n.toNat, by omega⟩
    have e : newN (N : Int) = N := by unfold newN; omega
    have hm := hmk N (by omega)
    clear hmk
    go_enter Try.func12, Try.ntmps12
    go_wp2_with fail
    go_region
    · go_wp2
      go_ret
      obtain ⟨hc, M, R, hd, hs⟩ := dnew_laid w N (by omega) _ _ (.inl ⟨rfl, rfl⟩)
      exact ⟨_, M, R, rfl, hc, by rw [Dp.new, e]; exact hd, hs⟩
    · go_wp2
      go_ret
      obtain ⟨hc, M, R, hd, hs⟩ := dnew_laid w N (by omega) _ _ (.inr ⟨rfl, rfl⟩)
      exact ⟨_, M, R, rfl, hc, by rw [Dp.new, e]; exact hd, hs⟩
  · have e : newN n = 1000000 := by unfold newN; omega
    have hm : ∀ w : World, (Instr.makeSlice 46 (.int .i64 1000000) (.int .i64 1000000)).run Try.prog w = .ok (.slice (some ⟨w.heap.size, 0, none⟩) 1000000 1000000) (w.alloc (.cells (madeCells #[.int .u8 0] 1000000) 5)) := hmk 1000000 (by omega)
    clear hmk
    go_enter Try.func12, Try.ntmps12
    go_wp2_with fail
    go_region
    · go_wp2
      go_ret
      obtain ⟨hc, M, R, hd, hs⟩ := dnew_laid w 1000000 (by omega) _ _ (.inl ⟨rfl, rfl⟩)
      exact ⟨_, M, R, rfl, hc, by rw [Dp.new, e]; exact hd, hs⟩
    · go_wp2
      go_ret
      obtain ⟨hc, M, R, hd, hs⟩ := dnew_laid w 1000000 (by omega) _ _ (.inr ⟨rfl, rfl⟩)
      exact ⟨_, M, R, rfl, hc, by rw [Dp.new, e]; exact hd, hs⟩
set_option maxHeartbeats 1000000 in
set_option maxRecDepth 100000 in
theorem into_any (at_ : Nat) (B : Option Addr) (m mc : Nat) (ys : List UInt8) (S : Nat → Prop) (A : Option Addr) (n c : Nat) (xs : List UInt8) (keep : Int) (w : World)
    (hr : RdB w S B m ys) (hm : m ≤ mc) (hmc : mc ≤ maxLen) (hrow : Row w 5 1 (.slice A n c) n (xs.map bv)) (hn : n ≤ 1000000) (hfit : at_ + m ≤ n) :
    Calls Try.prog 52 #[.agg #[.int .i64 (at_ : Int), .slice B m mc], .slice A n c, .int .i64 keep] w fun e w' =>
      e = .returned (.int .i64 ((min keep.toNat m : Nat) : Int)) ∧ Row w' 5 1 (.slice A n c) n ((splice xs at_ (ys.take (min keep.toNat m))).map bv) ∧ Chg (Own (.slice A n c)) w w' := by
  have hk : keep ≤ 0 ∨ (0 < keep ∧ keep ≤ m) ∨ (m : Int) < keep := by omega
  have hnc : n ≤ c := by obtain ⟨A', c', he, h1, h2⟩ := hrow.form; injection he with _ _ h3; omega
  have hsz1 : (Try.prog.info? 5).map (·.size) = some 1 := by
    obtain ⟨i0, hi, hz0, hz1, hz2⟩ := info_parts Try.infoU8
    rw [hi]
    exact congrArg some hz1
  have hdp : ∀ g', A = some ⟨g', 0, none⟩ → at_ < n → (if c = at_ then A else Option.map (fun x => x.add at_) A) = some ⟨g', at_, none⟩ := by
    intro g' hA hlt
    subst hA
    rw [if_neg (by omega)]
    rcases Nat.eq_zero_or_pos at_ with h | h
    · subst h; rfl
    · simp [Addr.add, Nat.pos_iff_ne_zero.1 h]
  have HH := Hid.mk (And.intro hr (And.intro hrow (And.intro hdp hnc)))
  have hK : min keep.toNat m ≤ n - at_ := by omega
  have e1 : min (min keep.toNat m) (n - at_) = min keep.toNat m := by omega
  have HQ := Hid.mk e1
  clear hr hrow hdp e1 hnc
  unfold maxLen at hmc
  rcases hk with hk | ⟨hk, hk2⟩ | hk
  all_goals
    go_enter Try.func52, Try.ntmps52
    go_wp2_with fail
    refine wp_region_tail 13 (by kernel_rfl) (by kernel_rfl) fun W hW => ?_
    simp only [List.take_succ_cons, List.take_zero, List.drop_succ_cons, List.drop_zero]
    have hch : Chg Nil w W := by subst hW; exact ((Chg.refl Nil w).alloc _).drew
    have hc0 : W.cell? ⟨w.heap.size, 0, none⟩ = some (.int .i64 (at_ : Int)) := by
      subst hW; exact (Bk.new w _ _).drew.cell 0 rfl
    have hc1 : W.cell? ⟨w.heap.size, 1, none⟩ = some (.slice B m mc) := by
      subst hW; exact (Bk.new w _ _).drew.cell 1 rfl
    clear hW
    repeat (go_big_quiet_step (fail))
    refine wpQuiet_nil ?_
  · have e : (if keep < 0 then 0 else keep).toNat = min keep.toNat m := by split <;> omega
    rw [e]
    refine wpl_copy rfl (.tmp 10) (.tmp 19) 46 46 rfl 5 5 Try.underlying46 hsz1 A n c at_ (c - at_) _ (HH.out.2.1.keep hch (fun _ _ h => h)) _ HH.out.2.2.1 (by omega) S B (min keep.toNat m) mc _ ((HH.out.1.keep hch (fun _ _ h => h)).front (Nat.min_le_right _ _)) (bv_one _) rfl rfl ?_
    intro w2 hr2 hc2
    rw [List.take_of_length_le (by rw [List.length_map, List.length_take]; omega), splice_map] at hr2
    have H2 := Hid.mk (And.intro hr2 ((hch.wider (T := Own (.slice A n c)) (fun _ _ h => h.elim)).trans hc2 (fun _ _ h => h)))
    clear hr2 hc2 e
    rw [HQ.out]
    clear HH
    generalize (if c = at_ then A else Option.map (fun x => x.add at_) A) = dp
    generalize (if keep < 0 then 0 else keep) = kk
    go_wp2
    go_ret
    first
      | exact ⟨rfl, H2.out⟩
      | (refine ⟨?_, H2.out⟩; show Ending.returned (Value.int .i64 (max keep 0)) = _; congr 2; omega)
  · have e : keep.toNat = min keep.toNat m := by omega
    rw [e]
    refine wpl_copy rfl (.tmp 10) (.tmp 19) 46 46 rfl 5 5 Try.underlying46 hsz1 A n c at_ (c - at_) _ (HH.out.2.1.keep hch (fun _ _ h => h)) _ HH.out.2.2.1 (by omega) S B (min keep.toNat m) mc _ ((HH.out.1.keep hch (fun _ _ h => h)).front (Nat.min_le_right _ _)) (bv_one _) rfl rfl ?_
    intro w2 hr2 hc2
    rw [List.take_of_length_le (by rw [List.length_map, List.length_take]; omega), splice_map] at hr2
    have H2 := Hid.mk (And.intro hr2 ((hch.wider (T := Own (.slice A n c)) (fun _ _ h => h.elim)).trans hc2 (fun _ _ h => h)))
    clear hr2 hc2 e
    rw [HQ.out]
    clear HH
    generalize (if c = at_ then A else Option.map (fun x => x.add at_) A) = dp
    go_wp2
    go_ret
    first
      | exact ⟨rfl, H2.out⟩
      | (refine ⟨?_, H2.out⟩; show Ending.returned (Value.int .i64 (max keep 0)) = _; congr 2; omega)
  · have e : (if (m : Int) < if keep < 0 then 0 else keep then (m : Int) else if keep < 0 then 0 else keep).toNat = min keep.toNat m := by
      repeat' split
      all_goals omega
    rw [e]
    refine wpl_copy rfl (.tmp 10) (.tmp 19) 46 46 rfl 5 5 Try.underlying46 hsz1 A n c at_ (c - at_) _ (HH.out.2.1.keep hch (fun _ _ h => h)) _ HH.out.2.2.1 (by omega) S B (min keep.toNat m) mc _ ((HH.out.1.keep hch (fun _ _ h => h)).front (Nat.min_le_right _ _)) (bv_one _) rfl rfl ?_
    intro w2 hr2 hc2
    rw [List.take_of_length_le (by rw [List.length_map, List.length_take]; omega), splice_map] at hr2
    have H2 := Hid.mk (And.intro hr2 ((hch.wider (T := Own (.slice A n c)) (fun _ _ h => h.elim)).trans hc2 (fun _ _ h => h)))
    clear hr2 hc2 e
    rw [HQ.out]
    clear HH
    generalize (if c = at_ then A else Option.map (fun x => x.add at_) A) = dp
    generalize (if keep < 0 then 0 else keep) = kk
    generalize (if (m : Int) < kk then (m : Int) else kk) = k2
    go_wp2
    go_ret
    first
      | exact ⟨rfl, H2.out⟩
      | (refine ⟨?_, H2.out⟩; show Ending.returned (Value.int .i64 (max keep 0)) = _; congr 2; omega)

end Go.Proofs.Ytanipieeegeheaa
namespace Go.Proofs.Ytanipieeegeheaa
open Go.RowKit

/-- What Read and Write answer: 0, 1 (no such place) or 9 (dead). -/
def Dp.opE (d : Dp) (p n : Int) : Int := if d.fits p n then (if d.dead then 9 else 0) else 1
theorem Dp.opE_arg {d : Dp} {p n : Int} (h : d.fits p n = false) : d.opE p n = 1 := by simp [Dp.opE, h]
theorem Dp.opE_dead {d : Dp} {p n : Int} (h : d.fits p n = true) (hd : d.dead = true) : d.opE p n = 9 := by simp [Dp.opE, h, hd]
theorem Dp.opE_zero {d : Dp} {p n : Int} (h : d.opE p n = 0) : d.fits p n = true ∧ d.dead = false := by
  unfold Dp.opE at h
  split at h
  · split at h
    · omega
    · simp_all
  · omega
theorem Dp.opE_of {d : Dp} {p n : Int} (h : d.fits p n = true) (hd : d.dead = false) : d.opE p n = 0 := by simp [Dp.opE, h, hd]
theorem Dp.fits_nat {d : Dp} {p n : Nat} (h : p + n ≤ d.now.length) : d.fits p n = true := by simp [Dp.fits]; omega
theorem Dp.fits_elim {d : Dp} {p n : Int} (h : d.fits p n = true) : 0 ≤ p ∧ 0 ≤ n ∧ p + n ≤ d.now.length := by simp [Dp.fits] at h; omega

set_option maxHeartbeats 1000000 in
set_option maxRecDepth 100000 in
theorem dread_no {g : Nat} {M R : Nat → Prop} {d : Dp} {w : World} (h : Dk w g M R d) (p n : Int) (hne : d.opE p n ≠ 0) :
    Calls Try.prog 27 #[.pointer (some ⟨g, 0, none⟩), .int .i64 p, .int .i64 n] w fun e w' => e = .returned (.tuple #[.slice none 0 0, .int .i64 (d.opE p n)]) ∧ Chg Nil w w' := by
  have HH := Hid.mk h
  cases hf : d.fits p n with
  | false =>
    rw [Dp.opE_arg hf]
    clear h hne
    go_enter Try.func27, Try.ntmps27
    go_wp2_with fail
    refine (din_any HH.out p n).mono ?_
    rintro e w1 ⟨rfl, hc⟩
    have HC := Hid.mk hc
    clear hc
    rw [hf]
    go_wp2_with fail
    go_ret2
    exact ⟨rfl, HC.out⟩
  | true =>
    cases hd : d.dead with
    | false => exact absurd (Dp.opE_of hf hd) hne
    | true =>
      rw [Dp.opE_dead hf hd]
      clear h hne
      go_enter Try.func27, Try.ntmps27
      go_wp2_with fail
      refine (din_any HH.out p n).mono ?_
      rintro e w1 ⟨rfl, hc⟩
      have HC := Hid.mk hc
      have hc3 : w1.cell? ⟨g, 3, none⟩ = some (.bool true) := by
        obtain ⟨nv, lv, wv, ws, h⟩ := HH.out.keep_nil hc
        rw [← hd]
        exact h.bk.cell 3 rfl
      clear hc
      rw [hf]
      go_wp2_with fail
      go_ret2
      exact ⟨rfl, HC.out⟩

set_option maxHeartbeats 1000000 in
set_option maxRecDepth 100000 in
theorem dread_ok {g : Nat} {M R : Nat → Prop} {d : Dp} {w : World} (h : Dk w g M R d) (p n : Nat) (hp : p + n ≤ d.now.length) (hd : d.dead = false) :
    Calls Try.prog 27 #[.pointer (some ⟨g, 0, none⟩), .int .i64 (p : Int), .int .i64 (n : Int)] w fun e w' => ∃ v, e = .returned (.tuple #[v, .int .i64 0]) ∧
      w'.ownsRow w.heap.size 5 1 v n (((d.now.drop p).take n).map bv) ∧ Chg Nil w w' := by
  have HH := Hid.mk h
  have hf := Dp.fits_nat hp
  have hmost := h.ok.most
  clear h
  go_enter Try.func27, Try.ntmps27
  go_wp2_with fail
  refine (din_any HH.out p n).mono ?_
  rintro e w1 ⟨rfl, hc⟩
  obtain ⟨nv, lv, wv, ws, h⟩ := HH.out.keep_nil hc
  have hc3 : w1.cell? ⟨g, 3, none⟩ = some (.bool false) := by rw [← hd]; exact h.bk.cell 3 rfl
  obtain ⟨A, c, rfl, hnc, hcm⟩ := h.now.form
  unfold maxLen at hcm
  have hc0 : w1.cell? ⟨g, 0, none⟩ = some (.slice A d.now.length c) := h.bk.cell 0 rfl
  have hr : ∀ A', (A' = if c = p then A else A.map (·.add (p * 1))) → RdB w1 (Own (.slice A d.now.length c)) A' n ((d.now.drop p).take n) := by
    rintro A' rfl
    have := RdB.part (S := Own (.slice A d.now.length c)) (bs := d.now) h.now.rd (k := p) (m := p + n) (c := c = p) (by omega) hp (by omega)
    rwa [show p + n - p = n by omega] at this
  have HC := Hid.mk (And.intro hc hr)
  clear hc hr h
  rw [hf]
  generalize hL : d.now.length = L at *
  by_cases hcp : c = p
  · go_wp2_with fail
    refine (clone_any _ n _ _ _ w1 (HC.out.2 _ (by rw [if_pos hcp])) (by omega)).mono ?_
    rintro e w2 ⟨v, rfl, ho, hc2⟩
    have H2 := Hid.mk (And.intro ho hc2)
    clear ho hc2
    go_wp2_with fail
    go_ret2
    exact ⟨v, rfl, own_base H2.out.1 (fun k hk => Nat.le_trans HC.out.1.size (own_ge H2.out.1 k hk)), HC.out.1.trans H2.out.2 (fun _ _ h => h)⟩
  · go_wp2_with fail
    refine (clone_any _ n _ _ _ w1 (HC.out.2 _ (by rw [if_neg hcp, Nat.mul_one])) (by omega)).mono ?_
    rintro e w2 ⟨v, rfl, ho, hc2⟩
    have H2 := Hid.mk (And.intro ho hc2)
    clear ho hc2
    go_wp2_with fail
    go_ret2
    exact ⟨v, rfl, own_base H2.out.1 (fun k hk => Nat.le_trans HC.out.1.size (own_ge H2.out.1 k hk)), HC.out.1.trans H2.out.2 (fun _ _ h => h)⟩

end Go.Proofs.Ytanipieeegeheaa
namespace Go.Proofs.Ytanipieeegeheaa
open Go.RowKit

section
variable {w w' : World} {g : Nat} {M R S : Nat → Prop} {d : Dp} {nv lv wv : Value} {ws : List (Nat × Value)}
/-- The row of what lasts has changed. -/
theorem DkAt.lasted (h : DkAt w g M R d nv lv wv ws) {x : List UInt8} (hrow : Row w' 5 1 lv d.now.length (x.map bv)) (hc : Chg (Own lv) w w') (hx : x.length = d.now.length) : DkAt w' g M R { d with lasts := x } nv lv wv ws :=
  { bk := h.bk.keep hc (fun hg => (h.ml g hg).2.1 rfl), now := h.now.keep hc (fun k hk hs => (h.ml k hs).2.2 hk), lasts := hrow,
    row := h.row.keep hc (fun k hk hs => (h.mw k hk).2.2.2 hs), ats := h.ats, vals := h.vals.keep hc (fun k hk hs => h.apart k (h.ml k hs).1 hk),
    mg := h.mg, mn := h.mn, ml := h.ml, mw := h.mw, apart := h.apart, lt := fun k hk => Nat.lt_of_lt_of_le (h.lt k hk) hc.size, ok := ⟨hx, h.ok.most, h.ok.fits, h.ok.stop⟩ }
/-- The row of what is written has changed. -/
theorem DkAt.nowed (h : DkAt w g M R d nv lv wv ws) {x : List UInt8} (hrow : Row w' 5 1 nv d.now.length (x.map bv)) (hc : Chg (Own nv) w w') (hx : x.length = d.now.length) : DkAt w' g M R { d with now := x } nv lv wv ws :=
  { bk := h.bk.keep hc (fun hg => (h.mn g hg).2 rfl), now := by rw [← hx] at hrow; exact hrow, lasts := by
      have := h.lasts.keep hc (fun k hk hs => (h.ml k hk).2.2 hs)
      rw [← hx] at this
      exact this
    row := h.row.keep hc (fun k hk hs => (h.mw k hk).2.2.1 hs), ats := h.ats, vals := h.vals.keep hc (fun k hk hs => h.apart k (h.mn k hs).1 hk),
    mg := h.mg, mn := h.mn, ml := h.ml, mw := h.mw, apart := h.apart, lt := fun k hk => Nat.lt_of_lt_of_le (h.lt k hk) hc.size,
    ok := ⟨by rw [hx]; exact h.ok.same, by rw [hx]; exact h.ok.most, fun p hp => by rw [hx]; exact h.ok.fits p hp, h.ok.stop⟩ }
/-- Nothing waits any more. -/
theorem DkAt.waitless (h : DkAt w g M R d nv lv wv ws) :
    Chg (· = g) w (w.setCell ⟨g, 2, none⟩ (.slice none 0 0)) ∧ DkAt (w.setCell ⟨g, 2, none⟩ (.slice none 0 0)) g M R { d with waits := [] } nv lv (.slice none 0 0) [] := by
  have hch : Chg (· = g) w (w.setCell ⟨g, 2, none⟩ (.slice none 0 0)) := (Chg.refl (· = g) w).setCell (p := ⟨g, 2, none⟩) (fun _ => rfl) _
  refine ⟨hch, ?_⟩
  exact
    { bk := h.bk.set 2 (.slice none 0 0), now := h.now.keep hch (fun k hk hs => (h.mn k hk).2 hs), lasts := h.lasts.keep hch (fun k hk hs => (h.ml k hk).2.1 hs),
      row := ⟨rfl, .inl ⟨rfl, rfl⟩⟩, ats := rfl, vals := RdL.nil, mg := h.mg, mn := h.mn, ml := h.ml, mw := fun k hk => by simp [Own, Value.ownBlock] at hk
      apart := h.apart, lt := fun k hk => Nat.lt_of_lt_of_le (h.lt k hk) hch.size, ok := ⟨h.ok.same, h.ok.most, fun p hp => by simp at hp, h.ok.stop⟩ }
end

def Dp.sync (d : Dp) : Dp := { d.called with lasts := d.now, waits := [] }
theorem Dp.called_now (d : Dp) : d.called.now = d.now := by unfold Dp.called; split <;> rfl
theorem Dp.called_waits (d : Dp) : d.called.waits = d.waits := by unfold Dp.called; split <;> rfl
theorem Dp.called_lasts (d : Dp) : d.called.lasts = d.lasts := by unfold Dp.called; split <;> rfl

theorem dsync_dead {g : Nat} {M R : Nat → Prop} {d : Dp} {w : World} (h : Dk w g M R d) (hd : d.dead = true) :
    Calls Try.prog 24 #[.pointer (some ⟨g, 0, none⟩)] w fun e w' => e = .returned (.int .i64 9) ∧ w' = w := by
  go_enter Try.func24, Try.ntmps24
  go_wp2_with fail
  refine (call_dead h hd).mono ?_
  rintro e w1 ⟨rfl, rfl⟩
  go_wp2_with fail
  go_ret
  exact ⟨rfl, rfl⟩

theorem splice_all {α : Type} (l x : List α) (h : l.length = x.length) : splice l 0 x = x := by
  simp [splice, ← h]
theorem Try.sizeU8 : (Try.prog.info? 5).map (·.size) = some 1 := by
  obtain ⟨i0, hi, hz0, hz1, hz2⟩ := info_parts Try.infoU8
  rw [hi]
  exact congrArg some hz1

set_option maxHeartbeats 1000000 in
set_option maxRecDepth 100000 in
theorem dsync_ok {g : Nat} {M R : Nat → Prop} {d : Dp} {w : World} (h : Dk w g M R d) (hd : d.dead = false) :
    Calls Try.prog 24 #[.pointer (some ⟨g, 0, none⟩)] w fun e w' => e = .returned (.int .i64 0) ∧ Chg M w w' ∧ Dk w' g M R d.sync := by
  have hsync : d.sync = { d.called with lasts := d.called.now, waits := [] } := by rw [Dp.called_now]; rfl
  rw [hsync]
  have hgM : M g := by obtain ⟨_, _, _, _, h⟩ := h; exact h.mg
  have hcall := call_ok h hd
  clear hsync
  generalize d.called = d1 at *
  go_enter Try.func24, Try.ntmps24
  go_wp2_with fail
  refine hcall.mono ?_
  rintro e w1 ⟨rfl, hc, h1⟩
  have HC := Hid.mk (hc.wider (T := M) (fun k _ hk => hk ▸ hgM))
  clear hc h hd hcall
  obtain ⟨nv, lv, wv, ws, h1⟩ := h1
  go_wp2_with fail
  refine wp_region_tail 8 (by kernel_rfl) (by kernel_rfl) fun W hW => ?_
  simp only [List.take_succ_cons, List.take_zero, List.drop_succ_cons, List.drop_zero]
  have hch : Chg Nil w1 W := by subst hW; exact (Chg.refl Nil w1).drew
  have hW1 := h1.keep hch (fun _ _ h => h) (fun _ _ h => h)
  clear h1 hW
  obtain ⟨A, c, rfl, hnc, hcm⟩ := hW1.now.form
  obtain ⟨B, m, rfl, hnm, hmm⟩ := hW1.lasts.form
  have hc0 : W.cell? ⟨g, 0, none⟩ = some (.slice A d1.now.length c) := hW1.bk.cell 0 rfl
  have hc1 : W.cell? ⟨g, 1, none⟩ = some (.slice B d1.now.length m) := hW1.bk.cell 1 rfl
  have HW := Hid.mk (And.intro hW1 (HC.out.trans hch (fun _ _ h => h.elim)))
  clear hW1 hch
  repeat (go_big_quiet_step (fail))
  refine wpQuiet_nil ?_
  refine wpl_copy rfl (.tmp 12) (.tmp 16) 46 46 rfl 5 5 Try.underlying46 Try.sizeU8 B d1.now.length m 0 m _ HW.out.1.lasts B (fun g hg _ => hg) (by omega) _ A d1.now.length c _ HW.out.1.now.rd (bv_one _) rfl rfl ?_
  intro w2 hr2 hc2
  rw [Nat.sub_zero, Nat.min_self, List.take_of_length_le (by simp), splice_map, splice_all _ _ HW.out.1.ok.same] at hr2
  have h2 := HW.out.1.lasted hr2 hc2 rfl
  have hf2 := h2.bk.free 2
  have hc2' : w2.cell? ⟨g, 2, none⟩ = some wv := h2.bk.cell 2 rfl
  have H2 := Hid.mk (And.intro h2 (HW.out.2.trans hc2 (fun k _ hk => (HW.out.1.ml k hk).1)))
  clear h2 hc2 hr2
  go_wp2
  go_ret
  obtain ⟨hch, h3⟩ := H2.out.1.waitless
  exact ⟨rfl, H2.out.2.trans hch (fun k _ hk => hk ▸ hgM), _, _, _, _, h3⟩

/-- How many bytes wait. -/
def sumW : List (Nat × List UInt8) → Nat
  | [] => 0
  | p :: r => p.2.length + sumW r
theorem sumW_append (a b : List (Nat × List UInt8)) : sumW (a ++ b) = sumW a + sumW b := by
  induction a with
  | nil => simp [sumW]
  | cons p t ih => simp [sumW, ih]; omega
theorem sumW_le (l : List (Nat × List UInt8)) (n : Nat) (h : ∀ p ∈ l, p.2.length ≤ n) : sumW l ≤ l.length * n := by
  induction l with
  | nil => simp [sumW]
  | cons p t ih =>
    have h1 := h p (by simp)
    have h2 := ih (fun q hq => h q (by simp [hq]))
    simp only [sumW, List.length_cons, Nat.add_mul]
    omega

/-- The cells of the writes, one by one. -/
theorem waits_at {w : World} {R : Nat → Prop} {wv : Value} {n : Nat} {ws : List (Nat × Value)} {ps : List (Nat × List UInt8)} (hrow : Row w 90 2 wv n (wCells ws)) (hats : ws.map (·.1) = ps.map (·.1)) (hv : RdL w R (ws.map (·.2)) (ps.map (·.2))) (hn : ps.length = n) :
    ∀ A c, wv = .slice A n c → 0 < n → ∃ b, A = some ⟨b, 0, none⟩ ∧ ∀ k, k < n → ∃ p B m, ps[k]? = some p ∧ w.cell? ⟨b, k * 2, none⟩ = some (.int .i64 (p.1 : Int)) ∧ w.cell? ⟨b, k * 2 + 1, none⟩ = some (.slice B p.2.length m) ∧
      p.2.length ≤ m ∧ m ≤ maxLen ∧ RdB w R B p.2.length p.2 := by
  rintro A c rfl hpos
  have hl : ws.length = n := by have := congrArg List.length hats; simp at this; omega
  rcases hrow.2 with ⟨he, h0⟩ | ⟨g, cap, cur, lo, hi, he, hg, hf, hc, hm, hs, ht⟩
  · omega
  · injection he with h1 _ h3
    subst h1 h3
    refine ⟨g, rfl, fun k hk => ?_⟩
    have hq : ws[k]? = some (ws[k]'(by omega)) := List.getElem?_eq_getElem (by omega)
    have hp : ps[k]? = some (ps[k]'(by omega)) := List.getElem?_eq_getElem (by omega)
    obtain ⟨c1, c2⟩ := wCells_get ws k _ hq
    have cellOf : ∀ j u, (wCells ws)[j]? = some u → w.cell? ⟨g, j, none⟩ = some u := by
      intro j u hu
      rw [cell_of_list hg]
      rw [← ht, List.getElem?_take] at hu
      split at hu
      · exact hu
      · cases hu
    have ha : (ws[k]'(by omega)).1 = (ps[k]'(by omega)).1 := by
      have := congrArg (fun l => l[k]?) hats
      simp only [List.getElem?_map, hq, hp, Option.map_some] at this
      exact Option.some.inj this
    obtain ⟨B, m, hB, h2, h3, h4⟩ := hv.2 k (ps[k]'(by omega)).2 (by rw [List.getElem?_map, hp]; rfl)
    rw [List.getElem?_map, hq] at hB
    have hB' : (ws[k]'(by omega)).2 = .slice B (ps[k]'(by omega)).2.length m := Option.some.inj hB
    refine ⟨_, B, m, hp, ?_, ?_, h2, h3, h4⟩
    · rw [← ha]; exact cellOf _ _ c1
    · rw [← hB']; exact cellOf _ _ c2
theorem sumW_take (l : List (Nat × List UInt8)) (k : Nat) (p : Nat × List UInt8) (h : l[k]? = some p) : sumW (l.take (k + 1)) = sumW (l.take k) + p.2.length := by
  rw [List.take_add_one, h, sumW_append]
  rfl

end Go.Proofs.Ytanipieeegeheaa
namespace Go.Proofs.Ytanipieeegeheaa
open Go.RowKit

theorem step_append_row {P : Program} {ops : Array Oper} {o : Oper} {a : Act} {w : World} {K : Act → World → Prop} {Q : Exit → Act → World → Prop} {E : Prop} (hgd : o.guard = none) (s x : Operand) (t : TypeId)
    (ho : o.op = .call { callee := .builtin .append, args := #[s, x], argTypes := #[t, t] })
    (e : TypeId) (i : TypeInfo) (z : Value) (sz bytes : Nat) (ht : P.underlying t = some (.slice e)) (hi : P.info? e = some i) (hz : i.zero = some z)
    (hsize : i.size = sz) (hby : i.bytes = bytes) (hzs : z.cells.size = sz) (hsz : 0 < sz)
    (v : Value) (n : Nat) (xs : List Value) (hs : a.eval s = v) (hown : Row w e sz v n xs)
    (S : Nat → Prop) (A : Option Addr) (m c : Nat) (news : List Value) (hx : a.eval x = .slice A m c) (hr : Rds w S sz A m news) (h1 : ∀ u ∈ news, u.oneCell' = true)
    (h63 : n + m ≤ maxLen) (hbytes : (n + m) * bytes ≤ 140737488355328)
    (h : ∀ v' w', Row w' e sz v' (n + m) (xs ++ news) → Grew w v w' v' → K (a.put o.dst v') w') : if Region.wanted o (yielded ops a.tmps) = true then Oper.wp P o a w K Q else E := by
  rw [if_pos (by simp [Region.wanted, hgd])]
  obtain ⟨v', w', hrun, h2, h3⟩ := run_append_row (P := P) w t o.type e i z sz bytes ht hi hz hsize hby hzs hsz v n xs hown S A m c news hr h1 h63 hbytes
  unfold Oper.wp execOp
  simp only [ho, resolve, invoke, builtin, Sem.run_bind, Sem.run_pure, Result.andThen_ok, List.map_toArray, List.map_cons, List.map_nil, hs, hx, hrun]
  exact h v' w' h2 h3
theorem rds_two (w : World) (u v : Value) (t : TypeId) : Rds (w.alloc (.cells #[u, v] t)).drew (fun k => k = w.heap.size) 2 (some ⟨w.heap.size, 0, none⟩) 1 [u, v] := by
  have h := (Bk.new w t #[u, v]).drew
  refine ⟨rfl, fun _ => ⟨_, rfl, rfl, fun j x hx => ?_⟩⟩
  match j with
  | 0 => simp at hx; subst hx; exact h.cell 0 rfl
  | 1 => simp at hx; subst hx; exact h.cell 1 rfl
  | j + 2 => simp at hx
theorem Try.infoWrite : (Try.prog.info? 90).map (fun i => (i.zero, i.size, i.bytes)) = some (some (.agg #[.int .i64 0, .slice none 0 0]), 2, 32) := by kernel_rfl

theorem Grew.drew_left {w w' : World} {v v' : Value} (h : Grew w.drew v w' v') : Grew w v w' v' := ⟨⟨h.chg.os, h.chg.tape, h.chg.output, h.chg.size, h.chg.old⟩, h.lies⟩
/-- One write more waits. -/
theorem DkAt.waited {w w' : World} {g : Nat} {M R : Nat → Prop} {d : Dp} {nv lv wv : Value} {ws : List (Nat × Value)} (h : DkAt w g M R d nv lv wv ws) {F E : Option Addr} {n c' p m c : Nat} {ys : List UInt8} (hn : n = d.waits.length + 1)
    (hrow : Row w' 90 2 (.slice F n c') n (wCells ws ++ [.int .i64 (p : Int), .slice E m c])) (hgr : Grew w wv w' (.slice F n c')) (hv : RdB w (Own (.slice E m c)) E m ys)
    (hvm : ∀ k, Own (.slice E m c) k → ¬ M k) (hvlt : ∀ k, Own (.slice E m c) k → k < w.heap.size) (hmc : m ≤ c) (hcm : c ≤ maxLen) (hfit : p + m ≤ d.now.length) :
    Chg M w (w'.setCell ⟨g, 2, none⟩ (.slice F n c')) ∧ Dk (w'.setCell ⟨g, 2, none⟩ (.slice F n c')) g (fun k => M k ∨ Own (.slice F n c') k) (fun k => R k ∨ Own (.slice E m c) k) { d with waits := d.waits ++ [(p, ys)] } := by
  subst hn
  obtain rfl := hv.len
  have hgl := h.lt g (.inl h.mg)
  have hwM : ∀ k, Own wv k → M k := fun k hk => (h.mw k hk).1
  have hbk := h.bk.keep hgr.chg (fun hk => (h.mw g hk).2.1 rfl)
  have hset : Chg (· = g) w' (w'.setCell ⟨g, 2, none⟩ (.slice F (d.waits.length + 1) c')) := (Chg.refl (· = g) w').setCell (p := ⟨g, 2, none⟩) (fun _ => rfl) _
  have hall : Chg M w (w'.setCell ⟨g, 2, none⟩ (.slice F (d.waits.length + 1) c')) := (hgr.chg.wider (fun k _ hk => hwM k hk)).trans hset (fun k _ hk => hk ▸ h.mg)
  have hw' : ∀ k, Own (.slice F (d.waits.length + 1) c') k → k ≠ g ∧ ¬ Own nv k ∧ ¬ Own lv k ∧ ¬ R k ∧ ¬ Own (.slice E ys.length c) k := by
    intro k hk
    rcases Nat.lt_or_ge k w.heap.size with hlt | hge
    · have hk' := hgr.lies k hlt hk
      obtain ⟨h1, h2, h3, h4⟩ := h.mw k hk'
      exact ⟨h2, h3, h4, fun hr => h.apart k h1 hr, fun hv => hvm k hv h1⟩
    · refine ⟨by omega, fun hk2 => ?_, fun hk2 => ?_, fun hr => ?_, fun hv => ?_⟩
      · have := h.lt k (.inl (h.mn k hk2).1); omega
      · have := h.lt k (.inl (h.ml k hk2).1); omega
      · have := h.lt k (.inr hr); omega
      · have := hvlt k hv; omega
  have hwl : (w'.setCell ⟨g, 2, none⟩ (.slice F (d.waits.length + 1) c')).heap.size = w'.heap.size := by simp [World.setCell]
  refine ⟨hall, nv, lv, .slice F (d.waits.length + 1) c', ws ++ [(p, .slice E ys.length c)], ?_⟩
  exact
    { bk := hbk.set 2 (.slice F (d.waits.length + 1) c')
      now := (h.now.keep hgr.chg (fun k hk hs => (h.mw k hs).2.2.1 hk)).keep hset (fun k hk hs => (h.mn k hk).2 hs)
      lasts := (h.lasts.keep hgr.chg (fun k hk hs => (h.mw k hs).2.2.2 hk)).keep hset (fun k hk hs => (h.ml k hk).2.1 hs)
      row := by
        have := hrow.keep hset (fun k hk hs => (hw' k hk).1 hs)
        rw [wCells_snoc]
        simpa using this
      ats := by simp [h.ats]
      vals := by
        have h1 : RdL (w'.setCell ⟨g, 2, none⟩ (.slice F (d.waits.length + 1) c')) (fun k => R k ∨ Own (.slice E ys.length c) k) (ws.map (·.2)) (d.waits.map (·.2)) :=
          (h.vals.keep hall (fun k hr hm => h.apart k hm hr)).wider (fun _ _ h => .inl h)
        have h2 : RdB (w'.setCell ⟨g, 2, none⟩ (.slice F (d.waits.length + 1) c')) (fun k => R k ∨ Own (.slice E ys.length c) k) E ys.length ys :=
          (hv.keep hall (fun k hr hm => hvm k hr hm)).wider (fun _ _ h => .inr h)
        have := h1.snoc h2 hmc hcm
        simpa using this
      mg := .inl h.mg
      mn := fun k hk => ⟨.inl (h.mn k hk).1, (h.mn k hk).2⟩
      ml := fun k hk => ⟨.inl (h.ml k hk).1, (h.ml k hk).2⟩
      mw := fun k hk => ⟨.inr hk, (hw' k hk).1, (hw' k hk).2.1, (hw' k hk).2.2.1⟩
      apart := fun k hm hr => by
        rcases hm with hm | hm
        · rcases hr with hr | hr
          · exact h.apart k hm hr
          · exact hvm k hr hm
        · rcases hr with hr | hr
          · exact (hw' k hm).2.2.2.1 hr
          · exact (hw' k hm).2.2.2.2 hr
      lt := fun k hk => by
        rcases hk with (hk | hk) | (hk | hk)
        · exact Nat.lt_of_lt_of_le (h.lt k (.inl hk)) hall.size
        · rw [hwl]; exact hrow.lt k hk
        · exact Nat.lt_of_lt_of_le (h.lt k (.inr hk)) hall.size
        · exact Nat.lt_of_lt_of_le (hvlt k hk) hall.size
      ok := ⟨h.ok.same, h.ok.most, fun q hq => by
        rcases List.mem_append.1 hq with hq | hq
        · exact h.ok.fits q hq
        · simp at hq
          subst hq
          exact hfit, h.ok.stop⟩ }

def Dp.write (d : Dp) (p : Nat) (ys : List UInt8) : Dp := { d.called with now := splice d.now p ys, waits := d.waits ++ [(p, ys)] }

set_option maxHeartbeats 1000000 in
set_option maxRecDepth 100000 in
theorem dwrite_no {g : Nat} {M R : Nat → Prop} {d : Dp} {w : World} (h : Dk w g M R d) (p : Int) (B : Option Addr) (m mc : Nat) (hne : d.opE p m ≠ 0) :
    Calls Try.prog 23 #[.pointer (some ⟨g, 0, none⟩), .int .i64 p, .slice B m mc] w fun e w' => e = .returned (.int .i64 (d.opE p m)) ∧ Chg Nil w w' := by
  have HH := Hid.mk h
  cases hf : d.fits p m with
  | false =>
    rw [Dp.opE_arg hf]
    clear h hne
    go_enter Try.func23, Try.ntmps23
    go_wp2_with fail
    refine (din_any HH.out p m).mono ?_
    rintro e w1 ⟨rfl, hc⟩
    have HC := Hid.mk hc
    clear hc
    rw [hf]
    go_wp2_with fail
    go_ret
    exact ⟨rfl, HC.out⟩
  | true =>
    cases hd : d.dead with
    | false => exact absurd (Dp.opE_of hf hd) hne
    | true =>
      rw [Dp.opE_dead hf hd]
      clear h hne
      go_enter Try.func23, Try.ntmps23
      go_wp2_with fail
      refine (din_any HH.out p m).mono ?_
      rintro e w1 ⟨rfl, hc⟩
      have HC := Hid.mk hc
      clear hc
      rw [hf]
      go_wp2_with fail
      refine (call_dead (HH.out.keep_nil HC.out) hd).mono ?_
      rintro e w2 ⟨rfl, rfl⟩
      go_wp2_with fail
      go_ret
      exact ⟨rfl, HC.out⟩

set_option maxHeartbeats 1000000 in
set_option maxRecDepth 100000 in
theorem dwrite_ok {g : Nat} {M R S : Nat → Prop} {d : Dp} {w : World} (h : Dk w g M R d) (p : Nat) (B : Option Addr) (m mc : Nat) (ys : List UInt8) (hr : RdB w S B m ys) (hS : ∀ k, S k → ¬ M k)
    (hp : p + m ≤ d.now.length) (hd : d.dead = false) (hlong : d.waits.length ≤ 1000000) :
    Calls Try.prog 23 #[.pointer (some ⟨g, 0, none⟩), .int .i64 (p : Int), .slice B m mc] w fun e w' => ∃ M' R', e = .returned (.int .i64 0) ∧ Went w w' M R M' R' ∧ Dk w' g M' R' (d.write p ys) := by
  have hf := Dp.fits_nat hp
  have hmost := h.ok.most
  have hgM : M g := by obtain ⟨_, _, _, _, h⟩ := h; exact h.mg
  have hwr : d.write p ys = { d.called with now := splice d.called.now p ys, waits := d.called.waits ++ [(p, ys)] } := by rw [Dp.called_now, Dp.called_waits]; rfl
  rw [hwr]
  have hcall : ∀ w1, Chg Nil w w1 → Calls Try.prog 56 #[.pointer (some ⟨g, 0, none⟩)] w1 fun e w' => e = .returned (.int .i64 0) ∧ Chg (· = g) w1 w' ∧ Dk w' g M R d.called :=
    fun w1 hc => call_ok (h.keep_nil hc) hd
  have hin := din_any h p m
  rw [hf] at hin
  rw [← Dp.called_now] at hp hmost
  rw [← Dp.called_waits] at hlong
  clear hf hwr h
  generalize d.called = d1 at *
  have HS := Hid.mk (And.intro hr hS)
  clear hr hS
  go_enter Try.func23, Try.ntmps23
  go_wp2_with fail
  refine hin.mono ?_
  rintro e w1 ⟨rfl, hc⟩
  have hcall1 := hcall w1 hc
  have HC := Hid.mk hc
  clear hc hcall hin
  go_wp2_with fail
  refine hcall1.mono ?_
  rintro e w2 ⟨rfl, hc2, h2⟩
  have hch2 : Chg M w w2 := (HC.out.wider (T := M) (fun _ _ h => h.elim)).trans (hc2.wider (T := M) (fun k _ hk => hk ▸ hgM)) (fun _ _ h => h)
  have hr2 : RdB w2 (fun k => S k ∧ k < w.heap.size) B m ys := (HS.out.1.here).keep hch2 (fun k hs hm => HS.out.2 k hs.1 hm)
  have H2 := Hid.mk (And.intro h2 (And.intro hch2 hr2))
  clear hcall1 hc2 h2 hch2 hr2
  go_wp2_with fail
  refine (clone_any B m mc ys _ w2 H2.out.2.2 (by omega)).mono ?_
  rintro e w3 ⟨v, rfl, ho, hc3⟩
  obtain ⟨E, c3, rfl, hmc3, hcm3⟩ := own_form ho
  have h3 := H2.out.1.keep_nil hc3
  have hlt3 := own_ge ho
  have H3 := Hid.mk (And.intro h3 (And.intro ho (And.intro (H2.out.2.1.trans (hc3.wider (T := M) (fun _ _ h => h.elim)) (fun _ _ h => h)) hlt3)))
  clear h3 ho hc3 hlt3
  go_wp2_with fail
  refine wp_region_tail 7 (by kernel_rfl) (by kernel_rfl) fun W hW => ?_
  simp only [List.take_succ_cons, List.take_zero, List.drop_succ_cons, List.drop_zero]
  have hch : Chg Nil w3 W := by subst hW; exact ((Chg.refl Nil w3).alloc _).drew
  have b8 : Bk W w3.heap.size 90 #[.int .i64 (p : Int), .slice E m c3] := by subst hW; exact (Bk.new w3 _ _).drew
  have h4 := H3.out.1.keep_nil hch
  have hold := H3.out.1.lt
  have hlt3 : ∀ k, Own (.slice E m c3) k → k < w3.heap.size := own_lt H3.out.2.1
  clear hW
  obtain ⟨nv, lv, wv, ws, h4⟩ := h4
  obtain ⟨A, c, rfl, hnc, hcm⟩ := h4.now.form
  have hc0 : W.cell? ⟨g, 0, none⟩ = some (.slice A d1.now.length c) := h4.bk.cell 0 rfl
  have hc8 : W.cell? ⟨w3.heap.size, 0, none⟩ = some (.int .i64 (p : Int)) := b8.cell 0 rfl
  have hc9 : W.cell? ⟨w3.heap.size, 1, none⟩ = some (.slice E m c3) := b8.cell 1 rfl
  have hv4 : RdB W (Own (.slice E m c3)) E m ys := Rds.of_own (own_keep H3.out.2.1 hch (fun _ _ h => h))
  have H4 := Hid.mk (And.intro h4 (And.intro b8 (And.intro hv4 (And.intro (H3.out.2.2.1.trans (hch.wider (T := M) (fun _ _ h => h.elim)) (fun _ _ h => h)) (And.intro hold hlt3)))))
  clear h4 b8 hv4 hch hold hlt3
  repeat (go_big_quiet_step (fail))
  refine wpQuiet_nil ?_
  go_wp2_with fail
  refine (into_any p E m c3 ys _ A _ c d1.now (m : Int) W H4.out.2.2.1 hmc3 hcm3 H4.out.1.now hmost hp).mono ?_
  rintro e w4 ⟨rfl, hrow4, hc4⟩
  rw [Int.toNat_natCast, Nat.min_self, List.take_of_length_le (by rw [H4.out.2.2.1.len]; exact Nat.le_refl _)] at hrow4
  have h5 := H4.out.1.nowed hrow4 hc4 (splice_len _ _ _ (by rw [H4.out.2.2.1.len]; exact hp))
  have hM4 : ∀ k, Own (.slice A d1.now.length c) k → M k := fun k hk => (H4.out.1.mn k hk).1
  have b8' := H4.out.2.1.keep hc4 (fun hk => by have := H4.out.2.2.2.2.1 _ (.inl (hM4 _ hk)); omega)
  have hwv : w4.cell? ⟨g, 2, none⟩ = some wv := h5.bk.cell 2 rfl
  have hwf : w4.frozen? ⟨g, 2, none⟩ = false := h5.bk.free 2
  have hc8 : w4.cell? ⟨w3.heap.size, 0, none⟩ = some (.int .i64 (p : Int)) := b8'.cell 0 rfl
  have hc9 : w4.cell? ⟨w3.heap.size, 1, none⟩ = some (.slice E m c3) := b8'.cell 1 rfl
  obtain ⟨F, c5, rfl, hnc5, hcm5⟩ := h5.row.form
  have H5 := Hid.mk (And.intro h5 (And.intro b8' hc4))
  clear h5 b8' hc4 hrow4
  go_wp2_with fail
  obtain ⟨iW, hiW, hzW, hz1W, hz2W⟩ := info_parts Try.infoWrite
  have hgF : ¬ Own (.slice F d1.waits.length c5) g := fun hk => (H5.out.1.mw g hk).2.1 rfl
  have hg8 : ¬ Own (.slice F d1.waits.length c5) w3.heap.size := fun hk => by
    have := H4.out.2.2.2.2.1 _ (.inl (H5.out.1.mw _ hk).1)
    omega
  have hS5 : ∀ v' w', Grew ((w4.alloc (.cells #[.int .i64 (p : Int), .slice E m c3] 90)).drew) (.slice F d1.waits.length c5) w' v' →
      w'.cell? ⟨g, 2, none⟩ = some (.slice F d1.waits.length c5) ∧ w'.cell? ⟨w3.heap.size, 0, none⟩ = some (.int .i64 (p : Int)) ∧ w'.cell? ⟨w3.heap.size, 1, none⟩ = some (.slice E m c3) ∧ w'.frozen? ⟨g, 2, none⟩ = false := by
    intro v' w' hg'
    have hA : Chg Nil w4 ((w4.alloc (.cells #[.int .i64 (p : Int), .slice E m c3] 90)).drew) := ((Chg.refl Nil w4).alloc _).drew
    exact ⟨hg'.chg.cell (hA.cell hwv (fun h => h)) hgF, hg'.chg.cell (hA.cell hc8 (fun h => h)) hg8, hg'.chg.cell (hA.cell hc9 (fun h => h)) hg8, ((H5.out.1.bk.keep hA (fun h => h)).keep hg'.chg hgF).free 2⟩
  have HS5 := Hid.mk hS5
  clear hS5
  have hwv5 : (w4.alloc (.cells #[.int .i64 (p : Int), .slice E m c3] 90)).cell? ⟨g, 2, none⟩ = some (.slice F d1.waits.length c5) := ((Chg.refl Nil w4).alloc _).cell hwv (fun h => h)
  have hc85 : (w4.alloc (.cells #[.int .i64 (p : Int), .slice E m c3] 90)).cell? ⟨w3.heap.size, 0, none⟩ = some (.int .i64 (p : Int)) := ((Chg.refl Nil w4).alloc _).cell hc8 (fun h => h)
  have hc95 : (w4.alloc (.cells #[.int .i64 (p : Int), .slice E m c3] 90)).cell? ⟨w3.heap.size, 1, none⟩ = some (.slice E m c3) := ((Chg.refl Nil w4).alloc _).cell hc9 (fun h => h)
  go_region_law ((refine step_append_row (by rfl) _ _ _ (by rfl) 90 iW _ 2 32 Try.underlying72 hiW hzW hz1W hz2W (by rfl) (by omega) (.slice F d1.waits.length c5) d1.waits.length (wCells ws) (by rfl) (H5.out.1.row.keep (((Chg.refl Nil w4).alloc _).drew) (fun _ _ h => h)) (fun k => k = w4.heap.size) _ 1 1 [.int .i64 (p : Int), .slice E m c3] (by rfl) (rds_two w4 _ _ _) (by intro u hu; simp at hu; rcases hu with rfl | rfl <;> rfl) (by simp only [maxLen]; omega) (by omega) ?_; intro v' w' hrow' hgrew'; have hfr' := (HS5.out _ _ hgrew').2.2.2; have hcl' := (HS5.out _ _ hgrew').1; obtain ⟨F', c', rfl, hx1, hx2⟩ := hrow'.form))
  all_goals
    have hgr4 := hgrew'.drew_left.alloc_left
    have H6 := Hid.mk (And.intro hrow' hgr4)
    clear hrow' hgrew' hgr4
    go_wp2
    go_ret
    have hnv : ∀ k, Own (.slice A d1.now.length c) k → M k := fun k hk => (H4.out.1.mn k hk).1
    have hv2 : ∀ k, M k → k < w2.heap.size := fun k hk => H2.out.1.lt k (.inl hk)
    have hvge := H3.out.2.2.2
    have hfin := H5.out.1.waited (p := p) (ys := ys) rfl H6.out.1 H6.out.2 (H4.out.2.2.1.keep H5.out.2.2 (fun k h1 h2 => by have := hvge k h1; have := hv2 k (hnv k h2); omega))
      (fun k h1 h2 => by have := hvge k h1; have := hv2 k h2; omega) (fun k h1 => Nat.lt_of_lt_of_le (H4.out.2.2.2.2.2 k h1) (by
        have h1 := H5.out.2.1.lt
        omega)) hmc3 hcm3 (by rw [splice_len _ _ _ (by rw [H4.out.2.2.1.len]; exact hp)]; exact hp)
    have hchw : Chg M w w4 := H4.out.2.2.2.1.trans H5.out.2.2 (fun k _ hk => hnv k hk)
    refine ⟨_, _, rfl, ⟨hchw.trans hfin.1 (fun _ _ h => h), fun k hk hm => ?_, fun k hk hr => ?_⟩, hfin.2⟩
    · rcases hm with hm | hm
      · exact hm
      · exact (H5.out.1.mw k (H6.out.2.lies k (Nat.lt_of_lt_of_le hk hchw.size) hm)).1
    · rcases hr with hr | hr
      · exact hr
      · have := hvge k hr
        have := H2.out.2.1.size
        omega

end Go.Proofs.Ytanipieeegeheaa
namespace Go.Proofs.Ytanipieeegeheaa
open Go.RowKit

/-- What lasts behind a crash that keeps k bytes of those that wait. -/
def crashB : List UInt8 → Nat → List (Nat × List UInt8) → List UInt8
  | l, _, [] => l
  | l, k, p :: r => crashB (splice l p.1 (p.2.take (min k p.2.length))) (k - min k p.2.length) r
def Dp.crash (d : Dp) (keep : Int) : Dp := ⟨crashB d.lasts keep.toNat d.waits, crashB d.lasts keep.toNat d.waits, [], false, 0⟩
theorem crashB_len (ps : List (Nat × List UInt8)) (n : Nat) (h : ∀ p ∈ ps, p.1 + p.2.length ≤ n) : ∀ (l : List UInt8) (k : Nat), l.length = n → (crashB l k ps).length = n := by
  induction ps with
  | nil => intro l k hl; exact hl
  | cons p r ih =>
    intro l k hl
    have hp := h p (by simp)
    exact ih (fun q hq => h q (by simp [hq])) _ _ (by rw [splice_len _ _ _ (by rw [List.length_take]; omega)]; exact hl)
theorem crashB_step (l : List UInt8) (k j : Nat) (ps : List (Nat × List UInt8)) (p : Nat × List UInt8) (h : ps[j]? = some p) :
    crashB l k (ps.drop j) = crashB (splice l p.1 (p.2.take (min k p.2.length))) (k - min k p.2.length) (ps.drop (j + 1)) := by
  have hj : j < ps.length := by
    rcases Nat.lt_or_ge j ps.length with h1 | h1
    · exact h1
    · rw [List.getElem?_eq_none h1] at h; cases h
  rw [List.drop_eq_getElem_cons hj]
  rw [List.getElem?_eq_getElem hj] at h
  have := Option.some.inj h
  rw [this]
  rfl

theorem DkAt.set43 {w : World} {g : Nat} {M R : Nat → Prop} {d : Dp} {nv lv wv : Value} {ws : List (Nat × Value)} (h : DkAt w g M R d nv lv wv ws) (x : Int) (b : Bool) (s : Nat) (hx : x = (s : Int)) (hs : s ≤ 9223372036854775807) :
    Chg (· = g) w ((w.setCell ⟨g, 3, none⟩ (.bool b)).setCell ⟨g, 4, none⟩ (.int .i64 x)) ∧ Dk ((w.setCell ⟨g, 3, none⟩ (.bool b)).setCell ⟨g, 4, none⟩ (.int .i64 x)) g M R { d with dead := b, stop := s } := by
  subst hx
  have hch : Chg (· = g) w ((w.setCell ⟨g, 3, none⟩ (.bool b)).setCell ⟨g, 4, none⟩ (.int .i64 (s : Int))) :=
    ((Chg.refl (· = g) w).setCell (p := ⟨g, 3, none⟩) (fun _ => rfl) _).setCell (p := ⟨g, 4, none⟩) (fun _ => rfl) _
  exact ⟨hch, nv, lv, wv, ws, h.turn hch ((h.bk.set 3 (.bool b)).set 4 (.int .i64 (s : Int))) hs⟩

set_option maxHeartbeats 1000000 in
set_option maxRecDepth 100000 in
theorem dcrash_any {g : Nat} {M R : Nat → Prop} {d : Dp} {w : World} (h : Dk w g M R d) (keep : Int) (hk1 : -9223372036854775808 ≤ keep) (hk2 : keep ≤ 9223372036854775807) (hlong : d.waits.length ≤ 1000000) :
    Calls Try.prog 16 #[.pointer (some ⟨g, 0, none⟩), .int .i64 keep] w fun e w' => (∃ v, e = .returned v) ∧ Chg M w w' ∧ Dk w' g M R (d.crash keep) := by
  obtain ⟨nv, lv, wv, ws, h⟩ := h
  obtain ⟨F, c, rfl, hnc, hcm⟩ := h.row.form
  obtain ⟨B, bc, rfl, hbc, hbm⟩ := h.lasts.form
  have hc1 : w.cell? ⟨g, 1, none⟩ = some (.slice B d.now.length bc) := h.bk.cell 1 rfl
  have hc2 : w.cell? ⟨g, 2, none⟩ = some (.slice F d.waits.length c) := h.bk.cell 2 rfl
  have hat := waits_at h.row h.ats h.vals rfl F c rfl
  have hmost := h.ok.most
  have HH := Hid.mk (And.intro h hat)
  clear h hat
  generalize hn : d.waits.length = n at *
  generalize hL : d.now.length = L at *
  go_enter Try.func16, Try.ntmps16
  go_wp2_with fail
  go_loopw [1, 12] (fun kp i wr => ∃ (k : Nat) (kk : Int) (cur : List UInt8), k ≤ n ∧ i = .int .i64 (k : Int) ∧ kp = .int .i64 kk ∧ (kk = keep ∨ (0 ≤ kk ∧ kk ≤ keep)) ∧ cur.length = L ∧
    crashB cur kk.toNat (d.waits.drop k) = crashB d.lasts keep.toNat d.waits ∧ Chg (Own (.slice B L bc)) w wr ∧ Row wr 5 1 (.slice B L bc) L (cur.map bv)) (fun _ i _ => n - (intOf i).toNat)
  case atStart => exact ⟨0, keep, d.lasts, Nat.zero_le _, rfl, rfl, .inl rfl, by rw [← hL]; exact HH.out.1.ok.same, by simp, Chg.refl _ _, by rw [← hL]; have := HH.out.1.lasts; rw [hL] at this ⊢; exact this⟩
  case round =>
    obtain ⟨k, kk, cur, hk, rfl, rfl, hkk, hcl, hcb, hch, hrow⟩ := hrel
    by_cases hlt : k < n
    · obtain ⟨b, rfl, hat⟩ := HH.out.2 (by omega)
      obtain ⟨p, E, m, hp, h1, h2, h3, h4, h5⟩ := hat k hlt
      have hne : ¬ Own (.slice B L bc) b := fun hk => (HH.out.1.mw b (by rw [← hn]; rfl)).2.2.2 hk
      have h1' := hch.cell h1 hne
      have h2' := hch.cell h2 hne
      have hngl : ¬ Own (.slice B L bc) g := fun hk => (HH.out.1.ml g hk).2.1 rfl
      have hc1' := hch.cell hc1 hngl
      have hc1'' : (wr.alloc (.cells #[.int .i64 (p.1 : Int), .slice E p.2.length m] 90)).cell? ⟨g, 1, none⟩ = some (.slice B L bc) := ((Chg.refl Nil wr).alloc _).cell hc1' (fun h => h)
      have hr' := h5.keep hch (fun i hr hl => HH.out.1.apart i (HH.out.1.ml i hl).1 hr)
      have hpf := HH.out.1.ok.fits p (List.mem_of_getElem? hp)
      rw [hL] at hpf
      have HK := Hid.mk (And.intro hch (And.intro hat (And.intro hp (And.intro hrow (And.intro hr' (And.intro hcb hkk))))))
      clear hch hat h1 h2 h5 hrow hr' hcb hkk
      generalize hpl : p.2.length = pl at *
      go_wp2_with fail
      have hA : Chg Nil wr (wr.alloc (.cells #[.int .i64 (p.1 : Int), .slice E pl m] 90)) := (Chg.refl Nil wr).alloc _
      refine (into_any p.1 E pl m p.2 R B L bc cur kk _ (by rw [← hpl]; rw [hpl]; exact HK.out.2.2.2.2.1.keep hA (fun _ _ h => h)) h3 h4 (HK.out.2.2.2.1.keep hA (fun _ _ h => h)) hmost hpf).mono ?_
      rintro e w2 ⟨rfl, hrow2, hc2'⟩
      have H2 := Hid.mk (And.intro hrow2 (HK.out.1.trans ((hA.wider (T := Own (.slice B L bc)) (fun _ _ h => h.elim)).trans hc2' (fun _ _ h => h)) (fun _ _ h => h)))
      clear hrow2 hc2' hA
      go_wp2_with fail
      have hkk := HK.out.2.2.2.2.2.2
      have hw : wrap64 (kk - ((min kk.toNat pl : Nat) : Int)) = kk - ((min kk.toNat pl : Nat) : Int) := by
        unfold wrap64
        omega
      go_roundw
      case rel =>
        refine ⟨k + 1, kk - ((min kk.toNat pl : Nat) : Int), splice cur p.1 (p.2.take (min kk.toNat pl)), by omega, by go_num, by rw [hw], by omega, ?_, ?_, H2.out.2, H2.out.1⟩
        · rw [splice_len _ _ _ (by rw [List.length_take]; omega)]; exact hcl
        · rw [← HK.out.2.2.2.2.2.1, crashB_step _ _ _ _ _ HK.out.2.2.1, hpl]
          congr 1
          omega
      case measure => simp [intOf]; omega
    · have : k = n := by omega
      subst this
      rw [List.drop_of_length_le (by omega), crashB] at hcb
      have hgM := HH.out.1.mg
      have h1 := HH.out.1.lasted (by rw [hL]; exact hrow) hch (by rw [hL]; exact hcl)
      have H1 := Hid.mk (And.intro h1 (And.intro (hch.wider (T := M) (fun k _ hk => (HH.out.1.ml k hk).1)) hcb))
      clear h1 hch hcb hrow hkk hcl
      go_wp2_with fail
      refine wp_region_tail 8 (by kernel_rfl) (by kernel_rfl) fun W hW => ?_
      simp only [List.take_succ_cons, List.take_zero, List.drop_succ_cons, List.drop_zero]
      have hch : Chg Nil wr W := by subst hW; exact (Chg.refl Nil wr).drew
      have hW1 := H1.out.1.keep hch (fun _ _ h => h) (fun _ _ h => h)
      clear hW
      obtain ⟨A, ac, rfl, hnc, hcm⟩ := hW1.now.form
      rw [show ({ d with lasts := cur } : Dp).now.length = L from hL] at hnc
      have hc0' : W.cell? ⟨g, 0, none⟩ = some (.slice A L ac) := by rw [← hL]; exact hW1.bk.cell 0 rfl
      have hc1' : W.cell? ⟨g, 1, none⟩ = some (.slice B L bc) := hW1.bk.cell 1 rfl
      have HW := Hid.mk (And.intro hW1 (H1.out.2.1.trans (hch.wider (T := M) (fun _ _ h => h.elim)) (fun _ _ h => h)))
      clear hW1 hch
      repeat (go_big_quiet_step (fail))
      refine wpQuiet_nil ?_
      have hrn : Row W 5 1 (.slice A L ac) L (d.now.map bv) := by
        have := HW.out.1.now
        rw [show ({ d with lasts := cur } : Dp).now.length = L from hL] at this
        exact this
      have hrl : Row W 5 1 (.slice B L bc) L (cur.map bv) := by
        have := HW.out.1.lasts
        rw [show ({ d with lasts := cur } : Dp).now.length = L from hL] at this
        exact this
      have hcl := hrl.1
      rw [List.length_map, Nat.mul_one] at hcl
      refine wpl_copy rfl (.tmp 31) (.tmp 35) 46 46 rfl 5 5 Try.underlying46 Try.sizeU8 A L ac 0 ac _ hrn A (fun g hg _ => hg) (by omega) _ B L bc _ hrl.rd (bv_one _) rfl rfl ?_
      intro w2 hr2 hc2
      rw [Nat.sub_zero, Nat.min_self, List.take_of_length_le (by rw [List.length_map, hcl]; exact Nat.le_refl _), splice_map, splice_all _ _ (by rw [hL, hcl])] at hr2
      have hnl : Value.slice A ({ d with lasts := cur } : Dp).now.length ac = .slice A L ac := by rw [show ({ d with lasts := cur } : Dp).now.length = L from hL]
      have hW' := HW.out.1
      rw [hnl] at hW'
      have h2 := hW'.nowed (x := cur) (by rw [show ({ d with lasts := cur } : Dp).now.length = L from hL]; exact hr2) hc2 (by rw [hcl]; exact hL.symm)
      have hM2 := HW.out.2.trans hc2 (fun k _ hk => (hW'.mn k hk).1)
      obtain ⟨hch3, h3⟩ := h2.waitless
      obtain ⟨hch4, h4⟩ := h3.set43 0 false 0 rfl (by omega)
      have hf2 := h2.bk.free 2
      have hf3 := h3.bk.free 3
      have hf4 := (h2.bk.free 4)
      have hd2 : w2.cell? ⟨g, 2, none⟩ = some (.slice F k c) := h2.bk.cell 2 rfl
      have hd3 : w2.cell? ⟨g, 3, none⟩ = some (.bool d.dead) := h2.bk.cell 3 rfl
      have hd4 : w2.cell? ⟨g, 4, none⟩ = some (.int .i64 (d.stop : Int)) := h2.bk.cell 4 rfl
      have hf3' := h2.bk.free 3
      have H3 := Hid.mk (And.intro ((hM2.trans hch3 (fun k _ hk => hk ▸ hgM)).trans hch4 (fun k _ hk => hk ▸ hgM)) h4)
      clear hch3 h3 hch4 h4 h2 hM2 hW' hr2 hc2 hrn hrl hf3
      go_wp2
      go_end0
      refine ⟨⟨_, rfl⟩, H3.out.1, ?_⟩
      have hcb := H1.out.2.2
      rw [Dp.crash, ← hcb]
      exact H3.out.2

end Go.Proofs.Ytanipieeegeheaa
namespace Go.Proofs.Ytanipieeegeheaa
open Go.RowKit

/-- A disk of the call's own, from w0 on. -/
structure Live (w0 w : World) (g : Nat) (M R : Nat → Prop) (d : Dp) : Prop where
  chg : Chg Nil w0 w
  dk : Dk w g M R d
  low : ∀ k, M k ∨ R k → w0.heap.size ≤ k
section
variable {w0 w w' : World} {g : Nat} {M R M' R' : Nat → Prop} {d d' : Dp}
theorem Live.nil (h : Live w0 w g M R d) (hc : Chg Nil w w') : Live w0 w' g M R d := ⟨h.chg.trans hc (fun _ _ h => h), h.dk.keep_nil hc, h.low⟩
theorem Live.far {S : Nat → Prop} (h : Live w0 w g M R d) (hc : Chg S w w') (hl : ∀ k, S k → w0.heap.size ≤ k) (hs : ∀ k, M k ∨ R k → ¬ S k) : Live w0 w' g M R d :=
  ⟨h.chg.trans hc (fun i hi hm => by have := hl i hm; omega), h.dk.keep hc (fun k hk => hs k (.inl hk)) (fun k hk => hs k (.inr hk)), h.low⟩
theorem Live.went (h : Live w0 w g M R d) (hw : Went w w' M R M' R') (hd : Dk w' g M' R' d') : Live w0 w' g M' R' d' :=
  ⟨h.chg.trans hw.chg (fun i hi hm => by have := h.low i (.inl hm); omega), hd, fun k hk => by
    rcases Nat.lt_or_ge k w.heap.size with hlt | hge
    · rcases hk with hk | hk
      · exact h.low k (.inl (hw.m k hlt hk))
      · exact h.low k (.inr (hw.r k hlt hk))
    · have := h.chg.size; omega⟩
theorem Live.step (h : Live w0 w g M R d) (hc : Chg M w w') (hd : Dk w' g M R d') : Live w0 w' g M R d' := h.went (Went.of_chg hc) hd
end
theorem chg_g {w w' : World} {g : Nat} {M R : Nat → Prop} {d : Dp} (h : Dk w g M R d) (hc : Chg (· = g) w w') : Chg M w w' := by
  obtain ⟨_, _, _, _, h⟩ := h
  exact hc.wider fun k _ hk => hk ▸ h.mg

theorem awd1 : ((Dp.new 4).write 0 [97, 98]).waits.length = 1 := by decide
theorem awd2 : (((((Dp.new 4).write 0 [97, 98]).crash 1).now.drop 0).take 2) = [97, 0] := by decide
theorem awd3 : (((Dp.new 4).write 0 [97, 98]).crash 1).now.length = 4 := by decide
theorem awd4 : (((Dp.new 4).write 0 [97, 98]).crash 1).dead = false := by decide
theorem awd5 : (((Dp.new 4).write 0 [97, 98]).crash 1).waits = [] := by decide
theorem awd6 : (Dp.new 4).now.length = 4 := by decide

end Go.Proofs.Ytanipieeegeheaa
namespace Go.Proofs.Ytanipieeegeheaa
open Go.RowKit

structure Live2 (w0 w : World) (g : Nat) (M R : Nat → Prop) (d : Dp) (g' : Nat) (M' R' : Nat → Prop) (d' : Dp) : Prop where
  one : Live w0 w g M R d
  two : Live w0 w g' M' R' d'
  sep : ∀ k, M k → ¬ M' k ∧ ¬ R' k
  sep' : ∀ k, M' k → ¬ M k ∧ ¬ R k
section
variable {w0 w w' : World} {g g' : Nat} {M R M' R' M1 R1 : Nat → Prop} {d d' d1 : Dp}
theorem Live2.symm (h : Live2 w0 w g M R d g' M' R' d') : Live2 w0 w g' M' R' d' g M R d := ⟨h.two, h.one, h.sep', h.sep⟩
theorem Live2.nil (h : Live2 w0 w g M R d g' M' R' d') (hc : Chg Nil w w') : Live2 w0 w' g M R d g' M' R' d' := ⟨h.one.nil hc, h.two.nil hc, h.sep, h.sep'⟩
theorem Live2.went (h : Live2 w0 w g M R d g' M' R' d') (hw : Went w w' M R M1 R1) (hd : Dk w' g M1 R1 d1) : Live2 w0 w' g M1 R1 d1 g' M' R' d' := by
  refine ⟨h.one.went hw hd, h.two.far hw.chg (fun k hk => h.one.low k (.inl hk)) (fun k hk hm => ?_), fun k hm => ?_, fun k hm => ?_⟩
  · rcases hk with hk | hk
    · exact (h.sep k hm).1 hk
    · exact (h.sep k hm).2 hk
  · rcases Nat.lt_or_ge k w.heap.size with hlt | hge
    · exact h.sep k (hw.m k hlt hm)
    · exact ⟨fun hk => by have := h.two.dk.lt k (.inl hk); omega, fun hk => by have := h.two.dk.lt k (.inr hk); omega⟩
  · have hlt := h.two.dk.lt k (.inl hm)
    exact ⟨fun hk => (h.sep' k hm).1 (hw.m k hlt hk), fun hk => (h.sep' k hm).2 (hw.r k hlt hk)⟩
theorem Live2.step (h : Live2 w0 w g M R d g' M' R' d') (hc : Chg M w w') (hd : Dk w' g M R d1) : Live2 w0 w' g M R d1 g' M' R' d' := h.went (Went.of_chg hc) hd
theorem Live2.went' (h : Live2 w0 w g M R d g' M' R' d') (hw : Went w w' M' R' M1 R1) (hd : Dk w' g' M1 R1 d1) : Live2 w0 w' g M R d g' M1 R1 d1 := (h.symm.went hw hd).symm
theorem Live2.step' (h : Live2 w0 w g M R d g' M' R' d') (hc : Chg M' w w') (hd : Dk w' g' M' R' d1) : Live2 w0 w' g M R d g' M' R' d1 := (h.symm.step hc hd).symm
/-- A second new one. -/
theorem Live2.new (h : Live w0 w g M R d) (hc : Chg Nil w w') (hd : Dk w' g' M' R' d') (hl : ∀ k, M' k ∨ R' k → w.heap.size ≤ k) : Live2 w0 w' g M R d g' M' R' d' := by
  refine ⟨h.nil hc, ⟨h.chg.trans hc (fun _ _ h => h), hd, fun k hk => Nat.le_trans h.chg.size (hl k hk)⟩, fun k hm => ?_, fun k hm => ?_⟩
  · have := h.dk.lt k (.inl hm)
    exact ⟨fun hk => by have := hl k (.inl hk); omega, fun hk => by have := hl k (.inr hk); omega⟩
  · have := hl k (.inl hm)
    exact ⟨fun hk => by have := h.dk.lt k (.inl hk); omega, fun hk => by have := h.dk.lt k (.inr hk); omega⟩
end

/-! ### byte by byte -/
def singles : Nat → List UInt8 → List (Nat × List UInt8)
  | _, [] => []
  | p, x :: r => (p, [x]) :: singles (p + 1) r
theorem singles_snoc (c : List UInt8) (x : UInt8) : ∀ p, singles p (c ++ [x]) = singles p c ++ [(p + c.length, [x])] := by
  induction c with
  | nil => intro p; rfl
  | cons y r ih =>
    intro p
    simp only [List.cons_append, singles, ih, List.length_cons]
    rw [show p + 1 + r.length = p + (r.length + 1) by omega]
theorem singles_sum (c : List UInt8) : ∀ p, sumW (singles p c) = c.length := by
  induction c with
  | nil => intro p; rfl
  | cons y r ih => intro p; simp only [singles, sumW, ih, List.length_cons, List.length_nil]; omega
theorem singles_len (c : List UInt8) : ∀ p, (singles p c).length = c.length := by
  induction c with
  | nil => intro p; rfl
  | cons y r ih => intro p; simp only [singles, List.length_cons, ih]
theorem splice_cons {α : Type} (l : List α) (p : Nat) (x : α) (ys : List α) (h : p + 1 + ys.length ≤ l.length) : splice (splice l p [x]) (p + 1) ys = splice l p (x :: ys) := by
  unfold splice
  have h1 : (l.take p ++ ([x] ++ l.drop (p + [x].length))).take (p + 1) = l.take p ++ [x] := by
    rw [List.take_append, List.length_take, Nat.min_eq_left (by omega), List.take_of_length_le (by rw [List.length_take]; omega), show p + 1 - p = 1 by omega]
    rfl
  have h2 : (l.take p ++ ([x] ++ l.drop (p + [x].length))).drop (p + 1 + ys.length) = l.drop (p + (x :: ys).length) := by
    rw [List.drop_append, List.length_take, Nat.min_eq_left (by omega), List.drop_of_length_le (by rw [List.length_take]; omega), List.nil_append, show p + 1 + ys.length - p = ys.length + 1 by omega]
    simp only [List.cons_append, List.nil_append, List.drop_succ_cons, List.drop_drop, List.length_cons, List.length_nil]
    congr 1
    omega
  rw [h1, h2]
  simp
theorem crash_singles (c : List UInt8) : ∀ (l : List UInt8) (k p : Nat), p + c.length ≤ l.length → crashB l k (singles p c) = splice l p (c.take k) := by
  induction c with
  | nil => intro l k p h; simp [singles, crashB, splice_nil]
  | cons x r ih =>
    intro l k p h
    simp only [List.length_cons] at h
    simp only [singles, crashB, List.length_cons, List.length_nil]
    match k with
    | 0 =>
      simp only [Nat.zero_min, List.take_zero, splice_nil, Nat.sub_self]
      rw [ih _ _ _ (by omega), List.take_zero, splice_nil]
    | k + 1 =>
      rw [show min (k + 1) (0 + 1) = 1 by omega, show k + 1 - 1 = k by omega]
      have hx : [x].take 1 = [x] := rfl
      rw [hx, ih _ _ _ (by rw [splice_len _ _ _ (by simp; omega)]; omega), splice_cons _ _ _ _ (by rw [List.length_take]; omega), List.take_succ_cons]
theorem crash_one (l b : List UInt8) (k p : Nat) : crashB l k [(p, b)] = splice l p (b.take k) := by
  simp only [crashB]
  congr 1
  rcases Nat.le_total k b.length with h | h
  · rw [Nat.min_eq_left h]
  · rw [Nat.min_eq_right h, List.take_length, List.take_of_length_le h]

end Go.Proofs.Ytanipieeegeheaa
