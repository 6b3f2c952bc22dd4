/- A disk, plainly and in memory; copy onto a part of a row; a row of writes. No condition. -/
import Derived.Test.YtbaaoldcecefcaaMake
import Derived.Laws.CopyOwn
namespace Go.Proofs.Ytbaaoldcecefcaa
open Go.RowKit

/-! ### plainly -/
structure Dp where
  now : List UInt8
  lasts : List UInt8
  waits : List (Nat × List UInt8)
  dead : Bool
  stop : Nat
/-- What always holds of it. -/
structure Dp.ok (d : Dp) : Prop where
  same : d.lasts.length = d.now.length
  most : d.now.length ≤ 1000000
  fits : ∀ p ∈ d.waits, p.1 + p.2.length ≤ d.now.length
  stop : d.stop ≤ 9223372036854775807

/-! ### copy onto a part of a row -/
theorem splice_nil {α : Type} (l : List α) (o : Nat) : splice l o [] = l := by simp [splice]
theorem splice_len {α : Type} (l : List α) (o : Nat) (cs : List α) (h : o + cs.length ≤ l.length) : (splice l o cs).length = l.length := length_splice l o cs h
theorem splice_map {α β : Type} (f : α → β) (l : List α) (o : Nat) (cs : List α) : splice (l.map f) o (cs.map f) = (splice l o cs).map f := by simp [splice]
section
variable {P : Program}
theorem run_copy_rowat (w : World) (dT sT ty elem e : TypeId) (hu : P.underlying dT = some (.slice elem)) (hs : (P.info? elem).map (·.size) = some 1)
    (A : Option Addr) (n c off dc : Nat) (xs : List Value) (hrow : Row w e 1 (.slice A n c) n xs) (dp : Option Addr) (hdp : ∀ g, A = some ⟨g, 0, none⟩ → off < n → dp = some ⟨g, off, none⟩) (hoff : off ≤ n)
    (S : Nat → Prop) (B : Option Addr) (m mc : Nat) (ys : List Value) (hr : Rds w S 1 B m ys) (h1 : ∀ u ∈ ys, u.oneCell' = true) :
    ∃ w', (Builtin.copy_ #[dT, sT] ty #[.slice dp (n - off) dc, .slice B m mc]).run P w = .ok (.int .i64 ((min m (n - off) : Nat) : Int)) w' ∧
      Row w' e 1 (.slice A n c) n (splice xs off (ys.take (min m (n - off)))) ∧ Chg (Own (.slice A n c)) w w' := by
  have hlen := hr.len
  rcases Nat.eq_zero_or_pos (min m (n - off)) with h0 | hp
  · refine ⟨w, ?_, ?_, Chg.refl _ _⟩
    · have := run_copy_none (P := P) w dT sT ty elem dp B (n - off) dc m mc hu hs h0
      rw [this, h0]; rfl
    · rw [h0, List.take_zero, splice_nil]; exact hrow
  · rcases hrow.2 with ⟨he, h2⟩ | ⟨g, cap, cur, lo, hi, he, hg, hf, hnc, hcm, hcs, ht⟩
    · subst h2; omega
    · injection he with hA _ hc
      subst hA hc
      have hdp' := hdp g rfl (by omega)
      subst hdp'
      obtain ⟨ad, rfl, _, hx⟩ := hr.2 (by omega)
      have hl : (ys.take (min m (n - off))).length = min m (n - off) := by rw [List.length_take, hlen]; omega
      have hxl : xs.length = n := by simpa using hrow.1
      have hsrc : ∀ j v, (ys.take (min m (n - off)))[j]? = some v → w.cell? (ad.add j) = some v := by
        intro j v hv
        rw [List.getElem?_take] at hv
        split at hv
        · exact hx j v hv
        · cases hv
      obtain ⟨w', hst, hg', hch⟩ := run_store_row (P := P) g off e lo hi (ys.take (min m (n - off))) 0 cur w hg hf (by rw [hl]; omega) (fun v hv => h1 v (List.mem_of_mem_take hv))
      have hld := run_loadCells_list (P := P) w ad _ hsrc
      refine ⟨w', ?_, ⟨?_, .inr ⟨g, c, _, lo, hi, rfl, hg', ?_, hnc, hcm, ?_, ?_⟩⟩, hch.wider (fun k _ hk => by subst hk; rfl)⟩
      · cases hq : P.info? elem with
        | none => simp [hq] at hs
        | some i =>
          have hi' : i.size = 1 := by simpa [hq] using hs
          rw [hl] at hld
          have hnm : Nat.min m (n - off) = min m (n - off) := rfl
          simp [Builtin.copy_, run_underlying hu, Builtin.lenOf, Builtin.firstCells, sizeOf, typeInfo, hq, hi', hnm, hld, hst, goInt]
      · rw [splice_len _ _ _ (by rw [hl, hxl]; omega)]; simpa using hxl
      · rcases hf with h | h
        · exact .inl h
        · exact .inr (by simp only [List.length_append, List.length_take, List.length_drop]; omega)
      · simp only [List.length_append, List.length_take, List.length_drop]
        omega
      · rw [← ht]
        simp only [splice, Nat.add_zero, Nat.mul_one, hl]
        apply List.ext_getElem?
        intro j
        simp only [List.getElem?_take, List.getElem?_append, List.getElem?_drop, List.length_take, List.length_append, hlen]
        have hcl : cur.length = c := by simpa using hcs
        rw [hcl]
        (repeat' split) <;> first | rfl | omega | (congr 1; omega) | skip
        all_goals (try (exfalso; omega))
theorem wpl_copy {w : World} {ops : Array Oper} {rest : List Oper} {o : Oper} {a : Act} {Q : Exit → Act → World → Prop} (hgd : o.guard = none) (d s : Operand) (dT sT : TypeId)
    (ho : o.op = .call { callee := .builtin .copy, args := #[d, s], argTypes := #[dT, sT] }) (elem e : TypeId) (hu : P.underlying dT = some (.slice elem)) (hsz : (P.info? elem).map (·.size) = some 1)
    (A : Option Addr) (n c off dc : Nat) (xs : List Value) (hrow : Row w e 1 (.slice A n c) n xs) (dp : Option Addr) (hdp : ∀ g, A = some ⟨g, 0, none⟩ → off < n → dp = some ⟨g, off, none⟩) (hoff : off ≤ n)
    (S : Nat → Prop) (B : Option Addr) (m mc : Nat) (ys : List Value) (hr : Rds w S 1 B m ys) (h1 : ∀ u ∈ ys, u.oneCell' = true)
    (hd : a.eval d = .slice dp (n - off) dc) (hs : a.eval s = .slice B m mc)
    (h : ∀ w', Row w' e 1 (.slice A n c) n (splice xs off (ys.take (min m (n - off)))) → Chg (Own (.slice A n c)) w w' → wpList P ops Q rest (a.put o.dst (.int .i64 ((min m (n - off) : Nat) : Int))) w') : wpList P ops Q (o :: rest) a w := by
  refine wpList_plain hgd fun K hK => ?_
  obtain ⟨w', hrun, h2, h3⟩ := run_copy_rowat (P := P) w dT sT o.type elem e hu hsz A n c off dc xs hrow dp hdp hoff S B m mc ys hr h1
  unfold Oper.wp execOp
  simp only [ho, resolve, invoke, builtin, Sem.run_bind, Sem.run_pure, Result.andThen_ok, List.map_toArray, List.map_cons, List.map_nil, hd, hs, hrun]
  exact hK _ _ (h w' h2 h3)
end

/-! ### a row of writes -/
def wCells (ws : List (Nat × Value)) : List Value := ws.flatMap fun q => [.int .i64 (q.1 : Int), q.2]
theorem wCells_len (ws : List (Nat × Value)) : (wCells ws).length = ws.length * 2 := by
  induction ws with
  | nil => rfl
  | cons a t ih => simp only [wCells, List.flatMap_cons, List.length_append] at *; rw [ih]; simp; omega
theorem wCells_get (ws : List (Nat × Value)) (m : Nat) (q : Nat × Value) (h : ws[m]? = some q) : (wCells ws)[m * 2]? = some (.int .i64 (q.1 : Int)) ∧ (wCells ws)[m * 2 + 1]? = some q.2 := by
  induction ws generalizing m with
  | nil => simp at h
  | cons a t ih =>
    cases m with
    | zero => simp at h; subst h; exact ⟨rfl, rfl⟩
    | succ m =>
      have := ih m (by simpa using h)
      simp only [wCells, List.flatMap_cons] at *
      rw [List.getElem?_append_right (by simp; omega), List.getElem?_append_right (by simp; omega)]
      simp only [List.length_cons, List.length_nil]
      rw [show (m + 1) * 2 - (0 + 1 + 1) = m * 2 by omega, show (m + 1) * 2 + 1 - (0 + 1 + 1) = m * 2 + 1 by omega]
      exact this
theorem wCells_snoc (ws : List (Nat × Value)) (q : Nat × Value) : wCells (ws ++ [q]) = wCells ws ++ [.int .i64 (q.1 : Int), q.2] := by simp [wCells]

/-! ### in memory -/
/-- Where a disk lies: the struct in block g; its slices; what waits. M: the blocks that it may change, R: those that it reads. -/
structure DkAt (w : World) (g : Nat) (M R : Nat → Prop) (d : Dp) (nv lv wv : Value) (ws : List (Nat × Value)) : Prop where
  bk : Bk w g 57 #[nv, lv, wv, .bool d.dead, .int .i64 (d.stop : Int)]
  now : Row w 5 1 nv d.now.length (d.now.map bv)
  lasts : Row w 5 1 lv d.now.length (d.lasts.map bv)
  row : Row w 61 2 wv d.waits.length (wCells ws)
  ats : ws.map (·.1) = d.waits.map (·.1)
  vals : RdL w R (ws.map (·.2)) (d.waits.map (·.2))
  mg : M g
  mn : ∀ k, Own nv k → M k ∧ k ≠ g
  ml : ∀ k, Own lv k → M k ∧ k ≠ g ∧ ¬ Own nv k
  mw : ∀ k, Own wv k → M k ∧ k ≠ g ∧ ¬ Own nv k ∧ ¬ Own lv k
  apart : ∀ k, M k → R k → False
  lt : ∀ k, M k ∨ R k → k < w.heap.size
  ok : d.ok
def Dk (w : World) (g : Nat) (M R : Nat → Prop) (d : Dp) : Prop := ∃ nv lv wv ws, DkAt w g M R d nv lv wv ws

/-- What a call does to a disk's blocks. -/
structure Went (w w' : World) (M R M' R' : Nat → Prop) : Prop where
  chg : Chg M w w'
  m : ∀ k, k < w.heap.size → M' k → M k
  r : ∀ k, k < w.heap.size → R' k → R k

section
variable {w w' : World} {g : Nat} {M R S : Nat → Prop} {d : Dp} {nv lv wv : Value} {ws : List (Nat × Value)}
theorem DkAt.keep (h : DkAt w g M R d nv lv wv ws) (hc : Chg S w w') (hm : ∀ k, M k → ¬ S k) (hr : ∀ k, R k → ¬ S k) : DkAt w' g M R d nv lv wv ws :=
  { bk := h.bk.keep hc (hm g h.mg), now := h.now.keep hc (fun k hk hs => hm k (h.mn k hk).1 hs), lasts := h.lasts.keep hc (fun k hk hs => hm k (h.ml k hk).1 hs),
    row := h.row.keep hc (fun k hk hs => hm k (h.mw k hk).1 hs), ats := h.ats, vals := h.vals.keep hc (fun k hk hs => hr k hk hs),
    mg := h.mg, mn := h.mn, ml := h.ml, mw := h.mw, apart := h.apart, lt := fun k hk => Nat.lt_of_lt_of_le (h.lt k hk) hc.size, ok := h.ok }
theorem Dk.keep (h : Dk w g M R d) (hc : Chg S w w') (hm : ∀ k, M k → ¬ S k) (hr : ∀ k, R k → ¬ S k) : Dk w' g M R d := by
  obtain ⟨nv, lv, wv, ws, h⟩ := h
  exact ⟨nv, lv, wv, ws, h.keep hc hm hr⟩
theorem Dk.keep_nil (h : Dk w g M R d) (hc : Chg Nil w w') : Dk w' g M R d := h.keep hc (fun _ _ h => h) (fun _ _ h => h)
theorem Dk.ok (h : Dk w g M R d) : d.ok := by obtain ⟨_, _, _, _, h⟩ := h; exact h.ok
theorem Dk.lt (h : Dk w g M R d) : ∀ k, M k ∨ R k → k < w.heap.size := by obtain ⟨_, _, _, _, h⟩ := h; exact h.lt
theorem Went.refl (w : World) (M R : Nat → Prop) : Went w w M R M R := ⟨Chg.refl _ _, fun _ _ h => h, fun _ _ h => h⟩
theorem Went.of_chg (h : Chg M w w') : Went w w' M R M R := ⟨h, fun _ _ h => h, fun _ _ h => h⟩
/-- Only the struct's own cells have changed: dead and stop. -/
theorem DkAt.turn (h : DkAt w g M R d nv lv wv ws) (hc : Chg (· = g) w w') {dead' : Bool} {stop' : Nat} (hb : Bk w' g 57 #[nv, lv, wv, .bool dead', .int .i64 (stop' : Int)]) (hs : stop' ≤ 9223372036854775807) :
    DkAt w' g M R { d with dead := dead', stop := stop' } nv lv wv ws :=
  { bk := hb, now := h.now.keep hc (fun k hk hs => (h.mn k hk).2 hs), lasts := h.lasts.keep hc (fun k hk hs => (h.ml k hk).2.1 hs),
    row := h.row.keep hc (fun k hk hs => (h.mw k hk).2.1 hs), ats := h.ats, vals := h.vals.keep hc (fun k hk hs => h.apart k (hs ▸ h.mg) hk),
    mg := h.mg, mn := h.mn, ml := h.ml, mw := h.mw, apart := h.apart, lt := fun k hk => Nat.lt_of_lt_of_le (h.lt k hk) hc.size, ok := ⟨h.ok.same, h.ok.most, h.ok.fits, hs⟩ }
theorem DkAt.set34 (h : DkAt w g M R d nv lv wv ws) (x : Int) (b : Bool) (s : Nat) (hx : x = (s : Int)) (hs : s ≤ 9223372036854775807) :
    Chg (· = g) w ((w.setCell ⟨g, 4, none⟩ (.int .i64 x)).setCell ⟨g, 3, none⟩ (.bool b)) ∧ Dk ((w.setCell ⟨g, 4, none⟩ (.int .i64 x)).setCell ⟨g, 3, none⟩ (.bool b)) g M R { d with dead := b, stop := s } := by
  subst hx
  have hch : Chg (· = g) w ((w.setCell ⟨g, 4, none⟩ (.int .i64 (s : Int))).setCell ⟨g, 3, none⟩ (.bool b)) :=
    ((Chg.refl (· = g) w).setCell (p := ⟨g, 4, none⟩) (fun _ => rfl) _).setCell (p := ⟨g, 3, none⟩) (fun _ => rfl) _
  exact ⟨hch, nv, lv, wv, ws, h.turn hch ((h.bk.set 4 (.int .i64 (s : Int))).set 3 (.bool b)) hs⟩
theorem DkAt.wslen (h : DkAt w g M R d nv lv wv ws) : ws.length = d.waits.length := by simpa using congrArg List.length h.ats
end
end Go.Proofs.Ytbaaoldcecefcaa
