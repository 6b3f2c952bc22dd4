/- A row's whole block as a list of cells: copy, append within the capacity, append of zeros that grows, clear: what they leave. No condition. -/
import Derived.Test.YtmbmfhpdajdpfaaRowMore
import Derived.Laws.CopyOwn
import Derived.Deep.RegionLaw
import Derived.Lib.SliceRun
namespace Go.Proofs.Ytmbmfhpdajdpfaa
open Go.RowKit

def Blk (w : World) (g : Nat) (e : TypeId) (cur : List Value) : Prop := w.heap[g]? = some (.cells cur.toArray e (0, 0))
section
variable {w w' : World} {g : Nat} {e : TypeId} {cur : List Value} {sz n cap base : Nat} {xs : List Value}
theorem Blk.of_own (h : w.ownsRow base e sz (.slice (some ⟨g, 0, none⟩) n cap) n xs) : ∃ cur, Blk w g e cur ∧ base ≤ g ∧ n ≤ cap ∧ cap ≤ maxLen ∧ cur.length = cap * sz ∧ cur.take (n * sz) = xs := by
  rcases h.2 with ⟨he, _⟩ | ⟨g', cap', cur, he, hb, hg, hn, hm, hs, ht⟩
  · cases he
  · injection he with h1 _ h3
    injection h1 with h1
    injection h1 with h1
    subst h1 h3
    exact ⟨cur.toList, by unfold Blk; simpa using hg, hb, hn, hm, by simpa using hs, ht⟩
theorem Blk.own (h : Blk w g e cur) (hb : base ≤ g) (hn : n ≤ cap) (hm : cap ≤ maxLen) (hs : cur.length = cap * sz) : w.ownsRow base e sz (.slice (some ⟨g, 0, none⟩) n cap) n (cur.take (n * sz)) := by
  refine ⟨?_, .inr ⟨g, cap, cur.toArray, rfl, hb, h, hn, hm, by simpa using hs, by simp⟩⟩
  rw [List.length_take, hs]
  exact Nat.min_eq_left (Nat.mul_le_mul_right _ hn)
theorem Blk.lt (h : Blk w g e cur) : g < w.heap.size := by
  rcases Nat.lt_or_ge g w.heap.size with hlt | hge
  · exact hlt
  · unfold Blk at h; rw [Array.getElem?_eq_none hge] at h; cases h
theorem Blk.keep {S : Nat → Prop} (h : Blk w g e cur) (hc : Chg S w w') (hn : ¬ S g) : Blk w' g e cur := hc.block h hn
theorem Blk.cell (h : Blk w g e cur) (j : Nat) : w.cell? ⟨g, j, none⟩ = cur[j]? := by
  rw [cell_of_row w g j cur.toArray e (0, 0) h]
  simp
theorem Blk.free (h : Blk w g e cur) (j : Nat) : w.frozen? ⟨g, j, none⟩ = false := frozen_of_row w g j cur.toArray e h
theorem Blk.rds (h : Blk w g e cur) (o n : Nat) (hl : o + n * sz ≤ cur.length) : Rds w (· = g) sz (some ⟨g, o, none⟩) n ((cur.drop o).take (n * sz)) := by
  refine ⟨by rw [List.length_take, List.length_drop]; omega, fun _ => ⟨_, rfl, rfl, fun j u hu => ?_⟩⟩
  have hj : w.cell? ⟨g, o + j, none⟩ = some u := by
    rw [h.cell]
    rw [List.getElem?_take] at hu
    split at hu
    · rwa [List.getElem?_drop] at hu
    · cases hu
  unfold Addr.add
  split
  · next h0 => subst h0; simpa using hj
  · exact hj
variable {P : Program}
theorem Blk.store (h : Blk w g e cur) (o : Nat) (vs : List Value) (hl : o + vs.length ≤ cur.length) (h1 : ∀ v ∈ vs, v.oneCell' = true) :
    ∃ w', (storeCells ⟨g, o, none⟩ vs 0).run P w = .ok () w' ∧ Blk w' g e (splice cur o vs) ∧ Chg (· = g) w w' := by
  obtain ⟨w', hr, hg, hc⟩ := run_store_row (P := P) g o e 0 0 vs 0 cur w h (.inl (Nat.le_refl _)) hl h1
  exact ⟨w', hr, by unfold Blk splice; rw [hg]; simp, hc⟩

/-! ### copy -/
theorem run_copy_blk (h : Blk w g e cur) (dT sT ty elem : TypeId) (sz : Nat) (hu : P.underlying dT = some (.slice elem)) (hs : (P.info? elem).map (·.size) = some sz) (o dn dc : Nat)
    (S : Nat → Prop) (B : Option Addr) (m mc : Nat) (ys : List Value) (hr : Rds w S sz B m ys) (h1 : ∀ u ∈ ys.take (min m dn * sz), u.oneCell' = true) (hfit : o + min m dn * sz ≤ cur.length) :
    ∃ w', (Builtin.copy_ #[dT, sT] ty #[.slice (some ⟨g, o, none⟩) dn dc, .slice B m mc]).run P w = .ok (.int .i64 ((min m dn : Nat) : Int)) w' ∧ Blk w' g e (splice cur o (ys.take (min m dn * sz))) ∧ Chg (· = g) w w' := by
  cases hq : P.info? elem with
  | none => simp [hq] at hs
  | some i =>
    have hi' : i.size = sz := by simpa [hq] using hs
    have hnm : Nat.min m dn = min m dn := rfl
    rcases Nat.eq_zero_or_pos (min m dn) with h0 | hp
    · refine ⟨w, ?_, by rw [h0, Nat.zero_mul, List.take_zero]; unfold splice; simpa using h, Chg.refl _ _⟩
      have hl : ∀ (x : Addr), (loadCells x 0).run P w = .ok #[] w := fun x => by simpa using run_loadCells_list (P := P) w x [] (by simp)
      cases B <;> simp [Builtin.copy_, run_underlying hu, Builtin.lenOf, Builtin.firstCells, sizeOf, typeInfo, hq, hnm, h0, storeCells, hl, goInt]
    · obtain ⟨ad, rfl, _, hx⟩ := hr.2 (by omega)
      have hmul : min m dn * sz ≤ m * sz := Nat.mul_le_mul_right _ (Nat.min_le_left _ _)
      have hl : (ys.take (min m dn * sz)).length = min m dn * sz := by rw [List.length_take, hr.1]; omega
      have hsrc : ∀ j v, (ys.take (min m dn * sz))[j]? = some v → w.cell? (ad.add j) = some v := by
        intro j v hv
        rw [List.getElem?_take] at hv
        split at hv
        · exact hx j v hv
        · cases hv
      obtain ⟨w', hst, hb', hch⟩ := h.store (P := P) o (ys.take (min m dn * sz)) (by rw [hl]; exact hfit) h1
      have hld := run_loadCells_list (P := P) w ad _ hsrc
      rw [hl] at hld
      refine ⟨w', ?_, hb', hch⟩
      simp [Builtin.copy_, run_underlying hu, Builtin.lenOf, Builtin.firstCells, sizeOf, typeInfo, hq, hi', hnm, hld, hst, goInt]
theorem wp_copy_blk {o : Oper} {a : Act} {K : Act → World → Prop} {Q : Exit → Act → World → Prop} (d s : Operand) (dT sT : TypeId)
    (ho : o.op = .call { callee := .builtin .copy, args := #[d, s], argTypes := #[dT, sT] }) (h : Blk w g e cur) (elem : TypeId) (sz : Nat) (hu : P.underlying dT = some (.slice elem)) (hs : (P.info? elem).map (·.size) = some sz) (off dn dc : Nat)
    (S : Nat → Prop) (B : Option Addr) (m mc : Nat) (ys : List Value) (hr : Rds w S sz B m ys) (h1 : ∀ u ∈ ys.take (min m dn * sz), u.oneCell' = true) (hfit : off + min m dn * sz ≤ cur.length)
    (hd : a.eval d = .slice (some ⟨g, off, none⟩) dn dc) (hx : a.eval s = .slice B m mc)
    (hK : ∀ w', Blk w' g e (splice cur off (ys.take (min m dn * sz))) → Chg (· = g) w w' → K (a.put o.dst (.int .i64 ((min m dn : Nat) : Int))) w') : o.wp P a w K Q := by
  obtain ⟨w', hrun, h2, h3⟩ := run_copy_blk (P := P) h dT sT o.type elem sz hu hs off dn dc S B m mc ys hr h1 hfit
  unfold Oper.wp execOp
  simp only [ho, resolve, invoke, builtin, Sem.run_bind, Sem.run_pure, Result.andThen_ok, List.map_toArray, List.map_cons, List.map_nil, hd, hx, hrun]
  exact hK w' h2 h3
theorem wpl_copy_blk {ops : Array Oper} {rest : List Oper} {o : Oper} {a : Act} {Q : Exit → Act → World → Prop} (hgd : o.guard = none) (d s : Operand) (dT sT : TypeId)
    (ho : o.op = .call { callee := .builtin .copy, args := #[d, s], argTypes := #[dT, sT] }) (h : Blk w g e cur) (elem : TypeId) (sz : Nat) (hu : P.underlying dT = some (.slice elem)) (hs : (P.info? elem).map (·.size) = some sz) (off dn dc : Nat)
    (S : Nat → Prop) (B : Option Addr) (m mc : Nat) (ys : List Value) (hr : Rds w S sz B m ys) (h1 : ∀ u ∈ ys.take (min m dn * sz), u.oneCell' = true) (hfit : off + min m dn * sz ≤ cur.length)
    (hd : a.eval d = .slice (some ⟨g, off, none⟩) dn dc) (hx : a.eval s = .slice B m mc)
    (hK : ∀ w', Blk w' g e (splice cur off (ys.take (min m dn * sz))) → Chg (· = g) w w' → wpList P ops Q rest (a.put o.dst (.int .i64 ((min m dn : Nat) : Int))) w') : wpList P ops Q (o :: rest) a w :=
  wpList_plain hgd fun _ hk => wp_copy_blk d s dT sT ho h elem sz hu hs off dn dc S B m mc ys hr h1 hfit hd hx fun w' h2 h3 => hk _ _ (hK w' h2 h3)
theorem step_copy_blk {ops : Array Oper} {o : Oper} {a : Act} {K : Act → World → Prop} {Q : Exit → Act → World → Prop} {E : Prop} (hgd : o.guard = none) (d s : Operand) (dT sT : TypeId)
    (ho : o.op = .call { callee := .builtin .copy, args := #[d, s], argTypes := #[dT, sT] }) (h : Blk w g e cur) (elem : TypeId) (sz : Nat) (hu : P.underlying dT = some (.slice elem)) (hs : (P.info? elem).map (·.size) = some sz) (off dn dc : Nat)
    (S : Nat → Prop) (B : Option Addr) (m mc : Nat) (ys : List Value) (hr : Rds w S sz B m ys) (h1 : ∀ u ∈ ys.take (min m dn * sz), u.oneCell' = true) (hfit : off + min m dn * sz ≤ cur.length)
    (hd : a.eval d = .slice (some ⟨g, off, none⟩) dn dc) (hx : a.eval s = .slice B m mc)
    (hK : ∀ w', Blk w' g e (splice cur off (ys.take (min m dn * sz))) → Chg (· = g) w w' → K (a.put o.dst (.int .i64 ((min m dn : Nat) : Int))) w') : if Region.wanted o (yielded ops a.tmps) = true then Oper.wp P o a w K Q else E := by
  rw [if_pos (by simp [Region.wanted, hgd])]
  exact wp_copy_blk d s dT sT ho h elem sz hu hs off dn dc S B m mc ys hr h1 hfit hd hx hK

/-! ### append within the capacity -/
theorem run_append_fit (h : Blk w g e cur) (t ty elem : TypeId) (sz : Nat) (hu : P.underlying t = some (.slice elem)) (hs : (P.info? elem).map (·.size) = some sz) (n cap : Nat)
    (S : Nat → Prop) (B : Option Addr) (m mc : Nat) (ys : List Value) (hr : Rds w S sz B m ys) (h1 : ∀ u ∈ ys, u.oneCell' = true) (hroom : n + m ≤ cap) (hfit : cur.length = cap * sz) :
    ∃ w', (Builtin.append_ #[t, t] ty #[.slice (some ⟨g, 0, none⟩) n cap, .slice B m mc]).run P w = .ok (.slice (some ⟨g, 0, none⟩) (n + m) cap) w' ∧ Blk w' g e (splice cur (n * sz) ys) ∧ Chg (· = g) w w' := by
  cases hq : P.info? elem with
  | none => simp [hq] at hs
  | some i =>
    have hi' : i.size = sz := by simpa [hq] using hs
    subst hi'
    rcases Nat.eq_zero_or_pos m with rfl | hm
    · have hn : ys = [] := List.eq_nil_of_length_eq_zero (by simpa using hr.1)
      subst hn
      refine ⟨w, ?_, by unfold splice; simpa using h, Chg.refl _ _⟩
      have hnc : n ≤ cap := by omega
      cases B with
      | none => simp [Builtin.append_, run_underlying hu, sizeOf, typeInfo, hq, Builtin.lenOf, Builtin.firstCells, hnc, storeCells]
      | some ad => simp [Builtin.append_, run_underlying hu, sizeOf, typeInfo, hq, Builtin.lenOf, Builtin.firstCells, hnc, storeCells, loadCells, loadCellsFrom]
    · obtain ⟨ad, rfl, _, hx⟩ := hr.2 hm
      have hadd : ((⟨g, 0, none⟩ : Addr).add (n * i.size)) = ⟨g, n * i.size, none⟩ := by unfold Addr.add; split <;> simp_all
      have hl := hr.1
      have hfit2 : n * i.size + ys.length ≤ cur.length := by rw [hl, hfit, ← Nat.add_mul]; exact Nat.mul_le_mul_right _ hroom
      obtain ⟨w', hst, hb', hch⟩ := h.store (P := P) (n * i.size) ys hfit2 h1
      have hfc := run_firstCells_some (P := P) w i.size m ad m mc ys hl hx
      exact ⟨w', by simp [Builtin.append_, run_underlying hu, sizeOf, typeInfo, hq, Builtin.lenOf, hroom, hfc, hadd, hst], hb', hch⟩
theorem wp_append_fit {o : Oper} {a : Act} {K : Act → World → Prop} {Q : Exit → Act → World → Prop} (s x : Operand) (t : TypeId)
    (ho : o.op = .call { callee := .builtin .append, args := #[s, x], argTypes := #[t, t] }) (h : Blk w g e cur) (elem : TypeId) (sz : Nat) (hu : P.underlying t = some (.slice elem)) (hs : (P.info? elem).map (·.size) = some sz) (n cap : Nat)
    (S : Nat → Prop) (B : Option Addr) (m mc : Nat) (ys : List Value) (hr : Rds w S sz B m ys) (h1 : ∀ u ∈ ys, u.oneCell' = true) (hroom : n + m ≤ cap) (hfit : cur.length = cap * sz)
    (hd : a.eval s = .slice (some ⟨g, 0, none⟩) n cap) (hx : a.eval x = .slice B m mc)
    (hK : ∀ w', Blk w' g e (splice cur (n * sz) ys) → Chg (· = g) w w' → K (a.put o.dst (.slice (some ⟨g, 0, none⟩) (n + m) cap)) w') : o.wp P a w K Q := by
  obtain ⟨w', hrun, h2, h3⟩ := run_append_fit (P := P) h t o.type elem sz hu hs n cap S B m mc ys hr h1 hroom hfit
  unfold Oper.wp execOp
  simp only [ho, resolve, invoke, builtin, Sem.run_bind, Sem.run_pure, Result.andThen_ok, List.map_toArray, List.map_cons, List.map_nil, hd, hx, hrun]
  exact hK w' h2 h3
theorem step_append_fit {ops : Array Oper} {o : Oper} {a : Act} {K : Act → World → Prop} {Q : Exit → Act → World → Prop} {E : Prop} (hgd : o.guard = none) (s x : Operand) (t : TypeId)
    (ho : o.op = .call { callee := .builtin .append, args := #[s, x], argTypes := #[t, t] }) (h : Blk w g e cur) (elem : TypeId) (sz : Nat) (hu : P.underlying t = some (.slice elem)) (hs : (P.info? elem).map (·.size) = some sz) (n cap : Nat)
    (S : Nat → Prop) (B : Option Addr) (m mc : Nat) (ys : List Value) (hr : Rds w S sz B m ys) (h1 : ∀ u ∈ ys, u.oneCell' = true) (hroom : n + m ≤ cap) (hfit : cur.length = cap * sz)
    (hd : a.eval s = .slice (some ⟨g, 0, none⟩) n cap) (hx : a.eval x = .slice B m mc)
    (hK : ∀ w', Blk w' g e (splice cur (n * sz) ys) → Chg (· = g) w w' → K (a.put o.dst (.slice (some ⟨g, 0, none⟩) (n + m) cap)) w') : if Region.wanted o (yielded ops a.tmps) = true then Oper.wp P o a w K Q else E := by
  rw [if_pos (by simp [Region.wanted, hgd])]
  exact wp_append_fit s x t ho h elem sz hu hs n cap S B m mc ys hr h1 hroom hfit hd hx hK

/-! ### append of zeros that grows -/
theorem run_append_zgrow (w : World) (m : Nat) (t u ty e : TypeId) (i : TypeInfo) (z : Value) (sz bytes : Nat) (ht : P.underlying t = some (.slice e)) (hu : P.underlying u = some (.int .i64)) (hi : P.info? e = some i) (hz : i.zero = some z)
    (hsize : i.size = sz) (hby : i.bytes = bytes) (hzs : z.cells.size = sz) (hsz : 0 < sz)
    (S : Nat → Prop) (A : Option Addr) (n c : Nat) (xs : List Value) (hr : Rds w S sz A n xs) (hm : 0 < m) (hg : c < n + m) (h63 : n + m ≤ maxLen) (hbytes : (n + m) * bytes ≤ 140737488355328) :
    ∃ w' G cur, (Builtin.append_ #[t, u] ty #[.slice A n c, .int .i64 (m : Int)]).run P w = .ok (.slice (some ⟨w.heap.size, 0, none⟩) (n + m) G) w' ∧ n + m ≤ G ∧ G ≤ maxLen ∧ Blk w' w.heap.size e cur ∧ cur.length = G * sz ∧ cur.take (n * sz) = xs ∧ Chg Nil w w' ∧ w'.heap.size = w.heap.size + 1 := by
  subst hsize
  subst hby
  have hsmall : n + m ≤ 9223372036854775807 := by simp only [maxLen] at h63; omega
  have hwr : IntKind.i64.wrap (m : Int) = m := by rw [IntKind.wrap_i64]; omega
  have hneg : ¬ ((m : Int) < 0) := by omega
  have hmb : m * i.bytes ≤ 140737488355328 := Nat.le_trans (Nat.mul_le_mul_right _ (by omega)) hbytes
  have hbig : ¬ (281474976710656 < (m : Int) * (i.bytes : Int)) := by
    have : ((m * i.bytes : Nat) : Int) ≤ 140737488355328 := by omega
    rw [Int.natCast_mul] at this
    omega
  have hms : ¬ (m * i.size = 0) := by have := Nat.mul_pos hm hsz; omega
  have hroom : ¬ (n + m ≤ c) := by omega
  have h63' : ¬ (9223372036854775807 < ((n : Int) + (m : Int))) := by omega
  have h48 : ¬ (281474976710656 < Builtin.nextslicecap (n + m) c * i.bytes) := by have := growslice_fits hg hbytes; omega
  have hge := grownCap_ge w (n + m) c e
  have hcm : grownCap w (n + m) c e ≤ maxLen := grownCap_le_maxLen w (n + m) c e h63
  have hfo : (Builtin.firstCells i.size n (.slice A n c)).run P w.drew = .ok xs.toArray w.drew := by
    rcases Nat.eq_zero_or_pos n with rfl | hn
    · have : xs = [] := List.eq_nil_of_length_eq_zero (by simpa using hr.1)
      subst this
      cases A with
      | none => exact run_firstCells_none w.drew i.size 0 0 c
      | some ad => exact run_firstCells_some w.drew i.size 0 ad 0 c [] (by simp) (by simp)
    · obtain ⟨ad, rfl, _, hx⟩ := hr.2 hn
      exact run_firstCells_some w.drew i.size n ad n c xs hr.1 hx
  refine ⟨w.drew.alloc (.cells (xs.toArray ++ Builtin.zeroCells z.cells m ++ Builtin.zeroCells z.cells (grownCap w (n + m) c e - (n + m))) e), grownCap w (n + m) c e, xs ++ (Builtin.zeroCells z.cells m).toList ++ (Builtin.zeroCells z.cells (grownCap w (n + m) c e - (n + m))).toList, ?_, hge, hcm, ?_, ?_, ?_, ((Chg.refl _ w).drew).alloc _, by simp⟩
  · simp [Builtin.append_, run_underlying ht, run_underlying hu, sizeOf, typeInfo, zeroValue, hi, hz, hwr, hneg, hbig, hms, hroom, asInt, asIntOf, h63', h48, Question.forced, hfo, newRow, grownCap]
  · unfold Blk
    refine (heap_alloc_new w.drew _).trans ?_
    congr 2
    apply Array.ext'
    simp
  · simp only [List.length_append, Array.length_toList, size_zeroCells, hzs, hr.1, ← Nat.add_mul]
    congr 1
    omega
  · rw [List.append_assoc, List.take_left' hr.1]
theorem wpl_append_zgrow {w : World} {ops : Array Oper} {rest : List Oper} {o : Oper} {a : Act} {Q : Exit → Act → World → Prop} (hgd : o.guard = none) (s x : Operand) (t u : TypeId)
    (ho : o.op = .call { callee := .builtin .append, args := #[s, x], argTypes := #[t, u] }) (m : Nat) (e : TypeId) (i : TypeInfo) (z : Value) (sz bytes : Nat) (ht : P.underlying t = some (.slice e)) (hu : P.underlying u = some (.int .i64)) (hi : P.info? e = some i) (hz : i.zero = some z)
    (hsize : i.size = sz) (hby : i.bytes = bytes) (hzs : z.cells.size = sz) (hsz : 0 < sz)
    (S : Nat → Prop) (A : Option Addr) (n c : Nat) (xs : List Value) (hr : Rds w S sz A n xs) (hm : 0 < m) (hg : c < n + m) (h63 : n + m ≤ maxLen) (hbytes : (n + m) * bytes ≤ 140737488355328)
    (hd : a.eval s = .slice A n c) (hx : a.eval x = .int .i64 (m : Int))
    (hK : ∀ w' G cur, n + m ≤ G → G ≤ maxLen → Blk w' w.heap.size e cur → cur.length = G * sz → cur.take (n * sz) = xs → Chg Nil w w' → w'.heap.size = w.heap.size + 1 → wpList P ops Q rest (a.put o.dst (.slice (some ⟨w.heap.size, 0, none⟩) (n + m) G)) w') : wpList P ops Q (o :: rest) a w := by
  refine wpList_plain hgd fun K hk => ?_
  obtain ⟨w', G, cur, hrun, h2, h3, h4, h5, h6, h7, h8⟩ := run_append_zgrow (P := P) w m t u o.type e i z sz bytes ht hu hi hz hsize hby hzs hsz S A n c xs hr hm hg h63 hbytes
  unfold Oper.wp execOp
  simp only [ho, resolve, invoke, builtin, Sem.run_bind, Sem.run_pure, Result.andThen_ok, List.map_toArray, List.map_cons, List.map_nil, hd, hx, hrun]
  exact hk _ _ (hK w' G cur h2 h3 h4 h5 h6 h7 h8)

/-! ### clear -/
theorem run_clear_blk (h : Blk w g e cur) (t elem : TypeId) (z : Value) (hu : P.underlying t = some (.slice elem)) (hv : ∀ w, (zeroValue elem).run P w = .ok z w) (o n c : Nat) (hn : 0 < n) (h1 : ∀ u ∈ (Builtin.zeroCells z.cells n).toList, u.oneCell' = true)
    (hfit : o + n * z.cells.size ≤ cur.length) :
    ∃ w' vs, (∀ ty, (Builtin.clear_ #[t] ty #[.slice (some ⟨g, o, none⟩) n c]).run P w = .ok (.tuple #[]) w') ∧ Blk w' g e (splice cur o vs) ∧ vs.length = n * z.cells.size ∧ Chg (· = g) w w' := by
  have hl : (Builtin.zeroCells z.cells n).toList.length = n * z.cells.size := by rw [Array.length_toList, size_zeroCells]
  obtain ⟨w', hst, hb', hch⟩ := h.store (P := P) o (Builtin.zeroCells z.cells n).toList (by rw [hl]; exact hfit) h1
  refine ⟨w', _, fun ty => ?_, hb', hl, hch⟩
  obtain ⟨m, rfl⟩ : ∃ m, n = m + 1 := ⟨n - 1, by omega⟩
  simp [Builtin.clear_, run_underlying hu, hv, hst]
end
end Go.Proofs.Ytmbmfhpdajdpfaa
