/- Joined for this seat from: XStV. -/
import Derived.Deep.RegionHeld3
import Derived.Deep.CutRange
import Derived.Test.YtanipieeegeheaaTj
namespace Go.Proofs.Ytanipieeegeheaa
open Go.RowKit

/-- A slice of one-cell elements, in a block of the call's own, at an offset. -/
def OffRow (w : World) (base : Nat) (e : TypeId) (v : Value) (n : Nat) (xs : List Value) : Prop :=
  xs.length = n ∧ ∃ g off cap cur, v = .slice (some ⟨g, off, none⟩) n cap ∧ base ≤ g ∧ w.heap[g]? = some (.cells cur e (0, 0)) ∧ n ≤ cap ∧ cap ≤ maxLen ∧ cur.size = off + cap ∧ (cur.toList.drop off).take n = xs
section
variable {w w' : World} {base : Nat} {e : TypeId} {v : Value} {n : Nat} {xs : List Value}
theorem OffRow.keep {S : Nat → Prop} (h : OffRow w base e v n xs) (hc : Chg S w w') (hd : ∀ k, Own v k → S k → False) : OffRow w' base e v n xs := by
  obtain ⟨h1, g, off, cap, cur, rfl, hb, hg, rest⟩ := h
  exact ⟨h1, g, off, cap, cur, rfl, hb, hc.block hg fun hs => hd g rfl hs, rest⟩
theorem OffRow.cells (h : OffRow w base e v n xs) : ∃ g off cap, v = .slice (some ⟨g, off, none⟩) n cap ∧ n ≤ cap ∧ cap ≤ maxLen ∧ base ≤ g ∧ g < w.heap.size ∧ ∀ (j : Nat) (u : Value), xs[j]? = some u → w.cell? ⟨g, off + j, none⟩ = some u := by
  obtain ⟨h1, g, off, cap, cur, rfl, hb, hg, hn, hm, hs, ht⟩ := h
  refine ⟨g, off, cap, rfl, hn, hm, hb, ?_, fun j u hu => ?_⟩
  · rcases Nat.lt_or_ge g w.heap.size with hlt | hge
    · exact hlt
    · rw [Array.getElem?_eq_none hge] at hg; cases hg
  · rw [← ht, List.getElem?_take] at hu
    split at hu
    · rw [List.getElem?_drop] at hu
      have h3 := cell_of_row w g (off + j) cur e (0, 0) hg
      rw [h3, ← hu]
      simp
    · cases hu
theorem OffRow.lt (h : OffRow w base e v n xs) : ∀ k, Own v k → base ≤ k ∧ k < w.heap.size := by
  obtain ⟨g, off, cap, rfl, _, _, h1, h2, _⟩ := h.cells
  intro k hk
  have := own_at hk
  subst this
  exact ⟨h1, h2⟩
/-- The end of it: 's[k:]'. -/
theorem OffRow.back {g off cap k : Nat} (h : OffRow w base e (.slice (some ⟨g, off, none⟩) n cap) n xs) (hk : k < n) :
    OffRow w base e (.slice (some ⟨g, off + k, none⟩) (n - k) (cap - k)) (n - k) (xs.drop k) := by
  obtain ⟨h1, g', off', cap', cur, hv, hb, hg, hn, hm, hs, ht⟩ := h
  injection hv with e1 e2 e3
  injection e1 with e1
  injection e1 with e4 e5
  subst e4 e5 e3
  refine ⟨by rw [List.length_drop, h1], g, off + k, cap - k, cur, rfl, hb, hg, by omega, by omega, by omega, ?_⟩
  rw [← ht, List.drop_take, List.drop_drop]
theorem OffRow.one (w : World) (base : Nat) (e : TypeId) (u : Value) (hb : base ≤ w.heap.size) : OffRow (w.alloc (.cells #[u] e)) base e (.slice (some ⟨w.heap.size, 0, none⟩) 1 1) 1 [u] :=
  ⟨rfl, w.heap.size, 0, 1, #[u], rfl, hb, heap_alloc_new w _, Nat.le_refl _, by unfold maxLen; omega, rfl, rfl⟩
variable {P : Program}
theorem run_append_off (t ty : TypeId) (i : TypeInfo) (z : Value) (ht : P.underlying t = some (.slice e)) (hi : P.info? e = some i) (hz : i.zero = some z) (hsize : i.size = 1) (hzs : z.cells.size = 1)
    (h : OffRow w base e v n xs) (ad : Addr) (c : Nat) (u : Value) (hu : w.cell? ad = some u) (h1 : u.oneCell' = true) (h63 : n + 1 ≤ maxLen) (hbytes : (n + 1) * i.bytes ≤ 140737488355328) (hbase : base ≤ w.heap.size) :
    ∃ v' w', (Builtin.append_ #[t, t] ty #[v, .slice (some ad) 1 c]).run P w = .ok v' w' ∧ OffRow w' base e v' (n + 1) (xs ++ [u]) ∧ Grew w v w' v' := by
  have hsmall : n + 1 ≤ 9223372036854775807 := by simp only [maxLen] at h63; omega
  obtain ⟨hl, g, off, cap, cur, rfl, hb, hg, hn, hm, hs, htk⟩ := h
  have hlt : g < w.heap.size := by
    rcases Nat.lt_or_ge g w.heap.size with hlt | hge
    · exact hlt
    · rw [Array.getElem?_eq_none hge] at hg; cases hg
  have hnews : ∀ j x, [u][j]? = some x → w.cell? (ad.add j) = some x := by
    intro j x hx
    cases j with
    | zero => injection hx with hx; subst hx; simpa [Addr.add] using hu
    | succ q => cases hx
  by_cases hroom : n + 1 ≤ cap
  · have hf := run_firstCells_some (P := P) w i.size 1 ad 1 c [u] (by rw [hsize]; rfl) hnews
    have hf2 : (Builtin.firstCells 1 1 (.slice (some ad) 1 c)).run P w = .ok #[u] w := by
      have h := hf
      rw [hsize] at h
      exact h
    have hst := run_storeCells_at P g (off + n) e [u] 0 cur w hg (by simp; omega) (by intro x hx; simp at hx; subst hx; exact h1)
    simp only [Nat.add_zero] at hst
    have hd1 : (cur.toList.drop off).length = cap := by rw [List.length_drop, Array.length_toList]; omega
    refine ⟨.slice (some ⟨g, off, none⟩) (n + 1) cap, w.setRow g (cur.toList.take (off + n) ++ [u] ++ cur.toList.drop (off + n + 1)).toArray, ?_, ⟨by simp [hl], g, off, cap, _, rfl, hb, setRow_heap w g cur _ e _ hg, hroom, hm, ?_, ?_⟩, ?_⟩
    · simp [Builtin.append_, run_underlying ht, sizeOf, typeInfo, hi, Builtin.lenOf, hroom, hf2, Addr.add_lit, hst, hsize]
    · simp only [List.size_toArray, List.length_append, List.length_take, List.length_drop, Array.length_toList, List.length_singleton]
      omega
    · show ((cur.toList.take (off + n) ++ [u] ++ cur.toList.drop (off + n + 1)).drop off).take (n + 1) = _
      have ho : off ≤ (cur.toList.take (off + n)).length := by rw [List.length_take, Array.length_toList]; omega
      have e1 : (cur.toList.take (off + n)).drop off = xs := by rw [List.drop_take, Nat.add_sub_cancel_left, htk]
      rw [List.append_assoc, List.drop_append_of_le_length ho, e1, ← List.append_assoc]
      have : n + 1 = (xs ++ [u]).length := by rw [List.length_append, hl]; rfl
      rw [this]
      exact List.take_left
    · exact Grew.of_grown ⟨rfl, rfl, rfl, by simp, fun k _ hk => setRow_other w g k _ (fun e => hk (by simp [Value.ownBlock, e]))⟩ (.inl rfl)
  · have holds : ∀ j x, xs[j]? = some x → w.cell? ((⟨g, off, none⟩ : Addr).add j) = some x := by
      intro j x hx
      rw [Addr.add_lit]
      have hrow : OffRow w base e (.slice (some ⟨g, off, none⟩) n cap) n xs := ⟨hl, g, off, cap, cur, rfl, hb, hg, hn, hm, hs, htk⟩
      obtain ⟨g', off', cap', hv, _, _, _, _, hx2⟩ := hrow.cells
      injection hv with e1 e2 e3
      injection e1 with e1
      injection e1 with e4 e5
      subst e4 e5
      exact hx2 j x hx
    have hr := run_append_grow (P := P) w t ty e i z ht hi hz ⟨g, off, none⟩ n cap xs (by rw [hl, hsize, Nat.mul_one]) holds ad 1 c [u] (by rw [hsize]; rfl) hnews (by omega) (by omega) (growslice_fits (by omega) hbytes)
    have hge := grownCap_ge w (n + 1) cap e
    have hcm : grownCap w (n + 1) cap e ≤ maxLen := grownCap_le_maxLen w (n + 1) cap e h63
    refine ⟨_, _, hr, ⟨by simp [hl], w.heap.size, 0, _, _, rfl, hbase, heap_alloc_new w.drew _, hge, hcm, ?_, ?_⟩, Grew.of_grown ⟨rfl, rfl, rfl, by simp, fun k hk _ => heap_alloc_old w.drew _ hk⟩ (.inr rfl)⟩
    · simp only [Array.size_append, List.size_toArray, size_zeroCells, hzs, hl, List.length_singleton]
      omega
    · rw [List.drop_zero]
      simp only [Array.toList_append, List.append_assoc]
      rw [← List.append_assoc]
      have : n + 1 = (xs ++ [u]).length := by rw [List.length_append, hl]; rfl
      rw [this]
      exact List.take_left
theorem wp_append_off {o : Oper} {a : Act} {K : Act → World → Prop} {Q : Exit → Act → World → Prop} (s x : Operand) (t : TypeId)
    (ho : o.op = .call { callee := .builtin .append, args := #[s, x], argTypes := #[t, t] }) (i : TypeInfo) (z : Value) (ht : P.underlying t = some (.slice e)) (hi : P.info? e = some i) (hz : i.zero = some z) (hsize : i.size = 1) (hzs : z.cells.size = 1)
    (h : OffRow w base e v n xs) (hs : a.eval s = v) (ad : Addr) (c : Nat) (hx : a.eval x = .slice (some ad) 1 c) (u : Value) (hu : w.cell? ad = some u) (h1 : u.oneCell' = true) (h63 : n + 1 ≤ maxLen) (hbytes : (n + 1) * i.bytes ≤ 140737488355328) (hbase : base ≤ w.heap.size)
    (hk : ∀ v' w', OffRow w' base e v' (n + 1) (xs ++ [u]) → Grew w v w' v' → K (a.put o.dst v') w') : o.wp P a w K Q := by
  obtain ⟨v', w', hrun, h2, h3⟩ := run_append_off (P := P) t o.type i z ht hi hz hsize hzs h ad c u hu h1 h63 hbytes hbase
  unfold Oper.wp execOp
  simp only [ho, resolve, invoke, builtin, Sem.run_bind, Sem.run_pure, Result.andThen_ok, List.map_toArray, List.map_cons, List.map_nil, hs, hx, hrun]
  exact hk v' w' h2 h3
theorem wpl_append_off {ops : Array Oper} {rest : List Oper} {o : Oper} {a : Act} {Q : Exit → Act → World → Prop} (hgd : o.guard = none) (s x : Operand) (t : TypeId)
    (ho : o.op = .call { callee := .builtin .append, args := #[s, x], argTypes := #[t, t] }) (i : TypeInfo) (z : Value) (ht : P.underlying t = some (.slice e)) (hi : P.info? e = some i) (hz : i.zero = some z) (hsize : i.size = 1) (hzs : z.cells.size = 1)
    (h : OffRow w base e v n xs) (hs : a.eval s = v) (ad : Addr) (c : Nat) (hx : a.eval x = .slice (some ad) 1 c) (u : Value) (hu : w.cell? ad = some u) (h1 : u.oneCell' = true) (h63 : n + 1 ≤ maxLen) (hbytes : (n + 1) * i.bytes ≤ 140737488355328) (hbase : base ≤ w.heap.size)
    (hk : ∀ v' w', OffRow w' base e v' (n + 1) (xs ++ [u]) → Grew w v w' v' → wpList P ops Q rest (a.put o.dst v') w') : wpList P ops Q (o :: rest) a w :=
  wpList_plain hgd fun _ hK => wp_append_off s x t ho i z ht hi hz hsize hzs h hs ad c hx u hu h1 h63 hbytes hbase fun v' w' h2 h3 => hK _ _ (hk v' w' h2 h3)
end
set_option maxHeartbeats 2000000 in
set_option maxRecDepth 100000 in
theorem rCopy_cells (w : World) (gw : Nat) (sl lg us G U L c : Nat) (A : Option Addr) (l : List Pt) (S : Nat → Prop) (hb : Bk w gw 65 #[.int .i64 (sl : Int), .int .i64 (lg : Int), .int .i64 (us : Int), .int .u64 (G : Int), .int .u64 (U : Int), .slice A L c]) (hr : RdP w S A L l) (hL : L ≤ 100000) :
    Calls Try.prog 35 #[.pointer (some ⟨gw, 0, none⟩)] w fun e w' => ∃ gn A2 c2, e = .returned (.pointer (some ⟨gn, 0, none⟩)) ∧ w.heap.size ≤ gn ∧ Chg Nil w w' ∧
      Bk w' gn 65 #[.int .i64 (sl : Int), .int .i64 (lg : Int), .int .i64 (us : Int), .int .u64 (G : Int), .int .u64 (U : Int), .slice A2 L c2] ∧ RdP w' (fun k => w.heap.size ≤ k ∧ k ≠ gn) A2 L l := by
  obtain ⟨i0, hi, hz0, hz1, hz2⟩ := info_parts Try.infoPt
  have hlen := hr.len
  have hA1 : ∀ o, Chg Nil w (w.alloc o) := fun o => (Chg.refl _ _).alloc _
  have hA2 : ∀ o1 o2, Chg Nil w ((w.alloc o1).alloc o2) := fun o1 o2 => ((Chg.refl _ _).alloc _).alloc _
  have hr2 := fun o1 o2 => hr.keep (hA2 o1 o2) (fun _ _ h => h)
  have x0 := hb.cell 0 rfl
  have x1 := hb.cell 1 rfl
  have x2 := hb.cell 2 rfl
  have x3 := hb.cell 3 rfl
  have x4 := hb.cell 4 rfl
  have x5 := hb.cell 5 rfl
  have y5 := fun o1 => (hb.keep (hA1 o1) (fun h => h)).cell 5 rfl
  have y6 := fun o1 o2 => (hb.keep (hA2 o1 o2) (fun h => h)).cell 5 rfl
  have hbn := Bk.new w 65 #[.int .i64 (sl : Int), .int .i64 (lg : Int), .int .i64 (us : Int), .int .u64 (G : Int), .int .u64 (U : Int), .slice A L c]
  have hlt := hb.lt
  have hos : ((w.alloc (.cells #[.int .i64 (sl : Int), .int .i64 (lg : Int), .int .i64 (us : Int), .int .u64 (G : Int), .int .u64 (U : Int), .slice A L c] 65)).alloc (.cells #[] 30)).ownsRow (w.heap.size + 1) 30 4 (.slice (some ⟨w.heap.size + 1, 0, none⟩) 0 0) 0 [] := by
    have h := World.ownsRow_made (base := w.heap.size + 1) (e := 30) (size := 4) (w.alloc (.cells #[.int .i64 (sl : Int), .int .i64 (lg : Int), .int .i64 (us : Int), .int .u64 (G : Int), .int .u64 (U : Int), .slice A L c] 65)) #[] 0 (by simp) (Nat.zero_le _) (by simp)
    rw [show (w.alloc (.cells #[.int .i64 (sl : Int), .int .i64 (lg : Int), .int .i64 (us : Int), .int .u64 (G : Int), .int .u64 (U : Int), .slice A L c] 65)).heap.size = w.heap.size + 1 by simp] at h
    exact h
  have HX := Hid.mk (And.intro hr2 (And.intro hA2 (And.intro hbn hos)))
  clear hr2 hA1 hA2 hb hr hbn hos
  go_enter Try.func35, Try.ntmps35
  go_wp2_with (at_builtin; refine wpl_append rfl (.tmp 7) (.tmp 11) 36 rfl (w.heap.size + 1) 30 i0 _ 4 32 Try.underlying36 hi hz0 hz1 hz2 rfl (by omega) _ _ _ rfl HX.out.2.2.2 _ A L c _ rfl (HX.out.1 _ _) (pts_one _) (by simp only [maxLen]; omega) (by omega) (by simp) ?_; intro v0 w0 o0 g0; rw [Nat.zero_add, List.nil_append] at o0; obtain ⟨A2, k2, rfl, _, _⟩ := own_form o0; have hb0 := (HX.out.2.2.1.alloc (.cells #[] 30)).keep g0.chg (fun h => by have := own_at h; omega); have z5 : w0.cell? ⟨w.heap.size, 5, none⟩ = some (.slice A L c) := hb0.cell 5 rfl; have fz := fun j => hb0.free j; have H0 := Hid.mk (And.intro o0 (And.intro g0 hb0)); clear o0 g0 hb0)
  go_ret
  have hcx : Chg Nil w w0 := (HX.out.2.1 _ _).trans H0.out.2.1.chg (fun k hk h => by have := own_at h; omega)
  have hcs := hcx.trans (chg_set w0 w.heap.size 5 (.slice A2 L k2)) (fun k hk h => by have h : k = w.heap.size := h; omega)
  have hne : ∀ k, Own (.slice A2 L k2) k → w.heap.size + 1 ≤ k := fun k hk => own_ge H0.out.1 k hk
  refine ⟨w.heap.size, A2, k2, rfl, Nat.le_refl _, hcs, H0.out.2.2.set 5 (.slice A2 L k2), ?_⟩
  have hrow := own_keep H0.out.1 (chg_set w0 w.heap.size 5 (.slice A2 L k2)) (fun k hk h => by have := hne k hk; have h : k = w.heap.size := h; omega)
  exact Rds.wider (Rds.of_own hrow) (fun k _ hk => ⟨by have := hne k hk; omega, by have := hne k hk; omega⟩) (by omega)
theorem rCopy_any {w : World} {F : Nat → Prop} {gw : Nat} {σ : Sp} (h : Ref w F gw σ) (hp : Pok σ) :
    Calls Try.prog 35 #[.pointer (some ⟨gw, 0, none⟩)] w fun e w' => ∃ gn, e = .returned (.pointer (some ⟨gn, 0, none⟩)) ∧ w.heap.size ≤ gn ∧ Chg Nil w w' ∧ ∀ F' : Nat → Prop, (∀ k, F' k → k < w.heap.size) → Ref w' F' gn σ := by
  obtain ⟨A, c, hb, hk⟩ := h.ex
  refine (rCopy_cells w gw _ _ _ _ _ _ _ A σ.pts _ hb hk.rd (by have := hp.len; omega)).mono ?_
  rintro e w1 ⟨gn, A2, c2, he, hg, hc, hb2, hr2⟩
  refine ⟨gn, he, hg, hc, fun F' hF => ⟨⟨A2, c2, hb2, ⟨_, Rds.here hr2 (by omega), fun k hk => ⟨hk.2, fun hh => hh.elim hk.1.2 (fun hh => by have := hF k hh; have := hk.1.1; omega)⟩⟩⟩, fun hh => by have := hF gn hh; omega⟩⟩

end Go.Proofs.Ytanipieeegeheaa
