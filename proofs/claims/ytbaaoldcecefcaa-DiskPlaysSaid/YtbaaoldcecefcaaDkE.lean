/- The contract of a disk's Write. -/
import Derived.Test.YtbaaoldcecefcaaDkD
import Derived.Deep.RegionHeld3
import Derived.Deep.RegionLaw
namespace Go.Proofs.Ytbaaoldcecefcaa
open Go.RowKit

theorem step_append_row {P : Program} {ops : Array Oper} {o : Oper} {a : Act} {w : World} {K : Act → World → Prop} {Q : Exit → Act → World → Prop} {E : Prop} (hgd : o.guard = none) (s x : Operand) (t : TypeId)
    (ho : o.op = .call { callee := .builtin .append, args := #[s, x], argTypes := #[t, t] })
    (e : TypeId) (i : TypeInfo) (z : Value) (sz bytes : Nat) (ht : P.underlying t = some (.slice e)) (hi : P.info? e = some i) (hz : i.zero = some z)
    (hsize : i.size = sz) (hby : i.bytes = bytes) (hzs : z.cells.size = sz) (hsz : 0 < sz)
    (v : Value) (n : Nat) (xs : List Value) (hs : a.eval s = v) (hown : Row w e sz v n xs)
    (S : Nat → Prop) (A : Option Addr) (m c : Nat) (news : List Value) (hx : a.eval x = .slice A m c) (hr : Rds w S sz A m news) (h1 : ∀ u ∈ news, u.oneCell' = true)
    (h63 : n + m ≤ maxLen) (hbytes : (n + m) * bytes ≤ 140737488355328)
    (h : ∀ v' w', Row w' e sz v' (n + m) (xs ++ news) → Grew w v w' v' → K (a.put o.dst v') w') : if Region.wanted o (yielded ops a.tmps) = true then Oper.wp P o a w K Q else E := by
  rw [if_pos (by simp [Region.wanted, hgd])]
  obtain ⟨v', w', hrun, h2, h3⟩ := run_append_row (P := P) w t o.type e i z sz bytes ht hi hz hsize hby hzs hsz v n xs hown S A m c news hr h1 h63 hbytes
  unfold Oper.wp execOp
  simp only [ho, resolve, invoke, builtin, Sem.run_bind, Sem.run_pure, Result.andThen_ok, List.map_toArray, List.map_cons, List.map_nil, hs, hx, hrun]
  exact h v' w' h2 h3
theorem rds_two (w : World) (u v : Value) (t : TypeId) : Rds (w.alloc (.cells #[u, v] t)).drew (fun k => k = w.heap.size) 2 (some ⟨w.heap.size, 0, none⟩) 1 [u, v] := by
  have h := (Bk.new w t #[u, v]).drew
  refine ⟨rfl, fun _ => ⟨_, rfl, rfl, fun j x hx => ?_⟩⟩
  match j with
  | 0 => simp at hx; subst hx; exact h.cell 0 rfl
  | 1 => simp at hx; subst hx; exact h.cell 1 rfl
  | j + 2 => simp at hx
theorem Try.infoWrite : (Try.prog.info? 61).map (fun i => (i.zero, i.size, i.bytes)) = some (some (.agg #[.int .i64 0, .slice none 0 0]), 2, 32) := by kernel_rfl

theorem Grew.drew_left {w w' : World} {v v' : Value} (h : Grew w.drew v w' v') : Grew w v w' v' := ⟨⟨h.chg.os, h.chg.tape, h.chg.output, h.chg.size, h.chg.old⟩, h.lies⟩
/-- One write more waits. -/
theorem DkAt.waited {w w' : World} {g : Nat} {M R : Nat → Prop} {d : Dp} {nv lv wv : Value} {ws : List (Nat × Value)} (h : DkAt w g M R d nv lv wv ws) {F E : Option Addr} {n c' p m c : Nat} {ys : List UInt8} (hn : n = d.waits.length + 1)
    (hrow : Row w' 61 2 (.slice F n c') n (wCells ws ++ [.int .i64 (p : Int), .slice E m c])) (hgr : Grew w wv w' (.slice F n c')) (hv : RdB w (Own (.slice E m c)) E m ys)
    (hvm : ∀ k, Own (.slice E m c) k → ¬ M k) (hvlt : ∀ k, Own (.slice E m c) k → k < w.heap.size) (hmc : m ≤ c) (hcm : c ≤ maxLen) (hfit : p + m ≤ d.now.length) :
    Chg M w (w'.setCell ⟨g, 2, none⟩ (.slice F n c')) ∧ Dk (w'.setCell ⟨g, 2, none⟩ (.slice F n c')) g (fun k => M k ∨ Own (.slice F n c') k) (fun k => R k ∨ Own (.slice E m c) k) { d with waits := d.waits ++ [(p, ys)] } := by
  subst hn
  obtain rfl := hv.len
  have hgl := h.lt g (.inl h.mg)
  have hwM : ∀ k, Own wv k → M k := fun k hk => (h.mw k hk).1
  have hbk := h.bk.keep hgr.chg (fun hk => (h.mw g hk).2.1 rfl)
  have hset : Chg (· = g) w' (w'.setCell ⟨g, 2, none⟩ (.slice F (d.waits.length + 1) c')) := (Chg.refl (· = g) w').setCell (p := ⟨g, 2, none⟩) (fun _ => rfl) _
  have hall : Chg M w (w'.setCell ⟨g, 2, none⟩ (.slice F (d.waits.length + 1) c')) := (hgr.chg.wider (fun k _ hk => hwM k hk)).trans hset (fun k _ hk => hk ▸ h.mg)
  have hw' : ∀ k, Own (.slice F (d.waits.length + 1) c') k → k ≠ g ∧ ¬ Own nv k ∧ ¬ Own lv k ∧ ¬ R k ∧ ¬ Own (.slice E ys.length c) k := by
    intro k hk
    rcases Nat.lt_or_ge k w.heap.size with hlt | hge
    · have hk' := hgr.lies k hlt hk
      obtain ⟨h1, h2, h3, h4⟩ := h.mw k hk'
      exact ⟨h2, h3, h4, fun hr => h.apart k h1 hr, fun hv => hvm k hv h1⟩
    · refine ⟨by omega, fun hk2 => ?_, fun hk2 => ?_, fun hr => ?_, fun hv => ?_⟩
      · have := h.lt k (.inl (h.mn k hk2).1); omega
      · have := h.lt k (.inl (h.ml k hk2).1); omega
      · have := h.lt k (.inr hr); omega
      · have := hvlt k hv; omega
  have hwl : (w'.setCell ⟨g, 2, none⟩ (.slice F (d.waits.length + 1) c')).heap.size = w'.heap.size := by simp [World.setCell]
  refine ⟨hall, nv, lv, .slice F (d.waits.length + 1) c', ws ++ [(p, .slice E ys.length c)], ?_⟩
  exact
    { bk := hbk.set 2 (.slice F (d.waits.length + 1) c')
      now := (h.now.keep hgr.chg (fun k hk hs => (h.mw k hs).2.2.1 hk)).keep hset (fun k hk hs => (h.mn k hk).2 hs)
      lasts := (h.lasts.keep hgr.chg (fun k hk hs => (h.mw k hs).2.2.2 hk)).keep hset (fun k hk hs => (h.ml k hk).2.1 hs)
      row := by
        have := hrow.keep hset (fun k hk hs => (hw' k hk).1 hs)
        rw [wCells_snoc]
        simpa using this
      ats := by simp [h.ats]
      vals := by
        have h1 : RdL (w'.setCell ⟨g, 2, none⟩ (.slice F (d.waits.length + 1) c')) (fun k => R k ∨ Own (.slice E ys.length c) k) (ws.map (·.2)) (d.waits.map (·.2)) :=
          (h.vals.keep hall (fun k hr hm => h.apart k hm hr)).wider (fun _ _ h => .inl h)
        have h2 : RdB (w'.setCell ⟨g, 2, none⟩ (.slice F (d.waits.length + 1) c')) (fun k => R k ∨ Own (.slice E ys.length c) k) E ys.length ys :=
          (hv.keep hall (fun k hr hm => hvm k hr hm)).wider (fun _ _ h => .inr h)
        have := h1.snoc h2 hmc hcm
        simpa using this
      mg := .inl h.mg
      mn := fun k hk => ⟨.inl (h.mn k hk).1, (h.mn k hk).2⟩
      ml := fun k hk => ⟨.inl (h.ml k hk).1, (h.ml k hk).2⟩
      mw := fun k hk => ⟨.inr hk, (hw' k hk).1, (hw' k hk).2.1, (hw' k hk).2.2.1⟩
      apart := fun k hm hr => by
        rcases hm with hm | hm
        · rcases hr with hr | hr
          · exact h.apart k hm hr
          · exact hvm k hr hm
        · rcases hr with hr | hr
          · exact (hw' k hm).2.2.2.1 hr
          · exact (hw' k hm).2.2.2.2 hr
      lt := fun k hk => by
        rcases hk with (hk | hk) | (hk | hk)
        · exact Nat.lt_of_lt_of_le (h.lt k (.inl hk)) hall.size
        · rw [hwl]; exact hrow.lt k hk
        · exact Nat.lt_of_lt_of_le (h.lt k (.inr hk)) hall.size
        · exact Nat.lt_of_lt_of_le (hvlt k hk) hall.size
      ok := ⟨h.ok.same, h.ok.most, fun q hq => by
        rcases List.mem_append.1 hq with hq | hq
        · exact h.ok.fits q hq
        · simp at hq
          subst hq
          exact hfit, h.ok.stop⟩ }

def Dp.write (d : Dp) (p : Nat) (ys : List UInt8) : Dp := { d.called with now := splice d.now p ys, waits := d.waits ++ [(p, ys)] }

set_option maxHeartbeats 1000000 in
set_option maxRecDepth 100000 in
theorem dwrite_no {g : Nat} {M R : Nat → Prop} {d : Dp} {w : World} (h : Dk w g M R d) (p : Int) (B : Option Addr) (m mc : Nat) (hne : d.opE p m ≠ 0) :
    Calls Try.prog 11 #[.pointer (some ⟨g, 0, none⟩), .int .i64 p, .slice B m mc] w fun e w' => e = .returned (.int .i64 (d.opE p m)) ∧ Chg Nil w w' := by
  have HH := Hid.mk h
  cases hf : d.fits p m with
  | false =>
    rw [Dp.opE_arg hf]
    clear h hne
    go_enter Try.func11, Try.ntmps11
    go_wp2_with fail
    refine (din_any HH.out p m).mono ?_
    rintro e w1 ⟨rfl, hc⟩
    have HC := Hid.mk hc
    clear hc
    rw [hf]
    go_wp2_with fail
    go_ret
    exact ⟨rfl, HC.out⟩
  | true =>
    cases hd : d.dead with
    | false => exact absurd (Dp.opE_of hf hd) hne
    | true =>
      rw [Dp.opE_dead hf hd]
      clear h hne
      go_enter Try.func11, Try.ntmps11
      go_wp2_with fail
      refine (din_any HH.out p m).mono ?_
      rintro e w1 ⟨rfl, hc⟩
      have HC := Hid.mk hc
      clear hc
      rw [hf]
      go_wp2_with fail
      refine (call_dead (HH.out.keep_nil HC.out) hd).mono ?_
      rintro e w2 ⟨rfl, rfl⟩
      go_wp2_with fail
      go_ret
      exact ⟨rfl, HC.out⟩

set_option maxHeartbeats 1000000 in
set_option maxRecDepth 100000 in
theorem dwrite_ok {g : Nat} {M R S : Nat → Prop} {d : Dp} {w : World} (h : Dk w g M R d) (p : Nat) (B : Option Addr) (m mc : Nat) (ys : List UInt8) (hr : RdB w S B m ys) (hS : ∀ k, S k → ¬ M k)
    (hp : p + m ≤ d.now.length) (hd : d.dead = false) (hlong : d.waits.length ≤ 1000000) :
    Calls Try.prog 11 #[.pointer (some ⟨g, 0, none⟩), .int .i64 (p : Int), .slice B m mc] w fun e w' => ∃ M' R', e = .returned (.int .i64 0) ∧ Went w w' M R M' R' ∧ Dk w' g M' R' (d.write p ys) := by
  have hf := Dp.fits_nat hp
  have hmost := h.ok.most
  have hgM : M g := by obtain ⟨_, _, _, _, h⟩ := h; exact h.mg
  have hwr : d.write p ys = { d.called with now := splice d.called.now p ys, waits := d.called.waits ++ [(p, ys)] } := by rw [Dp.called_now, Dp.called_waits]; rfl
  rw [hwr]
  have hcall : ∀ w1, Chg Nil w w1 → Calls Try.prog 25 #[.pointer (some ⟨g, 0, none⟩)] w1 fun e w' => e = .returned (.int .i64 0) ∧ Chg (· = g) w1 w' ∧ Dk w' g M R d.called :=
    fun w1 hc => call_ok (h.keep_nil hc) hd
  have hin := din_any h p m
  rw [hf] at hin
  rw [← Dp.called_now] at hp hmost
  rw [← Dp.called_waits] at hlong
  clear hf hwr h
  generalize d.called = d1 at *
  have HS := Hid.mk (And.intro hr hS)
  clear hr hS
  go_enter Try.func11, Try.ntmps11
  go_wp2_with fail
  refine hin.mono ?_
  rintro e w1 ⟨rfl, hc⟩
  have hcall1 := hcall w1 hc
  have HC := Hid.mk hc
  clear hc hcall hin
  go_wp2_with fail
  refine hcall1.mono ?_
  rintro e w2 ⟨rfl, hc2, h2⟩
  have hch2 : Chg M w w2 := (HC.out.wider (T := M) (fun _ _ h => h.elim)).trans (hc2.wider (T := M) (fun k _ hk => hk ▸ hgM)) (fun _ _ h => h)
  have hr2 : RdB w2 (fun k => S k ∧ k < w.heap.size) B m ys := (HS.out.1.here).keep hch2 (fun k hs hm => HS.out.2 k hs.1 hm)
  have H2 := Hid.mk (And.intro h2 (And.intro hch2 hr2))
  clear hcall1 hc2 h2 hch2 hr2
  go_wp2_with fail
  refine (clone_any B m mc ys _ w2 H2.out.2.2 (by omega)).mono ?_
  rintro e w3 ⟨v, rfl, ho, hc3⟩
  obtain ⟨E, c3, rfl, hmc3, hcm3⟩ := own_form ho
  have h3 := H2.out.1.keep_nil hc3
  have hlt3 := own_ge ho
  have H3 := Hid.mk (And.intro h3 (And.intro ho (And.intro (H2.out.2.1.trans (hc3.wider (T := M) (fun _ _ h => h.elim)) (fun _ _ h => h)) hlt3)))
  clear h3 ho hc3 hlt3
  go_wp2_with fail
  refine wp_region_tail 7 (by kernel_rfl) (by kernel_rfl) fun W hW => ?_
  simp only [List.take_succ_cons, List.take_zero, List.drop_succ_cons, List.drop_zero]
  have hch : Chg Nil w3 W := by subst hW; exact ((Chg.refl Nil w3).alloc _).drew
  have b8 : Bk W w3.heap.size 61 #[.int .i64 (p : Int), .slice E m c3] := by subst hW; exact (Bk.new w3 _ _).drew
  have h4 := H3.out.1.keep_nil hch
  have hold := H3.out.1.lt
  have hlt3 : ∀ k, Own (.slice E m c3) k → k < w3.heap.size := own_lt H3.out.2.1
  clear hW
  obtain ⟨nv, lv, wv, ws, h4⟩ := h4
  obtain ⟨A, c, rfl, hnc, hcm⟩ := h4.now.form
  have hc0 : W.cell? ⟨g, 0, none⟩ = some (.slice A d1.now.length c) := h4.bk.cell 0 rfl
  have hc8 : W.cell? ⟨w3.heap.size, 0, none⟩ = some (.int .i64 (p : Int)) := b8.cell 0 rfl
  have hc9 : W.cell? ⟨w3.heap.size, 1, none⟩ = some (.slice E m c3) := b8.cell 1 rfl
  have hv4 : RdB W (Own (.slice E m c3)) E m ys := Rds.of_own (own_keep H3.out.2.1 hch (fun _ _ h => h))
  have H4 := Hid.mk (And.intro h4 (And.intro b8 (And.intro hv4 (And.intro (H3.out.2.2.1.trans (hch.wider (T := M) (fun _ _ h => h.elim)) (fun _ _ h => h)) (And.intro hold hlt3)))))
  clear h4 b8 hv4 hch hold hlt3
  repeat (go_big_quiet_step (fail))
  refine wpQuiet_nil ?_
  go_wp2_with fail
  refine (into_any p E m c3 ys _ A _ c d1.now (m : Int) W H4.out.2.2.1 hmc3 hcm3 H4.out.1.now hmost hp).mono ?_
  rintro e w4 ⟨rfl, hrow4, hc4⟩
  rw [Int.toNat_natCast, Nat.min_self, List.take_of_length_le (by rw [H4.out.2.2.1.len]; exact Nat.le_refl _)] at hrow4
  have h5 := H4.out.1.nowed hrow4 hc4 (splice_len _ _ _ (by rw [H4.out.2.2.1.len]; exact hp))
  have hM4 : ∀ k, Own (.slice A d1.now.length c) k → M k := fun k hk => (H4.out.1.mn k hk).1
  have b8' := H4.out.2.1.keep hc4 (fun hk => by have := H4.out.2.2.2.2.1 _ (.inl (hM4 _ hk)); omega)
  have hwv : w4.cell? ⟨g, 2, none⟩ = some wv := h5.bk.cell 2 rfl
  have hwf : w4.frozen? ⟨g, 2, none⟩ = false := h5.bk.free 2
  have hc8 : w4.cell? ⟨w3.heap.size, 0, none⟩ = some (.int .i64 (p : Int)) := b8'.cell 0 rfl
  have hc9 : w4.cell? ⟨w3.heap.size, 1, none⟩ = some (.slice E m c3) := b8'.cell 1 rfl
  obtain ⟨F, c5, rfl, hnc5, hcm5⟩ := h5.row.form
  have H5 := Hid.mk (And.intro h5 (And.intro b8' hc4))
  clear h5 b8' hc4 hrow4
  go_wp2_with fail
  obtain ⟨iW, hiW, hzW, hz1W, hz2W⟩ := info_parts Try.infoWrite
  have hgF : ¬ Own (.slice F d1.waits.length c5) g := fun hk => (H5.out.1.mw g hk).2.1 rfl
  have hg8 : ¬ Own (.slice F d1.waits.length c5) w3.heap.size := fun hk => by
    have := H4.out.2.2.2.2.1 _ (.inl (H5.out.1.mw _ hk).1)
    omega
  have hS5 : ∀ v' w', Grew ((w4.alloc (.cells #[.int .i64 (p : Int), .slice E m c3] 61)).drew) (.slice F d1.waits.length c5) w' v' →
      w'.cell? ⟨g, 2, none⟩ = some (.slice F d1.waits.length c5) ∧ w'.cell? ⟨w3.heap.size, 0, none⟩ = some (.int .i64 (p : Int)) ∧ w'.cell? ⟨w3.heap.size, 1, none⟩ = some (.slice E m c3) ∧ w'.frozen? ⟨g, 2, none⟩ = false := by
    intro v' w' hg'
    have hA : Chg Nil w4 ((w4.alloc (.cells #[.int .i64 (p : Int), .slice E m c3] 61)).drew) := ((Chg.refl Nil w4).alloc _).drew
    exact ⟨hg'.chg.cell (hA.cell hwv (fun h => h)) hgF, hg'.chg.cell (hA.cell hc8 (fun h => h)) hg8, hg'.chg.cell (hA.cell hc9 (fun h => h)) hg8, ((H5.out.1.bk.keep hA (fun h => h)).keep hg'.chg hgF).free 2⟩
  have HS5 := Hid.mk hS5
  clear hS5
  have hwv5 : (w4.alloc (.cells #[.int .i64 (p : Int), .slice E m c3] 61)).cell? ⟨g, 2, none⟩ = some (.slice F d1.waits.length c5) := ((Chg.refl Nil w4).alloc _).cell hwv (fun h => h)
  have hc85 : (w4.alloc (.cells #[.int .i64 (p : Int), .slice E m c3] 61)).cell? ⟨w3.heap.size, 0, none⟩ = some (.int .i64 (p : Int)) := ((Chg.refl Nil w4).alloc _).cell hc8 (fun h => h)
  have hc95 : (w4.alloc (.cells #[.int .i64 (p : Int), .slice E m c3] 61)).cell? ⟨w3.heap.size, 1, none⟩ = some (.slice E m c3) := ((Chg.refl Nil w4).alloc _).cell hc9 (fun h => h)
  go_region_law ((refine step_append_row (by rfl) _ _ _ (by rfl) 61 iW _ 2 32 Try.underlying55 hiW hzW hz1W hz2W (by rfl) (by omega) (.slice F d1.waits.length c5) d1.waits.length (wCells ws) (by rfl) (H5.out.1.row.keep (((Chg.refl Nil w4).alloc _).drew) (fun _ _ h => h)) (fun k => k = w4.heap.size) _ 1 1 [.int .i64 (p : Int), .slice E m c3] (by rfl) (rds_two w4 _ _ _) (by intro u hu; simp at hu; rcases hu with rfl | rfl <;> rfl) (by simp only [maxLen]; omega) (by omega) ?_; intro v' w' hrow' hgrew'; have hfr' := (HS5.out _ _ hgrew').2.2.2; have hcl' := (HS5.out _ _ hgrew').1; obtain ⟨F', c', rfl, hx1, hx2⟩ := hrow'.form))
  all_goals
    have hgr4 := hgrew'.drew_left.alloc_left
    have H6 := Hid.mk (And.intro hrow' hgr4)
    clear hrow' hgrew' hgr4
    go_wp2
    go_ret
    have hnv : ∀ k, Own (.slice A d1.now.length c) k → M k := fun k hk => (H4.out.1.mn k hk).1
    have hv2 : ∀ k, M k → k < w2.heap.size := fun k hk => H2.out.1.lt k (.inl hk)
    have hvge := H3.out.2.2.2
    have hfin := H5.out.1.waited (p := p) (ys := ys) rfl H6.out.1 H6.out.2 (H4.out.2.2.1.keep H5.out.2.2 (fun k h1 h2 => by have := hvge k h1; have := hv2 k (hnv k h2); omega))
      (fun k h1 h2 => by have := hvge k h1; have := hv2 k h2; omega) (fun k h1 => Nat.lt_of_lt_of_le (H4.out.2.2.2.2.2 k h1) (by
        have h1 := H5.out.2.1.lt
        omega)) hmc3 hcm3 (by rw [splice_len _ _ _ (by rw [H4.out.2.2.1.len]; exact hp)]; exact hp)
    have hchw : Chg M w w4 := H4.out.2.2.2.1.trans H5.out.2.2 (fun k _ hk => hnv k hk)
    refine ⟨_, _, rfl, ⟨hchw.trans hfin.1 (fun _ _ h => h), fun k hk hm => ?_, fun k hk hr => ?_⟩, hfin.2⟩
    · rcases hm with hm | hm
      · exact hm
      · exact (H5.out.1.mw k (H6.out.2.lies k (Nat.lt_of_lt_of_le hk hchw.size) hm)).1
    · rcases hr with hr | hr
      · exact hr
      · have := hvge k hr
        have := H2.out.2.1.size
        omega
end Go.Proofs.Ytbaaoldcecefcaa
