/- Joined for this seat from: XSSplit. -/
import Derived.Deep.RegionWith
import Derived.Deep.RegionHeld3
import Derived.Deep.CutRange
import Derived.Test.YtanipieeegeheaaTf
namespace Go.Proofs.Ytanipieeegeheaa
open Go.RowKit

theorem ops_take (l : List Oq) (k : Nat) : (l.flatMap Oq.cs).take (k * 5) = (l.take k).flatMap Oq.cs := by
  induction l generalizing k with
  | nil => simp
  | cons a t ih =>
    cases k with
    | zero => simp
    | succ k =>
      have ha : a.cs.length = 5 := rfl
      rw [List.flatMap_cons, List.take_succ_cons, List.flatMap_cons, ← ih k, List.take_append, ha, List.take_of_length_le (by rw [ha]; omega), show (k + 1) * 5 - 5 = k * 5 by omega]
theorem ops_drop (l : List Oq) (k : Nat) : (l.flatMap Oq.cs).drop (k * 5) = (l.drop k).flatMap Oq.cs := by
  induction l generalizing k with
  | nil => simp
  | cons a t ih =>
    cases k with
    | zero => simp
    | succ k =>
      have ha : a.cs.length = 5 := rfl
      rw [List.flatMap_cons, List.drop_succ_cons, ← ih k, List.drop_append, ha, List.drop_of_length_le (by rw [ha]; omega), show (k + 1) * 5 - 5 = k * 5 by omega, List.nil_append]
theorem RdO.front {w : World} {S : Nat → Prop} {A : Option Addr} {n : Nat} {l : List Oq} (h : RdO w S A n l) {m : Nat} (hm : m ≤ n) : RdO w S A m (l.take m) := by
  have := Rds.front h hm
  rw [ops_take] at this
  exact this
theorem RdO.back {w : World} {S : Nat → Prop} {A : Option Addr} {n c : Nat} {l : List Oq} (h : RdO w S A n l) {m : Nat} (hm : m ≤ n) (hc : n ≤ c) : RdO w S (cutA 5 A c m) (n - m) (l.drop m) := by
  have := cutA_rds h hm (Nat.le_refl n) hc
  rw [ops_drop, List.take_of_length_le (by rw [ops_len, List.length_drop, h.len]; exact Nat.le_refl _)] at this
  exact this

/-- Two stores, each on a disk of its own. -/
structure Two (w0 w : World) (ga gda : Nat) (σa : Sp) (da : Dp) (gb gdb : Nat) (σb : Sp) (db : Dp) : Prop where
  ex : ∃ Ma Ra Na Mb Rb Nb, Run w0 w ga gda Ma Ra Na σa da ∧ Run w0 w gb gdb Mb Rb Nb σb db ∧ (∀ k, Mb k ∨ Rb k ∨ k = gb → Na k) ∧ (∀ k, Ma k ∨ Ra k ∨ k = ga → Nb k)
section
variable {w0 w w' w2 w3 w4 : World} {ga gda gb gdb : Nat} {σa σb : Sp} {da db : Dp}
theorem Two.swap (h : Two w0 w ga gda σa da gb gdb σb db) : Two w0 w gb gdb σb db ga gda σa da := by
  obtain ⟨Ma, Ra, Na, Mb, Rb, Nb, ra, rb, h1, h2⟩ := h.ex
  exact ⟨Mb, Rb, Nb, Ma, Ra, Na, rb, ra, h2, h1⟩
theorem Two.nil (h : Two w0 w ga gda σa da gb gdb σb db) (hc : Chg Nil w w') : Two w0 w' ga gda σa da gb gdb σb db := by
  obtain ⟨Ma, Ra, Na, Mb, Rb, Nb, ra, rb, h1, h2⟩ := h.ex
  exact ⟨Ma, Ra, Na, Mb, Rb, Nb, ra.nil hc, rb.nil hc, h1, h2⟩
theorem Two.chg (h : Two w0 w ga gda σa da gb gdb σb db) : Chg Nil w0 w := by
  obtain ⟨Ma, Ra, Na, Mb, Rb, Nb, ra, rb, h1, h2⟩ := h.ex
  exact ra.chg
theorem Run.lt {gs gd : Nat} {M R N : Nat → Prop} {σ : Sp} {d : Dp} (h : Run w0 w gs gd M R N σ d) : ∀ k, M k ∨ R k ∨ k = gs → k < w.heap.size := by
  obtain ⟨A, c, st⟩ := h.st
  intro k hk
  rcases hk with hk | hk | hk
  · exact st.dk.lt k (.inl hk)
  · exact st.dk.lt k (.inr hk)
  · rw [hk]; exact st.bk.lt
theorem Two.applyL (h : Two w0 w ga gda σa da gb gdb σb db) (B : Option Addr) (m mc : Nat) (ops : List Oq) (ho : RdO w (fun k => k < w0.heap.size) B m ops) (hmc : m ≤ mc) (hcm : mc ≤ maxLen) (hlong : da.waits.length ≤ 1000000) :
    Calls Try.prog 14 #[.pointer (some ⟨ga, 0, none⟩), .slice B m mc] w fun e w' => e = .returned (.int .i64 ((applyP σa da ops).2.2 : Int)) ∧ Two w0 w' ga gda (applyP σa da ops).1 (applyP σa da ops).2.1 gb gdb σb db := by
  obtain ⟨Ma, Ra, Na, Mb, Rb, Nb, ra, rb, h1, h2⟩ := h.ex
  refine (ra.applyC B m mc ops ho hmc hcm hlong).mono ?_
  rintro e w1 ⟨M1, R1, he, r1, hw⟩
  refine ⟨he, M1, R1, Na, Mb, Rb, _, r1, rb.grow hw.chg (fun k _ hk => h2 k (hk.elim .inl (fun hk => .inr (.inr hk)))) (fun k hk => ra.low k (hk.elim .inl (fun hk => .inr (.inr hk)))), h1, fun k hk => ?_⟩
  rcases Nat.lt_or_ge k w.heap.size with hlt | hge
  · refine .inl (h2 k ?_)
    rcases hk with hk | hk | hk
    · exact .inl (hw.m k hlt hk)
    · exact .inr (.inl (hw.r k hlt hk))
    · exact .inr (.inr hk)
  · exact .inr ⟨hge, r1.lt k hk⟩
theorem Two.applyR (h : Two w0 w ga gda σa da gb gdb σb db) (B : Option Addr) (m mc : Nat) (ops : List Oq) (ho : RdO w (fun k => k < w0.heap.size) B m ops) (hmc : m ≤ mc) (hcm : mc ≤ maxLen) (hlong : db.waits.length ≤ 1000000) :
    Calls Try.prog 14 #[.pointer (some ⟨gb, 0, none⟩), .slice B m mc] w fun e w' => e = .returned (.int .i64 ((applyP σb db ops).2.2 : Int)) ∧ Two w0 w' ga gda σa da gb gdb (applyP σb db ops).1 (applyP σb db ops).2.1 := by
  refine (h.swap.applyL B m mc ops ho hmc hcm hlong).mono ?_
  rintro e w1 ⟨he, h1⟩
  exact ⟨he, h1.swap⟩
theorem Two.new {Ma Ra Na M R : Nat → Prop} {d0 : Dp} {e : Ending} (ra : Run w0 w2 ga gda Ma Ra Na σa da) (c : Chg Nil w2 w3) (hd : Dk w3 gdb M R d0) (low : ∀ k, M k ∨ R k → w2.heap.size ≤ k) (ho : OpenIs w3 gdb M R (db, 0) σb e w4) :
    ∃ gb, e = .returned (.tuple #[.pointer (some ⟨gb, 0, none⟩), .int .i64 0]) ∧ Two w0 w4 ga gda σa da gb gdb σb db := by
  have hlv : Live w2 w3 gdb M R d0 := ⟨c, hd, low⟩
  obtain ⟨Mx, Rx, hw, _⟩ := id ho
  rcases hlv.opened ho with ⟨_, gb, Mb, Rb, he, rb⟩ | ⟨h9, _⟩
  · have r3 := ra.more c
    have r4 := r3.grow hw.chg (fun k hk hm => .inr ⟨low k (.inl hm), hk⟩) (fun k hm => Nat.le_trans ra.chg.size (low k (.inl hm)))
    have s2 := ra.chg.size
    have s3 := c.size
    refine ⟨gb, he, Ma, Ra, _, Mb, Rb, _, r4, ⟨r4.chg, rb.st, fun k hk => Nat.le_trans s2 (rb.low k hk)⟩, fun k hk => ?_, fun k hk => ?_⟩
    · have h1 := rb.low k hk
      have h2 := rb.lt k hk
      rcases Nat.lt_or_ge k w3.heap.size with hlt | hge
      · exact .inl (.inr ⟨h1, hlt⟩)
      · exact .inr ⟨hge, h2⟩
    · have h1 := ra.lt k hk
      exact ⟨by omega, fun hm => by have := low k hm; omega⟩
  · exact absurd h9 (by simp)
end
/-- The plain law. -/
theorem split_plain (G : List Oq) (k : Nat) (D1 : Dp) (hall : ∀ o ∈ G, o.ok = true) (hl : G.length ≤ 60) (hk : 0 < k) (hk2 : k < G.length) (hf : D1.free) (hm : D1.waits.length ≤ 1000) :
    ∃ σa da σ1 d1 σb db, applyP (freshS 1500 3000) D1 G = (σa, da, 0) ∧ applyP (freshS 1500 3000) D1 (G.take k) = (σ1, d1, 0) ∧ applyP σ1 d1 (G.drop k) = (σb, db, 0) ∧ d1.waits.length ≤ 1000000 ∧
      σa.pts = σb.pts ∧ σa.u = 1 ∧ σb.u = 2 ∧ σa.log - σa.used = (σb.log - σb.used) + 13 ∧ σb.log - σb.used ≤ 3000 := by
  have hb : ∀ X : List Oq, (∀ o ∈ X, o.ok = true) → X.length ≤ 60 → 0 < X.length → batE X = 0 := fun X hX h1 h2 => by
    rw [batE_all (by omega) (fun j o ho => hX o (List.mem_of_getElem? ho)), if_neg (by omega)]
  have hGl := batB_len G
  have hTl := batB_len (G.take k)
  have hDl := batB_len (G.drop k)
  have hcat : batB G = batB (G.take k) ++ batB (G.drop k) := by
    unfold batB
    rw [← List.flatMap_append, List.take_append_drop]
  have hcl : (batB G).length = (batB (G.take k)).length + (batB (G.drop k)).length := by rw [hcat, List.length_append]
  have e1 : applyE (freshS 1500 3000) G = 0 := applyE_zero rfl (hb G hall hl (by omega)) (by
    have := do_len G [] up_nil
    show (doP [] G).length ≤ 2000
    simp at this
    omega) (by show 0 + ((batB G).length + 13) ≤ 3000; omega) (by show (0 : Nat) < _; omega)
  have e2 : applyE (freshS 1500 3000) (G.take k) = 0 := applyE_zero rfl (hb _ (fun o ho => hall o (List.mem_of_mem_take ho)) (by rw [List.length_take]; omega) (by rw [List.length_take]; omega)) (by
    have := do_len (G.take k) [] up_nil
    show (doP [] (G.take k)).length ≤ 2000
    rw [List.length_take] at this
    simp at this
    omega) (by show 0 + ((batB (G.take k)).length + 13) ≤ 3000; rw [List.length_take] at hTl; omega) (by show (0 : Nat) < _; omega)
  have hd1 : doP (doP [] (G.take k)) (G.drop k) = doP [] G := by rw [← doP_app, List.take_append_drop]
  have a1 := applyP_zero (d := D1) e1 hf.dead
  have a2 := applyP_zero (d := D1) e2 hf.dead
  refine ⟨_, _, _, _, ⟨1500, 3000, -1, 1, 2, doP [] G, (batB (G.take k)).length + 13 + ((batB (G.drop k)).length + 13), false⟩, (D1.write (2 * 1500 + 0) (recB 1 (batB (G.take k)))).write (2 * 1500 + (0 + ((batB (G.take k)).length + 13))) (recB 1 (batB (G.drop k))), a1, a2, ?_, ?_, rfl, rfl, rfl, ?_, ?_⟩
  · have e3 : applyE ({ freshS 1500 3000 with pts := doP (freshS 1500 3000).pts (G.take k), u := (freshS 1500 3000).u + 1, used := (freshS 1500 3000).used + ((batB (G.take k)).length + 13) } : Sp) (G.drop k) = 0 :=
      applyE_zero rfl (hb _ (fun o ho => hall o (List.mem_of_mem_drop ho)) (by rw [List.length_drop]; omega) (by rw [List.length_drop]; omega)) (by
        show (doP (doP [] (G.take k)) (G.drop k)).length ≤ 2000
        rw [hd1]
        have := do_len G [] up_nil
        simp at this
        omega) (by
        show 0 + ((batB (G.take k)).length + 13) + ((batB (G.drop k)).length + 13) ≤ 3000
        omega) (by show (1 : Nat) < _; omega)
    rw [applyP_zero e3 (Dp.free_write hf _ _).dead]
    show (_, _, 0) = _
    congr 1
    show Sp.mk 1500 3000 (-1) 1 2 (doP (doP [] (G.take k)) (G.drop k)) (0 + ((batB (G.take k)).length + 13) + ((batB (G.drop k)).length + 13)) false = _
    rw [hd1, Nat.zero_add]
  · show (D1.waits ++ [(_, _)]).length ≤ _
    rw [List.length_append, List.length_singleton]
    omega
  · show 3000 - (0 + ((batB G).length + 13)) = 3000 - ((batB (G.take k)).length + 13 + ((batB (G.drop k)).length + 13)) + 13
    omega
  · show 3000 - _ ≤ 3000
    omega
set_option maxHeartbeats 4000000 in
set_option maxRecDepth 100000 in
theorem storeSplit_walk (A : Option Addr) (n c : Nat) (l : List Oq) (at_ : Int) (w : World) (hr : RdO w (fun k => k < w.heap.size) A n l) (hn : n ≤ maxLen) :
    Calls Try.prog 4 #[.slice A n c, .int .i64 at_] w fun e w' => e = .returned (.bool true) ∧ Chg Nil w w' := by
  have hn' : n ≤ 9223372036854775807 := by have h := hn; unfold maxLen at h; omega
  have hl := hr.len
  obtain ⟨i0, hi, hz0, hz1, hz2⟩ := info_parts Try.infoOp5
  have hnl : (Dp.new 6000).now.length = 6000 := new_len (n := 6000) (by omega)
  have o1 : Opened (Dp.new 6000) (freshS 1500 3000) (freshS 1500 3000) [] := opened_new (n := 6000) (by omega) (by omega) (by omega)
  have hN := fun W => dnew_any 6000 W
  have hO1 := fun {g : Nat} {M R : Nat → Prop} {w1 : World} (h : Dk w1 g M R (Dp.new 6000)) => open_any h 1500 3000 (by omega) (by rw [hnl]; omega) (by show (0 : Nat) ≤ _; omega)
  have e1 : openD (Dp.new 6000) 1500 3000 = ((openD (Dp.new 6000) 1500 3000).1, 0) := Prod.ext rfl o1.res
  have e2 : openS (Dp.new 6000) 1500 3000 = freshS 1500 3000 := o1.openS
  have f1 : (openD (Dp.new 6000) 1500 3000).1.free := o1.free
  have m1 : (openD (Dp.new 6000) 1500 3000).1.waits.length ≤ 0 := o1.inv.many
  rw [e2, e1] at hO1
  generalize (openD (Dp.new 6000) 1500 3000).1 = D1 at *
  have hand := i64_and_65535 at_
  obtain ⟨D, hD⟩ : ∃ D : Nat, (at_ % 65536).toNat = D := ⟨_, rfl⟩
  rw [hD] at hand
  clear hD
  have HH := Hid.mk (And.intro hN (And.intro (@hO1) (And.intro f1 m1)))
  have HR := Hid.mk hr
  clear hN hO1 e1 e2 o1 hnl f1 m1 hr
  go_enter Try.func4, Try.ntmps4
  go_wp2_with fail
  go_loopw [5, 6] (fun out i wr => ∃ k : Nat, k ≤ n ∧ k ≤ 60 ∧ i = .int .i64 (k : Int) ∧ Chg Nil w wr ∧ wr.ownsRow w.heap.size 32 5 out (goodL (l.take k)).length ((goodL (l.take k)).flatMap Oq.cs)) (fun _ i _ => 60 - (intOf i).toNat)
  case atStart => exact ⟨0, Nat.zero_le _, Nat.zero_le _, rfl, Chg.refl _ _, ⟨rfl, .inl ⟨rfl, rfl⟩⟩⟩
  case round =>
    obtain ⟨k, hk, hk60, rfl, hch, hown⟩ := hrel
    have hgl := goodL_len (l.take k)
    rw [List.length_take, Nat.min_eq_left (by omega)] at hgl
    obtain ⟨G, gc, rfl, hgc, hgm⟩ := own_form hown
    by_cases hlt : k < n ∧ k < 60
    · obtain ⟨hltn, hlt60⟩ := hlt
      obtain ⟨b, off, rfl, _, hat⟩ := HR.out.at5 (by omega)
      have ho : l[k]? = some (l[k]'(by omega)) := List.getElem?_eq_getElem (by omega)
      generalize l[k]'(by omega) = o at ho
      have hstep := goodL_take l k o ho
      have HO := Hid.mk (fun W => ropOk_any o W)
      have HB := Hid.mk (fun W => rdo_one W o)
      generalize hb : o.ok = bo at *
      obtain ⟨kd, ky, x, y, v⟩ := o
      simp only [Oq.cs, Pt.cs] at HO HB
      obtain ⟨c0, c1, c2, c3, c4⟩ := hat wr hch k kd ky x y v ho
      generalize hX : goodL (l.take k) = X at *
      have HK := Hid.mk (And.intro hch (And.intro hown (And.intro hat (And.intro ho hstep))))
      clear hch hown hat ho hstep
      go_wp2_with fail
      refine (HO.out _).mono ?_
      rintro e w1 ⟨rfl, hc1⟩
      have H1 := Hid.mk (And.intro (HK.out.1.trans hc1 (fun _ _ h => h)) (own_keep HK.out.2.1 hc1 (fun _ _ h => h)))
      obtain ⟨d0, d1, d2, d3, d4⟩ := HK.out.2.2.1 w1 H1.out.1 k kd ky x y v HK.out.2.2.2.1
      clear hc1
      cases bo
      · go_wp2_with fail
        go_roundw
        case rel => exact ⟨k + 1, by omega, by omega, by go_num, H1.out.1, by rw [HK.out.2.2.2.2]; simpa using H1.out.2⟩
        case measure => simp [intOf]; omega
      · go_wp2_with (at_builtin; refine wpl_append rfl (.tmp 30) (.tmp 35) 28 rfl w.heap.size 32 i0 _ 5 40 Try.underlying28 hi hz0 hz1 hz2 rfl (by omega) _ X.length _ rfl (own_keep H1.out.2 ((Chg.refl Nil w1).alloc _) (fun _ _ h => h)) _ (some ⟨w1.heap.size, 0, none⟩) 1 1 _ rfl (HB.out w1) (ops_one _) (by simp only [maxLen]; omega) (by omega) (by have := H1.out.1.size; simp; omega) ?_; intro v2 w2 o2 g2; have H2 := Hid.mk (And.intro o2 g2); clear o2 g2)
        go_roundw
        case rel =>
          refine ⟨k + 1, by omega, by omega, by go_num, ?_, ?_⟩
          · exact (H1.out.1.trans ((Chg.refl Nil w1).alloc _) (fun _ _ h => h)).trans H2.out.2.chg (fun i hi hm => by
              have := own_ge H1.out.2 i hm
              omega)
          · rw [HK.out.2.2.2.2]
            have := H2.out.1
            simpa using this
        case measure => simp [intOf]; omega
    · have hx : ¬ k < n ∨ (k < n ∧ ¬ k < 60) := by omega
      have hoks := goodL_oks (l.take k)
      generalize goodL (l.take k) = X at *
      have hXl : X.length ≤ 60 := by omega
      have HK := Hid.mk (And.intro hch (And.intro hown hoks))
      clear hch hown hoks hlt HR
      by_cases h2 : X.length < 2
      · rcases hx with hx | ⟨hx, hx2⟩
        all_goals
          go_wp2_with fail
          refine (awake15_any wr).mono ?_
          rintro e w5 ⟨rfl, c5⟩
          have H5 := Hid.mk (HK.out.1.trans c5 (fun _ _ h => h))
          clear c5
          go_wp2_with fail
          go_ret
          exact ⟨rfl, H5.out⟩
      · obtain ⟨L1, hL1⟩ : ∃ L1, L1 = X.length - 1 := ⟨_, rfl⟩
        have hL1i : (X.length : Int) - 1 = (L1 : Int) := by omega
        obtain ⟨ix, hix⟩ : ∃ ix : Nat, D % L1 = ix := ⟨_, rfl⟩
        have hixl : ix < L1 := by rw [← hix]; exact Nat.mod_lt _ (by omega)
        have hixi : (D : Int) % ((X.length : Int) - 1) = (ix : Int) := by rw [hL1i, ← hix]; simp
        obtain ⟨K, hK⟩ : ∃ K, K = ix + 1 := ⟨_, rfl⟩
        have hKi : (ix : Int) + 1 = (K : Int) := by omega
        have hKX : K < X.length := by omega
        have hK0 : 0 < K := by omega
        obtain ⟨σa, da, σ1, d1, σb, db, p1, p2, p3, p4, p5, p6, p7, p8, p9⟩ := split_plain X K D1 HK.out.2.2 hXl hK0 hKX HH.out.2.2.1 (by have := HH.out.2.2.2; omega)
        have HP := Hid.mk (And.intro p1 (And.intro p2 (And.intro p3 (And.intro p4 (And.intro p5 (And.intro p6 (And.intro p7 (And.intro p8 p9))))))))
        clear hix hL1i p1 p2 p3 p4 p5 p6 p7 p8 p9
        have hcut := fun W => run_cut_from (P := Try.prog) 28 32 i0 5 Try.underlying28 hi hz1 G X.length gc K .i64 (by omega) W
        have hik : K ≤ gc := by omega
        have hiz : (0 : Int) ≤ (K : Int) := by omega
        have hiz2 : (K : Int) ≤ (gc : Int) := by omega
        have HKI := Hid.mk hKi
        have hix60 : ix ≤ 60 := by omega
        clear hKi hK
        rcases hx with hx | ⟨hx, hx2⟩
        all_goals
          go_wp2_with fail
          rw [HKI.out]
          refine (HH.out.1 wr).mono ?_
          rintro e w1 ⟨gda, M, R, rfl, c1, d1k, low1⟩
          have H1 := Hid.mk (Live.mk c1 d1k low1)
          clear c1 d1k low1
          go_wp2_with fail
          refine (HH.out.2.1 H1.out.dk).mono ?_
          rintro e w2 ho
          rcases H1.out.opened ho with ⟨_, ga, M2, R2, rfl, r2⟩ | ⟨h9, _⟩
          rotate_left
          · exact absurd h9 (by simp)
          have H2 := Hid.mk r2
          clear r2 ho
          go_wp2_with fail
          refine (HH.out.1 w2).mono ?_
          rintro e w3 ⟨gdb, M3, R3, rfl, c3, d3, low3⟩
          have H3 := Hid.mk (And.intro c3 (And.intro d3 low3))
          clear c3 d3 low3
          go_wp2_with fail
          refine (HH.out.2.1 H3.out.2.1).mono ?_
          rintro e w4 ho
          obtain ⟨gb, rfl, t4⟩ := Two.new H2.out H3.out.1 H3.out.2.1 H3.out.2.2 ho
          have H4 := Hid.mk t4
          clear t4 ho
          go_wp2_with fail
          have hrow := fun W (hW : Chg Nil wr W) => own_keep HK.out.2.1 hW (fun _ _ h => h)
          have hlow := fun k (hk : Own (.slice G X.length gc) k) => own_lt HK.out.2.1 k hk
          have hcl := fun k (hk : Own (.slice G X.length gc) k) => own_lt HK.out.2.1 k hk
          have hA1 : ∀ W, Chg Nil w4 W → Calls Try.prog 14 #[.pointer (some ⟨ga, 0, none⟩), .slice G X.length gc] W fun e w' => e = .returned (.int .i64 0) ∧ Two wr w' ga gda σa da gb gdb (freshS 1500 3000) D1 := fun W hW => by
            have h := (H4.out.nil hW).applyL G X.length gc X ((show RdO W _ G X.length X from Rds.of_own (hrow W (H4.out.chg.trans hW (fun _ _ h => h)))).wider (fun k _ hk => hlow k hk) (by omega)) hgc hgm (by have := HH.out.2.2.2; omega)
            rw [HP.out.1] at h
            exact h
          have hA2 : ∀ W, Two wr W ga gda σa da gb gdb (freshS 1500 3000) D1 → Calls Try.prog 14 #[.pointer (some ⟨gb, 0, none⟩), .slice G K gc] W fun e w' => e = .returned (.int .i64 0) ∧ Two wr w' ga gda σa da gb gdb σ1 d1 := fun W h => by
            have h := h.applyR G K gc (X.take K) ((show RdO W _ G K (X.take K) from (show RdO W _ G X.length X from Rds.of_own (hrow W h.chg)).front (by omega)).wider (fun k _ hk => hlow k hk) (by omega)) (by omega) hgm (by have := HH.out.2.2.2; omega)
            rw [HP.out.2.1] at h
            exact h
          have hA3 : ∀ W, Two wr W ga gda σa da gb gdb σ1 d1 → Calls Try.prog 14 #[.pointer (some ⟨gb, 0, none⟩), .slice (cutA 5 G gc K) (X.length - K) (gc - K)] W fun e w' => e = .returned (.int .i64 0) ∧ Two wr w' ga gda σa da gb gdb σb db := fun W h => by
            have h := h.applyR (cutA 5 G gc K) (X.length - K) (gc - K) (X.drop K) ((show RdO W _ (cutA 5 G gc K) (X.length - K) (X.drop K) from (show RdO W _ G X.length X from Rds.of_own (hrow W h.chg)).back (by omega) hgc).wider (fun k _ hk => hcl k hk) (by omega)) (by omega) (by omega) HP.out.2.2.2.1
            rw [HP.out.2.2.1] at h
            exact h
          generalize cutA 5 G gc K = CA at *
          have HA := Hid.mk (And.intro hA1 (And.intro hA2 hA3))
          clear hrow hlow hcl hA1 hA2 hA3
          go_region_with (first
            | ((with_reducible refine (HA.out.1 _ (by first | exact Chg.refl _ _ | exact (Chg.refl Nil w4).drew)).mono ?_); rintro e w5 ⟨rfl, t5⟩; have H5 := Hid.mk t5; clear t5)
            | ((with_reducible refine (HA.out.2.1 _ H5.out).mono ?_); rintro e w6 ⟨rfl, t6⟩; have H6 := Hid.mk t6; clear t6)
            | ((with_reducible refine (HA.out.2.2 _ H6.out).mono ?_); rintro e w7 ⟨rfl, t7⟩; have H7 := Hid.mk t7; clear t7))
          obtain ⟨Ma, Ra, Na, Mb, Rb, Nb, ra, rb, _, _⟩ := H7.out.ex
          have H8 := Hid.mk (And.intro ra rb)
          clear ra rb
          go_wp2_with fail
          refine H8.out.1.pointsC.mono ?_
          rintro e w9 ⟨A9, k9, rfl, _, q9, c9⟩
          have H9 := Hid.mk (And.intro (H8.out.1.nil c9) (And.intro (H8.out.2.nil c9) q9))
          clear c9 q9
          go_wp2_with fail
          refine H9.out.2.1.pointsC.mono ?_
          rintro e w10 ⟨A10, k10, rfl, _, q10, c10⟩
          have hsp := samePts_eqB A9 A10 _ _ k9 k10 σa.pts σb.pts _ _ w10 (H9.out.2.2.keep c10 (fun _ _ h => h)) q10 (by have := H9.out.1.st.ok.len; omega) (by have := H9.out.2.1.st.ok.len; omega)
          rw [eqB_true HP.out.2.2.2.2.1] at hsp
          have H10 := Hid.mk (And.intro (H9.out.1.nil c10) (H9.out.2.1.nil c10))
          clear c10 q10
          go_wp2_with fail
          refine hsp.mono ?_
          rintro e w11 ⟨rfl, c11⟩
          have H11 := Hid.mk (And.intro (H10.out.1.nil c11) (H10.out.2.nil c11))
          clear c11 hsp
          have hu1 : (σa.u : Int) = 1 := by have := HP.out.2.2.2.2.2.1; omega
          have hu2 : (σb.u : Int) = 2 := by have := HP.out.2.2.2.2.2.2.1; omega
          have HU := Hid.mk (And.intro hu1 hu2)
          clear hu1 hu2
          obtain ⟨Rm, hRm⟩ : ∃ Rm, Rm = σb.log - σb.used := ⟨_, rfl⟩
          have hr1 : ((σa.log - σa.used : Nat) : Int) = (Rm : Int) + 13 := by have := HP.out.2.2.2.2.2.2.2.1; omega
          have hr2 : ((σb.log - σb.used : Nat) : Int) = (Rm : Int) := by rw [hRm]
          have hRm3 : Rm ≤ 3000 := by rw [hRm]; exact HP.out.2.2.2.2.2.2.2.2
          have HM := Hid.mk (And.intro hr1 hr2)
          clear hr1 hr2 hRm
          go_wp2_with fail
          refine (H11.out.1.uIs HU.out.1).mono ?_
          rintro e w12 ⟨rfl, he⟩
          have he' := he.symm
          subst he'
          clear he
          go_wp2_with fail
          refine (H11.out.2.uIs HU.out.2).mono ?_
          rintro e w12 ⟨rfl, he⟩
          have he' := he.symm
          subst he'
          clear he
          go_wp2_with fail
          refine (H11.out.1.roomIs HM.out.1).mono ?_
          rintro e w12 ⟨rfl, c12⟩
          have H12 := Hid.mk (H11.out.2.nil c12)
          clear c12
          go_wp2_with fail
          refine (H12.out.roomIs HM.out.2).mono ?_
          rintro e w13 ⟨rfl, c13⟩
          have H13 := Hid.mk (H12.out.chg.trans c13 (fun _ _ h => h))
          clear c13
          go_wp2_with fail
          refine (awake15_any w13).mono ?_
          rintro e w14 ⟨rfl, c14⟩
          have H14 := Hid.mk ((HK.out.1.trans H13.out (fun _ _ h => h)).trans c14 (fun _ _ h => h))
          clear c14
          go_wp2_with fail
          go_ret
          exact ⟨rfl, H14.out⟩

end Go.Proofs.Ytanipieeegeheaa
