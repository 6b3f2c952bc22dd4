/- Joined for this seat from: XStG. -/
import Derived.Test.YtanipieeegeheaaSy
namespace Go.Proofs.Ytanipieeegeheaa
open Go.RowKit

section
variable {w : World} {gs gd : Nat} {M R N : Nat → Prop} {A : Option Addr} {c : Nat} {σ : Sp} {d : Dp}
/-- What a call of a store answers. -/
def StIs (w : World) (gs gd : Nat) (M R N : Nat → Prop) (r : Sp × Dp × Nat) (e : Ending) (w' : World) : Prop :=
  ∃ M' R', e = .returned (.int .i64 (r.2.2 : Int)) ∧ WentS w w' gs M R M' R' ∧ St w' gs gd M' R' N r.1 r.2.1
set_option maxHeartbeats 2000000 in
set_option maxRecDepth 100000 in
theorem stApply_no (h : StAt w gs gd M R N A c σ d) (B : Option Addr) (m mc : Nat) (ops : List Oq) (S : Nat → Prop) (ho : RdO w S B m ops) (hmc : m ≤ mc) (hcm : mc ≤ maxLen) (he : applyE σ ops ≠ 0) :
    Calls Try.prog 14 #[.pointer (some ⟨gs, 0, none⟩), .slice B m mc] w fun e w' => e = .returned (.int .i64 (applyE σ ops : Int)) ∧ Chg Nil w w' := by
  have h8 := h.cells.2.2.2.2.2.2.2.2
  unfold applyE at he ⊢
  cases hb : σ.broken with
  | true =>
    rw [hb] at h8
    simp only [if_true]
    clear h ho he
    go_enter Try.func14, Try.ntmps14
    go_wp2_with fail
    go_ret
    exact ⟨rfl, Chg.refl _ _⟩
  | false =>
    rw [hb] at h8 he
    simp only [Bool.false_eq_true, if_false] at he ⊢
    by_cases hbe : batE ops = 0
    · rw [if_neg (by omega)] at he ⊢
      have hBt := batch_ok B m mc ops S w ho hmc hcm hbe
      have hbl : (batB ops).length ≤ 400000 := by have := batB_len ops; have := batE_len hbe; omega
      have hm5 := batE_len hbe
      have hml := ho.len
      have hg1 := h.ok.gen1
      have hg2 := h.ok.gen2
      have hpu := fun (A : Option Addr) (cc : Nat) (S : Nat → Prop) (W : World) (hr : RdB W S A (batB ops).length (batB ops)) => put_ok σ.gen A cc _ (batB ops) S W hr hg1 hg2 hbl
      have hAp := fun W (hW : Chg Nil w W) => apply_any A B σ.pts.length c m mc σ.pts ops _ (fun k => S k ∧ k < w.heap.size) W (h.nil hW).kept.rd (Rds.keep (Rds.here ho (by omega)) hW (fun _ _ h => h)) (by have := h.ok.len; omega) (by omega) h.ok.up
      have hdl := do_len ops σ.pts h.ok.up
      have hl20 := h.ok.len
      have hC := fun W (hW : Chg Nil w W) => (h.nil hW).cells
      have hRm := fun W (hW : Chg Nil w W) => stRoom_any (h.nil hW)
      have hu := h.ok.u
      obtain ⟨bn, hbn⟩ : ∃ bn, bn = (batB ops).length := ⟨_, rfl⟩
      rw [← hbn] at hbl hpu hBt he ⊢
      have hru : σ.log ≤ 1000000 ∧ σ.used ≤ σ.log := ⟨(h.ok.small h.dk.ok).2.1, h.ok.used⟩
      obtain ⟨G, hG⟩ : ∃ G, G = σ.gen := ⟨_, rfl⟩
      rw [← hG] at hg1 hg2 hpu
      obtain ⟨K, hK⟩ : ∃ K, K = (doP σ.pts ops).length := ⟨_, rfl⟩
      obtain ⟨U, hU⟩ : ∃ U, U = σ.u := ⟨_, rfl⟩
      obtain ⟨LG, hLG⟩ : ∃ LG, LG = σ.log := ⟨_, rfl⟩
      obtain ⟨US, hUS⟩ : ∃ US, US = σ.used := ⟨_, rfl⟩
      rw [← hK, ← hU, ← hLG, ← hUS] at he ⊢
      rw [← hK] at hdl
      rw [← hU] at hu
      rw [← hLG, ← hUS] at hru
      have hRm : ∀ W, Chg Nil w W → Calls Try.prog 22 #[.pointer (some ⟨gs, 0, none⟩)] W fun e w' => e = .returned (.int .i64 ((LG - US : Nat) : Int)) ∧ Chg Nil W w' := fun W hW => by rw [hLG, hUS]; exact hRm W hW
      have hAp : ∀ W, Chg Nil w W → Calls Try.prog 49 #[.slice A σ.pts.length c, .slice B m mc] W fun e w' => ∃ v', e = .returned v' ∧ w'.ownsRow W.heap.size 30 4 v' K ((doP σ.pts ops).flatMap Pt.cs) ∧ Chg Nil W w' := fun W hW => by rw [hK]; exact hAp W hW
      have hC5 : ∀ W, Chg Nil w W → W.cell? ⟨gs, 5, none⟩ = some (.int .u64 (U : Int)) := fun W hW => by rw [hU]; exact (hC W hW).2.2.2.2.2.1
      have HH := Hid.mk (And.intro hpu (And.intro hAp (And.intro hC (And.intro hRm (And.intro hG hC5)))))
      have HB := Hid.mk hBt
      clear hpu hAp hC hRm hG hbn hBt h ho hbe hmc hcm hml hC5 hK hU hLG hUS
      by_cases hbig : 2000 < K
      · rw [if_pos hbig]
        have hd : decide ((2000 : Int) < (K : Int)) = true := decide_eq_true (by omega)
        clear he
        go_enter Try.func14, Try.ntmps14
        go_wp2_with fail
        refine HB.out.mono ?_
        rintro e w1 ⟨v1, rfl, c1, o1⟩
        obtain ⟨A1, k1, rfl, _, _⟩ := own_form o1
        have hc4 := (HH.out.2.2.1 w1 c1).2.2.2.2.1
        rw [← HH.out.2.2.2.2.1] at hc4
        have hpu := HH.out.1 A1 k1 _ w1 (Rds.of_own o1)
        have H1 := Hid.mk (And.intro c1 hpu)
        clear c1 hpu o1
        go_wp2_with fail
        refine H1.out.2.mono ?_
        rintro e w2 ⟨v2, rfl, o2, b2⟩
        obtain ⟨A2, k2, rfl, _, _⟩ := own_form o2
        have c2 : Chg Nil w w2 := H1.out.1.trans (Chg.of_below' b2) (fun _ _ h => h)
        have hc6 := (HH.out.2.2.1 w2 c2).2.2.2.2.2.2.1
        have H2 := Hid.mk (And.intro c2 (HH.out.2.1 w2 c2))
        clear c2 b2 o2
        go_wp2_with fail
        refine H2.out.2.mono ?_
        rintro e w3 ⟨v3, rfl, o3, c3⟩
        obtain ⟨A3, k3, rfl, _, _⟩ := own_form o3
        have hc03 : Chg Nil w w3 := H2.out.1.trans c3 (fun _ _ h => h)
        have H3 := Hid.mk (And.intro hc03 (HH.out.2.2.2.1 w3 hc03))
        have hc5 := fun W (hW : Chg Nil w3 W) => HH.out.2.2.2.2.2 W (hc03.trans hW (fun _ _ h => h))
        have HC5 := Hid.mk hc5
        clear o3 c3 hc03 hc5
        go_wp2_with fail
        go_ret
        exact ⟨rfl, H3.out.1⟩
      · rw [if_neg hbig] at he ⊢
        have hd : decide ((2000 : Int) < (K : Int)) = false := decide_eq_false (by omega)
        have hcc : LG < US + (bn + 13) ∨ 4611686018427387904 ≤ U := by
          by_cases h : LG < US + (bn + 13) ∨ 4611686018427387904 ≤ U
          · exact h
          · rw [if_neg h] at he; exact absurd rfl he
        rw [if_pos hcc]
        clear he
        obtain ⟨RM, hRM⟩ : ∃ RM, RM = LG - US := ⟨_, rfl⟩
        by_cases hroom : LG < US + (bn + 13)
        · have hd2 : decide ((RM : Int) < (bn : Int) + 13) = true := decide_eq_true (by omega)
          have HRM := Hid.mk hRM
          clear hcc hRM
          go_enter Try.func14, Try.ntmps14
          go_wp2_with fail
          refine HB.out.mono ?_
          rintro e w1 ⟨v1, rfl, c1, o1⟩
          obtain ⟨A1, k1, rfl, _, _⟩ := own_form o1
          have hc4 := (HH.out.2.2.1 w1 c1).2.2.2.2.1
          rw [← HH.out.2.2.2.2.1] at hc4
          have hpu := HH.out.1 A1 k1 _ w1 (Rds.of_own o1)
          have H1 := Hid.mk (And.intro c1 hpu)
          clear c1 hpu o1
          go_wp2_with fail
          refine H1.out.2.mono ?_
          rintro e w2 ⟨v2, rfl, o2, b2⟩
          obtain ⟨A2, k2, rfl, _, _⟩ := own_form o2
          have c2 : Chg Nil w w2 := H1.out.1.trans (Chg.of_below' b2) (fun _ _ h => h)
          have hc6 := (HH.out.2.2.1 w2 c2).2.2.2.2.2.2.1
          have H2 := Hid.mk (And.intro c2 (HH.out.2.1 w2 c2))
          clear c2 b2 o2
          go_wp2_with fail
          refine H2.out.2.mono ?_
          rintro e w3 ⟨v3, rfl, o3, c3⟩
          obtain ⟨A3, k3, rfl, _, _⟩ := own_form o3
          have hc03 : Chg Nil w w3 := H2.out.1.trans c3 (fun _ _ h => h)
          have H3 := Hid.mk (And.intro hc03 (HH.out.2.2.2.1 w3 hc03))
          have hc5 := fun W (hW : Chg Nil w3 W) => HH.out.2.2.2.2.2 W (hc03.trans hW (fun _ _ h => h))
          have HC5 := Hid.mk hc5
          clear o3 c3 hc03 hc5
          have h3 := H3.out.2
          rw [← HRM.out] at h3
          have H3b := Hid.mk h3
          clear h3
          go_wp2_with fail
          refine H3b.out.mono ?_
          rintro e w4 ⟨rfl, c4⟩
          have H4 := Hid.mk (H3.out.1.trans c4 (fun _ _ h => h))
          clear c4
          go_wp2_with fail
          go_ret
          exact ⟨rfl, H4.out⟩
        · have hd2 : decide ((RM : Int) < (bn : Int) + 13) = false := decide_eq_false (by omega)
          have hd3 : decide ((4611686018427387904 : Int) ≤ (U : Int)) = true := decide_eq_true (by omega)
          have HRM := Hid.mk hRM
          clear hcc hRM
          go_enter Try.func14, Try.ntmps14
          go_wp2_with fail
          refine HB.out.mono ?_
          rintro e w1 ⟨v1, rfl, c1, o1⟩
          obtain ⟨A1, k1, rfl, _, _⟩ := own_form o1
          have hc4 := (HH.out.2.2.1 w1 c1).2.2.2.2.1
          rw [← HH.out.2.2.2.2.1] at hc4
          have hpu := HH.out.1 A1 k1 _ w1 (Rds.of_own o1)
          have H1 := Hid.mk (And.intro c1 hpu)
          clear c1 hpu o1
          go_wp2_with fail
          refine H1.out.2.mono ?_
          rintro e w2 ⟨v2, rfl, o2, b2⟩
          obtain ⟨A2, k2, rfl, _, _⟩ := own_form o2
          have c2 : Chg Nil w w2 := H1.out.1.trans (Chg.of_below' b2) (fun _ _ h => h)
          have hc6 := (HH.out.2.2.1 w2 c2).2.2.2.2.2.2.1
          have H2 := Hid.mk (And.intro c2 (HH.out.2.1 w2 c2))
          clear c2 b2 o2
          go_wp2_with fail
          refine H2.out.2.mono ?_
          rintro e w3 ⟨v3, rfl, o3, c3⟩
          obtain ⟨A3, k3, rfl, _, _⟩ := own_form o3
          have hc03 : Chg Nil w w3 := H2.out.1.trans c3 (fun _ _ h => h)
          have H3 := Hid.mk (And.intro hc03 (HH.out.2.2.2.1 w3 hc03))
          have hc5 := fun W (hW : Chg Nil w3 W) => HH.out.2.2.2.2.2 W (hc03.trans hW (fun _ _ h => h))
          have HC5 := Hid.mk hc5
          clear o3 c3 hc03 hc5
          have h3 := H3.out.2
          rw [← HRM.out] at h3
          have H3b := Hid.mk h3
          clear h3
          go_wp2_with fail
          refine H3b.out.mono ?_
          rintro e w4 ⟨rfl, c4⟩
          have hc5 := HC5.out w4 c4
          have H4 := Hid.mk (H3.out.1.trans c4 (fun _ _ h => h))
          clear c4
          go_wp2_with fail
          go_ret
          exact ⟨rfl, H4.out⟩
    · rw [if_pos (by omega)]
      have hBt := batch_any B m mc ops S w ho hmc hcm
      obtain ⟨be, hbe2⟩ : ∃ be, be = batE ops := ⟨_, rfl⟩
      rw [← hbe2] at hbe hBt ⊢
      clear h ho he hbe2
      have HB := Hid.mk hBt
      clear hBt
      go_enter Try.func14, Try.ntmps14
      go_wp2_with fail
      refine HB.out.mono ?_
      rintro e w1 ⟨E, A1, n1, k1, rfl, rfl, c1⟩
      have hE : ¬ ((E : Int) = 0) := by omega
      have H1 := Hid.mk c1
      clear c1
      go_wp2_with fail
      go_ret
      exact ⟨rfl, H1.out⟩
theorem doneP_yes {σ : Sp} {ops : List Oq} {n : Nat} (h : ¬ 2000 < (doP σ.pts ops).length) : doneP σ ops n = some { σ with pts := doP σ.pts ops, u := σ.u + 1, used := σ.used + (n + 13) } := by unfold doneP; rw [if_neg h]
set_option maxHeartbeats 4000000 in
set_option maxRecDepth 100000 in
theorem stApply_ok (h : StAt w gs gd M R N A c σ d) (B : Option Addr) (m mc : Nat) (ops : List Oq) (S : Nat → Prop) (ho : RdO w S B m ops) (hmc : m ≤ mc) (hcm : mc ≤ maxLen) (hS : ∀ k, S k → ¬ M k ∧ k ≠ gs) (he : applyE σ ops = 0) (hlong : d.waits.length ≤ 1000000) :
    Calls Try.prog 14 #[.pointer (some ⟨gs, 0, none⟩), .slice B m mc] w fun e w' => StIs w gs gd M R N (applyP σ d ops) e w' := by
  have h8 := h.cells.2.2.2.2.2.2.2.2
  have he0 := he
  unfold applyE at he
  have hb : σ.broken = false := by
    cases hb : σ.broken with
    | true => rw [hb] at he; exact absurd he (by simp)
    | false => rfl
  rw [hb] at h8 he
  simp only [Bool.false_eq_true, if_false] at he
  have hbe : batE ops = 0 := by
    by_cases hbe : batE ops = 0
    · exact hbe
    · rw [if_pos (by omega)] at he; exact he
  rw [if_neg (by omega)] at he
  have hnb : ¬ 2000 < (doP σ.pts ops).length := fun hh => by rw [if_pos hh] at he; exact absurd he (by decide)
  rw [if_neg hnb] at he
  have hnc : ¬ (σ.log < σ.used + ((batB ops).length + 13) ∨ 4611686018427387904 ≤ σ.u) := fun hh => by rw [if_pos hh] at he; exact absurd he (by decide)
  have hBt := batch_ok B m mc ops S w ho hmc hcm hbe
  have hbl : (batB ops).length ≤ 400000 := by have := batB_len ops; have := batE_len hbe; omega
  have hm5 := batE_len hbe
  have hml := ho.len
  have hg1 := h.ok.gen1
  have hg2 := h.ok.gen2
  have hpu := fun (A : Option Addr) (cc : Nat) (S : Nat → Prop) (W : World) (hr : RdB W S A (batB ops).length (batB ops)) => put_ok σ.gen A cc _ (batB ops) S W hr hg1 hg2 hbl
  have hAp := fun W (hW : Chg Nil w W) => apply_any A B σ.pts.length c m mc σ.pts ops _ (fun k => S k ∧ k < w.heap.size) W (h.nil hW).kept.rd (Rds.keep (Rds.here ho (by omega)) hW (fun _ _ h => h)) (by have := h.ok.len; omega) (by omega) h.ok.up
  have hdl := do_len ops σ.pts h.ok.up
  have hl20 := h.ok.len
  have hC := fun W (hW : Chg Nil w W) => (h.nil hW).cells
  have hRm := fun W (hW : Chg Nil w W) => stRoom_any (h.nil hW)
  have hu := h.ok.u
  have hroomd := h.ok.room
  obtain ⟨σb, hσb⟩ : ∃ σb : Sp, σb = { σ with broken := true } := ⟨_, rfl⟩
  obtain ⟨σ2, hσ2⟩ : ∃ σ2 : Sp, σ2 = { σ with pts := doP σ.pts ops, u := σ.u + 1, used := σ.used + ((batB ops).length + 13) } := ⟨_, rfl⟩
  have hdn : doneP σ ops (batB ops).length = some σ2 := by rw [hσ2]; exact doneP_yes hnb
  have hap : applyP σ d ops = if d.dead then (σb, d, 9) else (σ2, d.write (2 * σ.slots + σ.used) (recB σ.gen (batB ops)), 0) := by
    unfold applyP; rw [if_neg (by omega), hσb, hσ2]
  clear hσ2
  obtain ⟨bn, hbn⟩ : ∃ bn, bn = (batB ops).length := ⟨_, rfl⟩
  rw [← hbn] at hbl hpu hBt hnc hdn
  have hru : σ.log ≤ 1000000 ∧ σ.used ≤ σ.log ∧ σ.slots ≤ 1000000 := ⟨(h.ok.small h.dk.ok).2.1, h.ok.used, (h.ok.small h.dk.ok).1⟩
  obtain ⟨G, hG⟩ : ∃ G, G = σ.gen := ⟨_, rfl⟩
  rw [← hG] at hg1 hg2 hpu hap
  obtain ⟨K, hK⟩ : ∃ K, K = (doP σ.pts ops).length := ⟨_, rfl⟩
  obtain ⟨U, hU⟩ : ∃ U, U = σ.u := ⟨_, rfl⟩
  obtain ⟨LG, hLG⟩ : ∃ LG, LG = σ.log := ⟨_, rfl⟩
  obtain ⟨US, hUS⟩ : ∃ US, US = σ.used := ⟨_, rfl⟩
  obtain ⟨sl, hsl⟩ : ∃ sl, sl = σ.slots := ⟨_, rfl⟩
  obtain ⟨RM, hRM⟩ : ∃ RM, RM = LG - US := ⟨_, rfl⟩
  have hnb' := hnb
  rw [← hK] at hdl hnb
  rw [← hU] at hu
  rw [← hLG, ← hUS, ← hsl] at hru
  rw [← hLG, ← hsl] at hroomd
  rw [← hLG, ← hUS, ← hU] at hnc
  rw [← hUS, ← hsl] at hap
  have hd : decide ((2000 : Int) < (K : Int)) = false := decide_eq_false (by omega)
  have hd2 : decide ((RM : Int) < (bn : Int) + 13) = false := decide_eq_false (by omega)
  have hd3 : decide ((4611686018427387904 : Int) ≤ (U : Int)) = false := decide_eq_false (by omega)
  have hRm : ∀ W, Chg Nil w W → Calls Try.prog 22 #[.pointer (some ⟨gs, 0, none⟩)] W fun e w' => e = .returned (.int .i64 (RM : Int)) ∧ Chg Nil W w' := fun W hW => by rw [hRM, hLG, hUS]; exact hRm W hW
  have hAp : ∀ W, Chg Nil w W → Calls Try.prog 49 #[.slice A σ.pts.length c, .slice B m mc] W fun e w' => ∃ v', e = .returned v' ∧ w'.ownsRow W.heap.size 30 4 v' K ((doP σ.pts ops).flatMap Pt.cs) ∧ Chg Nil W w' := fun W hW => by rw [hK]; exact hAp W hW
  have hC5 : ∀ W, Chg Nil w W → W.cell? ⟨gs, 5, none⟩ = some (.int .u64 (U : Int)) := fun W hW => by rw [hU]; exact (hC W hW).2.2.2.2.2.1
  have hC017 : ∀ W, Chg Nil w W → W.cell? ⟨gs, 0, none⟩ = some (.pointer (some ⟨gd, 0, none⟩)) ∧ W.cell? ⟨gs, 1, none⟩ = some (.int .i64 (sl : Int)) ∧ W.cell? ⟨gs, 7, none⟩ = some (.int .i64 (US : Int)) := fun W hW => by
    rw [hsl, hUS]; exact ⟨(hC W hW).1, (hC W hW).2.1, (hC W hW).2.2.2.2.2.2.2.1⟩
  obtain ⟨p, hp⟩ : ∃ p, p = 2 * sl + US := ⟨_, rfl⟩
  have hpp : 2 * (sl : Int) + (US : Int) = (p : Int) := by rw [hp]; omega
  have hw1 : IntKind.i64.wrap (p : Int) = (p : Int) := wrap_small (by have := h.dk.ok.most; omega)
  have hfit : p + (bn + 13) ≤ d.now.length := by omega
  rw [← hp] at hap
  have hs6 : sl ≤ 1000000 := hru.2.2
  have HH := Hid.mk (And.intro hpu (And.intro hAp (And.intro hC (And.intro hRm (And.intro hG hC5)))))
  have HB := Hid.mk hBt
  have HW1 := Hid.mk hsl.symm
  have HX := Hid.mk (And.intro h (And.intro hap (And.intro hfit (And.intro hC017 (And.intro ho hS)))))
  have HY := Hid.mk (And.intro hnb' (And.intro hbe (And.intro hbn (And.intro hUS hU))))
  have HZ := Hid.mk (And.intro hnc (And.intro hLG (And.intro hlong (And.intro hdn hσb))))
  clear hpu hAp hC hRm hG hbn hBt h ho hbe hmc hcm hml hC5 hK hU hLG hUS he he0 hap hfit hC017 hS hsl hRM hp hnb hnb' hnc hroomd hlong hru hdn hσb
  go_enter Try.func14, Try.ntmps14
  go_wp2_with fail
  refine HB.out.mono ?_
  rintro e w1 ⟨v1, rfl, c1, o1⟩
  obtain ⟨A1, k1, rfl, _, _⟩ := own_form o1
  have hc4 := (HH.out.2.2.1 w1 c1).2.2.2.2.1
  rw [← HH.out.2.2.2.2.1] at hc4
  have hpu := HH.out.1 A1 k1 _ w1 (Rds.of_own o1)
  have H1 := Hid.mk (And.intro c1 hpu)
  clear c1 hpu o1
  go_wp2_with fail
  refine H1.out.2.mono ?_
  rintro e w2 ⟨v2, rfl, o2, b2⟩
  obtain ⟨A2, k2, rfl, _, _⟩ := own_form o2
  have c2 : Chg Nil w w2 := H1.out.1.trans (Chg.of_below' b2) (fun _ _ h => h)
  have hc6 := (HH.out.2.2.1 w2 c2).2.2.2.2.2.2.1
  have HR2 := Hid.mk (show RdB w2 (fun i => w.heap.size ≤ i) A2 (bn + 13) (recB G (batB ops)) from (Rds.of_own o2).wider (fun i _ hi => Nat.le_trans H1.out.1.size (own_ge o2 i hi)) (by omega))
  have H2 := Hid.mk (And.intro c2 (HH.out.2.1 w2 c2))
  clear c2 b2 o2
  go_wp2_with fail
  refine H2.out.2.mono ?_
  rintro e w3 ⟨v3, rfl, o3, c3⟩
  obtain ⟨A3, k3, rfl, _, _⟩ := own_form o3
  have hc03 : Chg Nil w w3 := H2.out.1.trans c3 (fun _ _ h => h)
  have HR3 := Hid.mk (HR2.out.keep c3 (fun _ _ h => h))
  have H3 := Hid.mk (And.intro hc03 (HH.out.2.2.2.1 w3 hc03))
  have hc5 := fun W (hW : Chg Nil w3 W) => HH.out.2.2.2.2.2 W (hc03.trans hW (fun _ _ h => h))
  have HC5 := Hid.mk hc5
  clear o3 c3 hc03 hc5
  go_wp2_with fail
  refine H3.out.2.mono ?_
  rintro e w4 ⟨rfl, c4⟩
  have hc5 := HC5.out w4 c4
  have c04 := H3.out.1.trans c4 (fun _ _ h => h)
  have H4 := Hid.mk (And.intro c04 (HR3.out.keep c4 (fun _ _ h => h)))
  have HC := Hid.mk (fun W (hW : Chg Nil w4 W) => HX.out.2.2.2.1 W (c04.trans hW (fun _ _ h => h)))
  clear c4 c04
  go_wp2_with fail
  cases hdd : d.dead with
  | true =>
    have hE9 := Dp.opE_dead (Dp.fits_nat HX.out.2.2.1) hdd
    have hW := fun W (hW : Chg Nil w4 W) B => dwrite_no (HX.out.1.dk.keep_nil (H4.out.1.trans hW (fun _ _ h => h))) p B (bn + 13) k2 (by rw [hE9]; decide)
    rw [hE9] at hW
    have hap := HX.out.2.1
    rw [hdd, if_pos rfl] at hap
    have HD := Hid.mk (And.intro hW hap)
    clear hE9 hdd hW hap
    go_region_held3 (fun w' => w'.cell? ⟨gs, 0, none⟩ = some (.pointer (some ⟨gd, 0, none⟩)) ∧ w'.cell? ⟨gs, 1, none⟩ = some (.int .i64 (sl : Int)) ∧ w'.cell? ⟨gs, 7, none⟩ = some (.int .i64 (US : Int)))
      (first | exact HC.out _ (by first | exact (Chg.refl Nil w4).drew | assumption) | go_keep)
      (first
        | (go_at_call 42; refine (at_cell (HC.out _ (by first | exact (Chg.refl Nil w4).drew)).2.1 hs6).mono ?_; rintro e w' ⟨rfl, rfl⟩)
        | (go_at_call 23; refine (HD.out.1 _ (Chg.refl Nil w4).drew _).mono ?_; rintro e w5 ⟨rfl, c5⟩; have hcw5 : Chg Nil w4 w5 := (Chg.refl Nil w4).drew.trans c5 (fun _ _ h => h); clear c5))
    all_goals
      have hst5 := HX.out.1.nil (H4.out.1.trans hcw5 (fun _ _ h => h))
      have hto := told_any hst5 9
      rw [told_nine, ← HZ.out.2.2.2.2] at hto
      have H5 := Hid.mk (And.intro hcw5 hto)
      clear hcw5 hst5 hto
      go_wp2_with fail
      refine H5.out.2.mono ?_
      rintro e w6 ⟨rfl, c6, s6⟩
      have H6 := Hid.mk (And.intro ((WentS.nil (gs := gs) (M := M) (R := R) (H4.out.1.trans H5.out.1 (fun _ _ h => h))).trans (WentS.of_gs c6)) s6)
      clear c6 s6
      go_wp2_with fail
      go_ret
      rw [HD.out.2]
      exact ⟨M, R, rfl, H6.out.1, _, _, H6.out.2⟩
  | false =>
    have hE := HX.out.2.1
    rw [hdd, if_neg (by decide)] at hE
    have hrl := recB_len G (batB ops)
    rw [← HY.out.2.2.1] at hrl
    have hwl : (d.write p (recB G (batB ops))).now.length = d.now.length := splice_len _ _ _ (by rw [hrl]; exact HX.out.2.2.1)
    have hlt := fun k (hm : M k) => HX.out.1.dk.lt k (.inl hm)
    have hD := fun W (hW : Chg Nil w4 W) => dwrite_ok (HX.out.1.dk.keep_nil (H4.out.1.trans hW (fun _ _ h => h))) p A2 (bn + 13) k2 (recB G (batB ops)) (H4.out.2.keep hW (fun _ _ h => h)) (fun k hk hm => by have h1 := hlt k hm; have h2 : w.heap.size ≤ k := hk; omega) HX.out.2.2.1 hdd HZ.out.2.2.1
    have HD := Hid.mk (And.intro hD (And.intro hE hwl))
    clear hE hrl hwl hlt hD hdd
    go_region_held3 (fun w' => w'.cell? ⟨gs, 0, none⟩ = some (.pointer (some ⟨gd, 0, none⟩)) ∧ w'.cell? ⟨gs, 1, none⟩ = some (.int .i64 (sl : Int)) ∧ w'.cell? ⟨gs, 7, none⟩ = some (.int .i64 (US : Int)))
      (first | exact HC.out _ (by first | exact (Chg.refl Nil w4).drew | assumption) | exact hcell5 | go_keep)
      (first
        | (go_at_call 42; refine (at_cell (HC.out _ (by first | exact (Chg.refl Nil w4).drew)).2.1 hs6).mono ?_; rintro e w' ⟨rfl, rfl⟩)
        | (go_at_call 23; refine (HD.out.1 _ (Chg.refl Nil w4).drew).mono ?_; rintro e w5 ⟨M5, R5, rfl, ww5, d5⟩; have hst5 := (HX.out.1.nil (H4.out.1.trans (Chg.refl Nil w4).drew (fun _ _ h => h))).went ww5 d5 HD.out.2.2; have hcell5 : w5.cell? ⟨gs, 0, none⟩ = some (.pointer (some ⟨gd, 0, none⟩)) ∧ w5.cell? ⟨gs, 1, none⟩ = some (.int .i64 (sl : Int)) ∧ w5.cell? ⟨gs, 7, none⟩ = some (.int .i64 (US : Int)) := ⟨hst5.cells.1, by rw [← HW1.out]; exact hst5.cells.2.1, by rw [HY.out.2.2.2.1]; exact hst5.cells.2.2.2.2.2.2.2.1⟩; have hws5 : WentS w w5 gs M R M5 R5 := (WentS.nil (H4.out.1.trans (Chg.refl Nil w4).drew (fun _ _ h => h))).trans (WentS.of_went ww5); have hops5 : RdO w5 (fun k => S k ∧ k < w.heap.size) B m ops := ((Rds.here HX.out.2.2.2.2.1 (by omega)).keep (H4.out.1.trans (Chg.refl Nil w4).drew (fun _ _ h => h)) (fun _ _ h => h)).keep ww5.chg (fun k hk hm => (HX.out.2.2.2.2.2 k hk.1).1 hm); clear ww5 d5))
    all_goals
      have hdn := done_any hst5 B m mc bn ops _ hops5 HY.out.2.1 hbl (by have := HZ.out.1; have := HZ.out.2.1; have := HY.out.2.2.2.1; omega) (by have := HZ.out.1; have := HY.out.2.2.2.2; omega)
      have H5 := Hid.mk (And.intro hws5 (And.intro hst5 hdn))
      clear hws5 hst5 hops5 hcell5 hdn
      go_wp2_with fail
      refine H5.out.2.2.mono ?_
      rintro e w6 (⟨hno, _, _⟩ | ⟨σ', A', c', hyes, rfl, c6, s6⟩)
      · rw [HZ.out.2.2.2.1] at hno; cases hno
      · rw [HZ.out.2.2.2.1] at hyes
        injection hyes with hyes
        subst hyes
        have H6 := Hid.mk (And.intro (H5.out.1.trans (WentS.of_gs (M := M5) (R := R5) c6)) s6)
        clear c6 s6
        go_wp2_with fail
        go_ret
        rw [HD.out.2.1]
        exact ⟨M5, R5, rfl, H6.out.1, _, _, H6.out.2⟩
theorem stApply_any (h : StAt w gs gd M R N A c σ d) (B : Option Addr) (m mc : Nat) (ops : List Oq) (S : Nat → Prop) (ho : RdO w S B m ops) (hmc : m ≤ mc) (hcm : mc ≤ maxLen) (hS : ∀ k, S k → ¬ M k ∧ k ≠ gs) (hlong : d.waits.length ≤ 1000000) :
    Calls Try.prog 14 #[.pointer (some ⟨gs, 0, none⟩), .slice B m mc] w fun e w' => StIs w gs gd M R N (applyP σ d ops) e w' := by
  by_cases he : applyE σ ops = 0
  · exact stApply_ok h B m mc ops S ho hmc hcm hS he hlong
  · refine (stApply_no h B m mc ops S ho hmc hcm he).mono ?_
    rintro e w1 ⟨rfl, c1⟩
    have hp : applyP σ d ops = (σ, d, applyE σ ops) := by unfold applyP; rw [if_pos he]
    rw [hp]
    exact ⟨M, R, rfl, WentS.nil c1, _, _, h.nil c1⟩
end

end Go.Proofs.Ytanipieeegeheaa
