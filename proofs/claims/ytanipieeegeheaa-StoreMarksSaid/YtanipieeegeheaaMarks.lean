/- Joined for this seat from: XSMarks. -/
import Derived.Deep.RegionHeld3
import Derived.Deep.CutRange
import Derived.Test.YtanipieeegeheaaTf
namespace Go.Proofs.Ytanipieeegeheaa
open Go.RowKit

set_option maxHeartbeats 4000000 in
set_option maxRecDepth 100000 in
theorem storeMarks_walk (A : Option Addr) (n c : Nat) (qs : List (Aq × Value)) (keep : Int) (w : World) (hr : RdActs w (fun k => k < w.heap.size) A n qs) (hn : n ≤ maxLen) :
    Calls Try.prog 7 #[.slice A n c, .int .i64 keep] w fun e w' => e = .returned (.bool true) ∧ Chg Nil w w' := by
  obtain ⟨C2, hC2, hC28⟩ := i64_and_mask keep 4095 12 rfl (by omega)
  have hnl : (Dp.new 4000).now.length = 4000 := new_len (n := 4000) (by omega)
  have o1 : Opened (Dp.new 4000) (freshS 1200 1500) (freshS 1200 1500) [] := opened_new (n := 4000) (by omega) (by omega) (by omega)
  have hN := dnew_any 4000 w
  have hO1 := fun {g : Nat} {M R : Nat → Prop} {w1 : World} (h : Dk w1 g M R (Dp.new 4000)) => open_any h 1200 1500 (by omega) (by rw [hnl]; omega) (by show (0 : Nat) ≤ _; omega)
  have e1 : openD (Dp.new 4000) 1200 1500 = ((openD (Dp.new 4000) 1200 1500).1, 0) := Prod.ext rfl o1.res
  have e2 : openS (Dp.new 4000) 1200 1500 = freshS 1200 1500 := o1.openS
  have g1 : Gd 1200 1500 (freshS 1200 1500) (openD (Dp.new 4000) 1200 1500).1 := Gd.of o1
  rw [e2, e1] at hO1
  generalize (openD (Dp.new 4000) 1200 1500).1 = D1 at *
  have hC2' : bits .and .i64 keep 4095 = (C2 : Int) := hC2
  clear hC2
  have HL := Hid.mk hr
  have HH := Hid.mk (And.intro hN (And.intro (@hO1) g1))
  clear hN hO1 e1 e2 o1 hnl g1 hr
  have hn' : n ≤ 9223372036854775807 := by have h := hn; unfold maxLen at h; omega
  go_enter Try.func7, Try.ntmps7
  go_wp2_with fail
  refine HH.out.1.mono ?_
  rintro e w1 ⟨gd, M, R, rfl, c1, d1, low1⟩
  have H1 := Hid.mk (Live.mk c1 d1 low1)
  clear c1 d1 low1
  go_wp2_with fail
  refine (HH.out.2.1 H1.out.dk).mono ?_
  rintro e w2 ho
  rcases H1.out.opened ho with ⟨_, gs, M2, R2, rfl, r2⟩ | ⟨h9, _⟩
  rotate_left
  · exact absurd h9 (by simp)
  have H2 := Hid.mk r2
  clear r2 ho
  go_wp2_with fail
  go_loopw [6, 8] (fun vs vi wr => ∃ k gs : Nat, k ≤ 20 ∧ vs = .pointer (some ⟨gs, 0, none⟩) ∧ vi = .int .i64 (k : Int) ∧ Hid (∃ M R N σ D, Run w wr gs gd M R N σ D ∧ Gd 1200 1500 σ D ∧ σ.gen ≤ 1 + k)) (fun _ vi _ => 20 - (intOf vi).toNat)
  case atStart => exact ⟨0, gs, by omega, rfl, rfl, Hid.mk ⟨_, _, _, _, _, H2.out, HH.out.2.2, by show 1 ≤ 1 + 0; omega⟩⟩
  case round =>
    obtain ⟨k, gt, hk, rfl, rfl, HR⟩ := hrel
    by_cases hlt : k < n ∧ k < 20
    · obtain ⟨hkn, hk20⟩ := hlt
      obtain ⟨M3, R3, N3, σ, D, rn, gdd, hgen⟩ := HR.out
      obtain ⟨g, o, kd, sp, op, kp, ops, B, bc, rfl, hS, hq, hfit, hoc, hcm, hro, z0, z1, z2, z3, z4⟩ := HL.out.at_ hkn
      have hlen : ops.length ≤ 9223372036854775807 := by unfold maxLen at hcm; omega
      have HQ := Hid.mk (And.intro rn (And.intro gdd (And.intro hro (And.intro hoc (And.intro hcm hgen)))))
      have HZ := Hid.mk (And.intro z0 z4)
      have y0 := rn.chg.cell z0 (fun h => h)
      have y1 := rn.chg.cell z1 (fun h => h)
      have y2 := rn.chg.cell z2 (fun h => h)
      have y3 := rn.chg.cell z3 (fun h => h)
      have y4 := rn.chg.cell z4 (fun h => h)
      clear rn gdd hro hoc hcm hS hq hfit z0 z1 z2 z3 z4 hgen
      go_wp2_with fail
      refine (few15_any kd sp op kp B ops.length bc hlen).mono ?_
      rintro e w4 ⟨rfl, c4⟩
      have H4 := Hid.mk (HQ.out.1.nil c4)
      clear c4 y0 y1 y2 y3 y4
      have y0 := H4.out.chg.cell HZ.out.1 (fun h => h)
      have y4 := H4.out.chg.cell HZ.out.2 (fun h => h)
      cases hd : decide (ops.length ≤ 60) with
      | false =>
        go_wp2_with fail
        refine (awake15_any w4).mono ?_
        rintro e w5 ⟨rfl, c5⟩
        have H5 := Hid.mk (H4.out.chg.trans c5 (fun _ _ h => h))
        clear c5
        go_wp2_with fail
        go_ret
        exact ⟨rfl, H5.out⟩
      | true =>
        go_wp2_with fail
        refine (H4.out.applyC B ops.length bc ops (HQ.out.2.2.1.keep H4.out.chg (fun _ _ h => h)) HQ.out.2.2.2.1 HQ.out.2.2.2.2.1 (HQ.out.2.1.few H4.out.st.dk.ok)).mono ?_
        rintro e w5 ⟨M5, R5, rfl, r5, _⟩
        have g5 := HQ.out.2.1.apply ops
        have hg5 : (applyP σ D ops).1.gen ≤ 1 + k := by rw [applyP_gen]; exact HQ.out.2.2.2.2.2
        generalize (applyP σ D ops).1 = σ5 at *
        generalize (applyP σ D ops).2.1 = D5 at *
        have H5 := Hid.mk (And.intro r5 g5)
        clear r5 g5 y0 y4
        have y0 := H5.out.1.chg.cell HZ.out.1 (fun h => h)
        by_cases k2 : kd = 2
        · subst k2
          go_wp2_with fail
          refine H5.out.1.pointsC.mono ?_
          rintro e w6 ⟨A6, k6, rfl, q6, _, c6⟩
          have H6 := Hid.mk (And.intro (H5.out.1.nil c6) q6)
          clear q6 c6 y0
          go_wp2_with fail
          refine H6.out.1.uC.mono ?_
          rintro e w7 ⟨rfl, he⟩
          have he' := he.symm
          subst he'
          clear he
          go_wp2_with fail
          refine H6.out.1.genC.mono ?_
          rintro e w7 ⟨rfl, he⟩
          have he' := he.symm
          subst he'
          clear he
          have hmk := H6.out.1.markC (H5.out.2.few H6.out.1.st.dk.ok)
          rcases H5.out.2.mark with ⟨g7, ⟨he, hp⟩ | ⟨he, h0, hm, hi⟩⟩
          · have h12 : ((markE σ5 : Nat) : Int) = 12 := by rw [(markE_is H5.out.2.unbroken (by omega)).resolve_left he]; rfl
            rw [hp] at hmk
            simp only [h12] at hmk
            clear hp he h12 g7
            go_wp2_with fail
            refine hmk.mono ?_
            rintro e w7 ⟨M7, R7, rfl, r7, _⟩
            have H7 := Hid.mk r7
            clear r7 hmk
            go_wp2_with fail
            refine H7.out.genC.mono ?_
            rintro e w8 ⟨rfl, he⟩
            have he' := he.symm
            subst he'
            clear he
            go_wp2_with fail
            go_roundw
            case rel => exact ⟨k + 1, gt, by omega, rfl, by go_num, Hid.mk ⟨_, _, _, _, _, H7.out, H5.out.2, by omega⟩⟩
            case measure => simp [intOf]; omega
          · have h0' : (((markP σ5 D5).2.2 : Nat) : Int) = 0 := by rw [h0]; rfl
            rw [h0', hm] at hmk
            rw [hm] at g7
            clear h0'
            generalize (markP σ5 D5).2.1 = D7 at *
            have og := hi.whole (C2 : Int) (.inl rfl)
            have q1 := og.openS
            have q2 := og.res
            have q3 := Gd.of og
            have q4 := og.img.room
            rw [g7.slots, g7.log] at q1 q2 q3 q4
            have q5 : openD (D7.crash (C2 : Int)) 1200 1500 = ((openD (D7.crash (C2 : Int)) 1200 1500).1, 0) := Prod.ext rfl q2
            have hop := fun {g : Nat} {M R : Nat → Prop} {w1 : World} (h : Dk w1 g M R (D7.crash (C2 : Int))) => open_any h 1200 1500 (by omega) q4 (by show (0 : Nat) ≤ _; omega)
            rw [q1, q5] at hop
            generalize (openD (D7.crash (C2 : Int)) 1200 1500).1 = D8 at *
            have hu : (σ5.marked.u : Int) = (σ5.u : Int) := rfl
            have hgn : (σ5.marked.gen : Int) = (σ5.gen : Int) + 1 := by show ((σ5.gen + 1 : Nat) : Int) = _; omega
            have hro : ((σ5.marked.log - σ5.marked.used : Nat) : Int) = 1500 := by rw [g7.log]; rfl
            have hpts : σ5.marked.pts = σ5.pts := rfl
            have hgm : σ5.marked.gen ≤ 1 + (k + 1) := by show σ5.gen + 1 ≤ _; omega
            generalize σ5.marked = σ7 at *
            have HM := Hid.mk (And.intro g7 (And.intro (@hop) (And.intro q3 (And.intro hu (And.intro hgn (And.intro hro (And.intro hpts hgm)))))))
            clear g7 hi hop q1 q2 q3 q4 q5 og hu hgn hro hpts hgm he h0 hm
            go_wp2_with fail
            refine hmk.mono ?_
            rintro e w7 ⟨M7, R7, rfl, r7, hw7⟩
            have H7 := Hid.mk (And.intro r7 (H6.out.2.wentS hw7))
            clear r7 hmk hw7
            go_wp2_with fail
            refine (H7.out.1.genIs HM.out.2.2.2.2.1).mono ?_
            rintro e w8 ⟨rfl, he⟩
            have he' := he.symm
            subst he'
            clear he
            go_wp2_with fail
            refine (H7.out.1.uIs HM.out.2.2.2.1).mono ?_
            rintro e w8 ⟨rfl, he⟩
            have he' := he.symm
            subst he'
            clear he
            go_wp2_with fail
            refine (H7.out.1.roomIs HM.out.2.2.2.2.2.1).mono ?_
            rintro e w8 ⟨rfl, c8⟩
            have H8 := Hid.mk (And.intro (H7.out.1.nil c8) (H7.out.2.nil c8))
            clear c8
            go_wp2_with fail
            refine H8.out.1.pointsC.mono ?_
            rintro e w9 ⟨A9, k9, rfl, _, q9, c9⟩
            rw [HM.out.2.2.2.2.2.2.1] at q9
            have hsp := samePts_eqB A9 A6 _ _ k9 k6 σ5.pts σ5.pts _ _ w9 q9 (H8.out.2.nil c9).rd (by have := H5.out.1.st.ok.len; omega) (by have := H5.out.1.st.ok.len; omega)
            rw [eqB_true rfl] at hsp
            have H9 := Hid.mk (And.intro (H8.out.1.nil c9) (H8.out.2.nil c9))
            rw [HM.out.2.2.2.2.2.2.1]
            clear q9 c9
            go_wp2_with fail
            refine hsp.mono ?_
            rintro e w10 ⟨rfl, c10⟩
            have H10 := Hid.mk (And.intro (H9.out.1.nil c10) (H9.out.2.nil c10))
            clear c10 hsp
            go_wp2_with fail
            refine (dcrash_any H10.out.1.st.dk (C2 : Int) (by omega) (by omega) (HM.out.1.few H10.out.1.st.dk.ok)).mono ?_
            rintro e w11 ⟨⟨v11, rfl⟩, c11, d11⟩
            have H11 := Hid.mk (And.intro (H10.out.1.live.step c11 d11) ((H10.out.2.gen (M' := M7) c11 (fun k _ h => .inl h) (fun k _ h => .inl h))))
            clear c11 d11
            go_wp2_with fail
            refine (HM.out.2.1 H11.out.1.dk).mono ?_
            rintro e w12 ho
            obtain ⟨M12', R12', hw12, _⟩ := id ho
            have kp12 := H11.out.2.went hw12
            rcases H11.out.1.opened ho with ⟨_, gu, M12, R12, rfl, r12⟩ | ⟨h9, _⟩
            rotate_left
            · exact absurd h9 (by simp)
            have H12 := Hid.mk (And.intro r12 kp12)
            clear r12 ho hw12 kp12
            go_wp2_with fail
            refine H12.out.1.pointsC.mono ?_
            rintro e w13 ⟨A13, k13, rfl, _, q13, c13⟩
            rw [HM.out.2.2.2.2.2.2.1] at q13
            have hsp := samePts_eqB A13 A6 _ _ k13 k6 σ5.pts σ5.pts _ _ w13 q13 (H12.out.2.nil c13).rd (by have := H5.out.1.st.ok.len; omega) (by have := H5.out.1.st.ok.len; omega)
            rw [eqB_true rfl] at hsp
            have H13 := Hid.mk (H12.out.1.nil c13)
            rw [HM.out.2.2.2.2.2.2.1]
            clear q13 c13
            go_wp2_with fail
            refine hsp.mono ?_
            rintro e w14 ⟨rfl, c14⟩
            have H14 := Hid.mk (H13.out.nil c14)
            clear c14 hsp
            go_wp2_with fail
            refine (H14.out.uIs HM.out.2.2.2.1).mono ?_
            rintro e w15 ⟨rfl, he⟩
            have he' := he.symm
            subst he'
            clear he
            go_wp2_with fail
            refine (H14.out.genIs HM.out.2.2.2.2.1).mono ?_
            rintro e w15 ⟨rfl, he⟩
            have he' := he.symm
            subst he'
            clear he
            go_wp2_with fail
            refine (H14.out.roomIs HM.out.2.2.2.2.2.1).mono ?_
            rintro e w15 ⟨rfl, c15⟩
            have H15 := Hid.mk (H14.out.nil c15)
            clear c15
            go_wp2_with fail
            go_roundw
            case rel => exact ⟨k + 1, gu, by omega, rfl, by go_num, Hid.mk ⟨_, _, _, _, _, H15.out, HM.out.2.2.1, HM.out.2.2.2.2.2.2.2⟩⟩
            case measure => simp [intOf]; omega
        · have e2 : (kd == 2) = false := by rw [beq_eq_false_iff_ne]; exact k2
          go_wp2_with fail
          go_roundw
          case rel => exact ⟨k + 1, gt, by omega, rfl, by go_num, Hid.mk ⟨_, _, _, _, _, H5.out.1, H5.out.2, by omega⟩⟩
          case measure => simp [intOf]; omega
    · have hx : ¬ k < n ∨ (k < n ∧ ¬ k < 20) := by omega
      obtain ⟨M3, R3, N3, σ, D, rn, gdd, _⟩ := HR.out
      have H3 := Hid.mk rn
      clear rn gdd hlt HL
      rcases hx with hx | ⟨hx, hx2⟩
      all_goals
        go_wp2_with fail
        refine (awake15_any wr).mono ?_
        rintro e w5 ⟨rfl, c5⟩
        have H5 := Hid.mk (H3.out.chg.trans c5 (fun _ _ h => h))
        clear c5
        go_wp2_with fail
        go_ret
        exact ⟨rfl, H5.out⟩

end Go.Proofs.Ytanipieeegeheaa
