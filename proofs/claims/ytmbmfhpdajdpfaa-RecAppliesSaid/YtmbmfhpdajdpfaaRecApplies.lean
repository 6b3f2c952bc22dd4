/- The walk of RecApplies: it returns true, whatever the input. -/
import Derived.Test.YtmbmfhpdajdpfaaRecPoints
import Derived.Test.YtmbmfhpdajdpfaaJoins
namespace Go.Proofs.Ytmbmfhpdajdpfaa
open Go.RowKit

set_option maxHeartbeats 8000000 in
set_option maxRecDepth 100000 in
theorem recApplies_walk (A0 A1 A2 A3 : Option Addr) (n0 c0 n1 c1 n2 c2 n3 c3 : Nat) (l m : List Oq) (raw : List Pt) (b : List UInt8) (S0 S1 S2 S3 : Nat → Prop) (w : World)
    (h0 : RdO w S0 A0 n0 l) (h1 : RdO w S1 A1 n1 m) (h2 : RdP w S2 A2 n2 raw) (h3 : RdB w S3 A3 n3 b) (hc3 : n3 ≤ c3) (hm3 : c3 ≤ maxLen) :
    Calls Try.prog 11 #[.slice A0 n0 c0, .slice A1 n1 c1, .slice A2 n2 c2, .slice A3 n3 c3] w fun e w' => e = .returned (.bool true) ∧ Below w.heap.size w w' := by
  by_cases hf : n0 ≤ 100
  rotate_left
  · have hd : decide ((n0 : Int) ≤ 100) = false := decide_eq_false (by omega)
    clear h0 h1 h2 h3
    go_enter Try.func11, Try.ntmps11
    go_wp2_with fail
    refine (few_any A0 n0 c0 w).mono ?_
    rintro e w1 ⟨he, hw⟩
    have hw' := hw.symm
    subst hw'
    clear hw
    rw [hd] at he
    subst he
    go_wp2_with fail
    refine (awakeR_any _).mono ?_
    rintro e w2 ⟨rfl, hb⟩
    have HB := Hid.mk hb
    clear hb
    go_wp2_with fail
    go_ret
    exact ⟨rfl, HB.out⟩
  have hd : decide ((n0 : Int) ≤ 100) = true := decide_eq_true (by omega)
  by_cases hf1 : n1 ≤ 100
  rotate_left
  · have hd1 : decide ((n1 : Int) ≤ 100) = false := decide_eq_false (by omega)
    clear h0 h1 h2 h3
    go_enter Try.func11, Try.ntmps11
    go_wp2_with fail
    refine (few_any A0 n0 c0 w).mono ?_
    rintro e w1 ⟨he, hw⟩
    have hw' := hw.symm
    subst hw'
    clear hw
    rw [hd] at he
    subst he
    go_wp2_with fail
    refine (few_any A1 n1 c1 w).mono ?_
    rintro e w1 ⟨he, hw⟩
    have hw' := hw.symm
    subst hw'
    clear hw
    rw [hd1] at he
    subst he
    go_wp2_with fail
    refine (awakeR_any _).mono ?_
    rintro e w2 ⟨rfl, hb⟩
    have HB := Hid.mk hb
    clear hb
    go_wp2_with fail
    go_ret
    exact ⟨rfl, HB.out⟩
  have hd1 : decide ((n1 : Int) ≤ 100) = true := decide_eq_true (by omega)
  by_cases hf2 : n2 ≤ 100
  rotate_left
  · have hd2 : decide ((100 : Int) < (n2 : Int)) = true := decide_eq_true (by omega)
    clear h0 h1 h2 h3
    go_enter Try.func11, Try.ntmps11
    go_wp2_with fail
    refine (few_any A0 n0 c0 w).mono ?_
    rintro e w1 ⟨he, hw⟩
    have hw' := hw.symm
    subst hw'
    clear hw
    rw [hd] at he
    subst he
    go_wp2_with fail
    refine (few_any A1 n1 c1 w).mono ?_
    rintro e w1 ⟨he, hw⟩
    have hw' := hw.symm
    subst hw'
    clear hw
    rw [hd1] at he
    subst he
    go_wp2_with fail
    refine (awakeR_any _).mono ?_
    rintro e w2 ⟨rfl, hb⟩
    have HB := Hid.mk hb
    clear hb
    go_wp2_with fail
    go_ret
    exact ⟨rfl, HB.out⟩
  have hd2 : decide ((100 : Int) < (n2 : Int)) = false := decide_eq_false (by omega)
  by_cases hf3 : n3 ≤ 2000
  rotate_left
  · have hd3 : decide ((2000 : Int) < (n3 : Int)) = true := decide_eq_true (by omega)
    clear h0 h1 h2 h3
    go_enter Try.func11, Try.ntmps11
    go_wp2_with fail
    refine (few_any A0 n0 c0 w).mono ?_
    rintro e w1 ⟨he, hw⟩
    have hw' := hw.symm
    subst hw'
    clear hw
    rw [hd] at he
    subst he
    go_wp2_with fail
    refine (few_any A1 n1 c1 w).mono ?_
    rintro e w1 ⟨he, hw⟩
    have hw' := hw.symm
    subst hw'
    clear hw
    rw [hd1] at he
    subst he
    go_wp2_with fail
    refine (awakeR_any _).mono ?_
    rintro e w2 ⟨rfl, hb⟩
    have HB := Hid.mk hb
    clear hb
    go_wp2_with fail
    go_ret
    exact ⟨rfl, HB.out⟩
  have hd3 : decide ((2000 : Int) < (n3 : Int)) = false := decide_eq_false (by omega)
  have hgl := goodL_len l
  have hgm := goodL_len m
  rw [h0.len] at hgl
  rw [h1.len] at hgm
  have hkl : ∀ o ∈ goodL l, o.kind = 1 ∨ o.kind = 2 := fun o h => ok_kinds (goodL_oks l o h)
  have hkm : ∀ o ∈ goodL m, o.kind = 1 ∨ o.kind = 2 := fun o h => ok_kinds (goodL_oks m o h)
  have hPl := do_len (goodL l) [] up_nil
  have hPu := do_up (goodL l) [] up_nil
  have hGl := good_any A0 n0 c0 l S0 w h0 hf
  have hGm := fun W (hW : Chg Nil w W) => good_any A1 n1 c1 m S1 W (h1.keep hW (fun _ _ h => h)) hf1
  have h2' := h2.here (by omega)
  have h3' := h3.here
  simp only [List.length_nil, Nat.zero_add] at hPl
  generalize goodL l = GL at *
  generalize goodL m = GM at *
  generalize hPe : doP [] GL = P at *
  have hQl := do_len GM P hPu
  generalize hQe : doP P GM = Q at *
  have HG := Hid.mk (And.intro hGl (And.intro hGm (And.intro hkl (And.intro hkm (And.intro hPu (And.intro hPe (And.intro hQe (And.intro h2' (And.intro h3' h3.len)))))))))
  clear hGl hGm hkl hkm hPu hPe hQe h0 h1 h2 h3 h2' h3'
  go_enter Try.func11, Try.ntmps11
  go_wp2_with fail
  refine (few_any A0 n0 c0 w).mono ?_
  rintro e w1 ⟨he, hw⟩
  have hw' := hw.symm
  subst hw'
  clear hw
  rw [hd] at he
  subst he
  go_wp2_with fail
  refine (few_any A1 n1 c1 w).mono ?_
  rintro e w1 ⟨he, hw⟩
  have hw' := hw.symm
  subst hw'
  clear hw
  rw [hd1] at he
  subst he
  go_wp2_with fail
  refine HG.out.1.mono ?_
  rintro e w1 ⟨v1, rfl, o1, k1⟩
  obtain ⟨B1, d1, rfl, _, _⟩ := own_form o1
  have H1 := Hid.mk (And.intro o1 k1)
  clear o1 k1
  go_wp2_with fail
  refine (rapply_any none B1 0 0 GL.length d1 [] GL (fun _ => False) _ w1 (rdp_nil w1 _) (Rds.of_own H1.out.1) (by omega) (by omega) up_nil HG.out.2.2.1).mono ?_
  rintro e w2 ⟨v2, rfl, o2, k2⟩
  rw [HG.out.2.2.2.2.2.1] at o2
  obtain ⟨B2, d2, rfl, _, _⟩ := own_form o2
  have H2 := Hid.mk (And.intro o2 (H1.out.2.trans k2 (fun _ _ h => h)))
  clear o2 k2
  go_wp2_with fail
  refine (HG.out.2.1 w2 H2.out.2).mono ?_
  rintro e w3 ⟨v3, rfl, o3, k3⟩
  obtain ⟨B3, d3, rfl, _, _⟩ := own_form o3
  have H3 := Hid.mk (And.intro o3 (And.intro (H2.out.2.trans k3 (fun _ _ h => h)) (own_keep H2.out.1 k3 (fun _ _ h => h))))
  clear o3 k3
  go_wp2_with fail
  refine (apply_any B2 B3 P.length d2 GM.length d3 P GM _ _ w3 (Rds.of_own H3.out.2.2) (Rds.of_own H3.out.1) (by omega) (by omega) HG.out.2.2.2.2.1).mono ?_
  rintro e w4 ⟨v4, rfl, o4, k4⟩
  rw [HG.out.2.2.2.2.2.2.1] at o4
  obtain ⟨B4, d4, rfl, _, _⟩ := own_form o4
  have H4 := Hid.mk (And.intro o4 (And.intro (H3.out.2.1.trans k4 (fun _ _ h => h)) (own_keep H3.out.2.2 k4 (fun _ _ h => h))))
  clear o4 k4
  go_wp2_with fail
  refine (HG.out.2.1 w4 H4.out.2.1).mono ?_
  rintro e w5 ⟨v5, rfl, o5, k5⟩
  obtain ⟨B5, d5, rfl, _, _⟩ := own_form o5
  have H5 := Hid.mk (And.intro o5 (And.intro (H4.out.2.1.trans k5 (fun _ _ h => h)) (And.intro (own_keep H4.out.2.2 k5 (fun _ _ h => h)) (own_keep H4.out.1 k5 (fun _ _ h => h)))))
  clear o5 k5
  go_wp2_with fail
  refine (rapply_any B2 B5 P.length d2 GM.length d5 P GM _ _ w5 (Rds.of_own H5.out.2.2.1) (Rds.of_own H5.out.1) (by omega) (by omega) HG.out.2.2.2.2.1 HG.out.2.2.2.1).mono ?_
  rintro e w6 ⟨v6, rfl, o6, k6⟩
  rw [HG.out.2.2.2.2.2.2.1] at o6
  obtain ⟨B6, d6, rfl, _, _⟩ := own_form o6
  have H6 := Hid.mk (And.intro o6 (And.intro (H5.out.2.1.trans k6 (fun _ _ h => h)) (own_keep H5.out.2.2.2 k6 (fun _ _ h => h))))
  clear o6 k6
  go_wp2_with fail
  refine (samePts_any B4 B6 Q.length d4 d6 Q _ _ w6 (Rds.of_own H6.out.2.2) (Rds.of_own H6.out.1) (by omega)).mono ?_
  rintro e w7 ⟨rfl, k7⟩
  have H7 := Hid.mk (And.intro (H6.out.2.1.trans k7 (fun _ _ h => h)) (Rds.here (Rds.of_own (own_keep H6.out.2.2 k7 (fun _ _ h => h))) (by omega)))
  clear k7
  go_wp2_with fail
  go_loopw [10, 11] (fun q i wr => ∃ (k : Nat) (AL : Option Addr) (nL cL : Nat) (L : List Pt) (SL : Nat → Prop), k ≤ 2 ∧ i = .int .i64 (k : Int) ∧ q = .slice AL nL cL ∧ nL ≤ 300 ∧ Hid (RdP w7 SL AL nL L) ∧ Chg Nil w7 wr) (fun _ i _ => 2 - (intOf i).toNat)
  case atStart => exact ⟨0, B4, Q.length, d4, Q, _, by omega, rfl, rfl, by omega, Hid.mk H7.out.2, Chg.refl _ _⟩
  case round =>
    obtain ⟨k, AL, nL, cL, L, SL, hk, rfl, rfl, hnL, HL, hch⟩ := hrel
    by_cases hlt : k < 2
    · have hrl : RdP wr SL AL nL L := Rds.keep HL.out hch (fun _ _ h => h)
      have hLl := hrl.len
      by_cases hE : mayP L = 0
      · have hpb := ptsB_len L
        have hback := readP_back L hE
        have HK := Hid.mk (And.intro hch (And.intro hrl (And.intro hE (And.intro hback (And.intro hpb hLl)))))
        clear hch hrl hback hpb hLl
        go_wp2_with fail
        refine (points_ok AL nL cL L SL wr HK.out.2.1 HK.out.2.2.1).mono ?_
        rintro e w8 ⟨v8, rfl, k8, o8⟩
        obtain ⟨B8, d8, rfl, hb8, hm8⟩ := own_form o8
        have hr8 := Rds.keep HK.out.2.1 k8 (fun _ _ h => h)
        have H8 := Hid.mk (And.intro o8 (And.intro (HK.out.1.trans k8 (fun _ _ h => h)) hr8))
        clear o8 k8 hr8
        have hpM := pointsMay_any AL nL cL L SL w8 H8.out.2.2 (by omega)
        rw [hE] at hpM
        have HM := Hid.mk hpM
        clear hpM hE
        go_wp2_with fail
        refine HM.out.mono ?_
        rintro e w9 ⟨rfl, k9⟩
        have hx9 := Rds.of_own (own_keep H8.out.1 k9 (fun _ _ h => h))
        have hl9 := Rds.keep H8.out.2.2 k9 (fun _ _ h => h)
        have H9 := Hid.mk (And.intro (H8.out.2.1.trans k9 (fun _ _ h => h)) hl9)
        have hcv : ∀ x : After w9, (convert 30 9 (.slice B8 (ptsB L).length d8)).run Try.prog x.world = .ok (.string ⟨(ptsB L).toArray⟩) x.world := fun x =>
          run_bytes_str (P := Try.prog) (c := d8) (show RdB x.world _ B8 _ (ptsB L) from Rds.keep hx9 x.chg (fun _ _ h => h)) 30 9 5 Try.underlying30 Try.underlying5 Try.underlying9
        have hrec := Hid.mk (fun x : After w9 => (rpoints_any AL nL cL L SL x.world (Rds.keep hl9 x.chg (fun _ _ h => h)) (by omega)).mono (R' := fun e w' => e = .returned (.string ⟨(ptsB L).toArray⟩) ∧ ∃ y : After w9, w' = y.world) (fun e w' ⟨h1, h2⟩ => ⟨h1, ⟨w', (x.chg.trans h2 (fun _ _ h => h)).below_nil⟩, rfl⟩))
        have HX := Hid.mk hx9
        clear hx9 k9 hl9
        generalize hxb : ptsB L = xb at *
        have HXB := Hid.mk hxb
        clear hxb
        have hne := After.some w9
        go_upto_region 12 with fail
        refine wp_region_after (by kernel_rfl) (by kernel_rfl) ?_
        repeat (go_big_quiet_step (exact hrec.out _))
        refine wpQuiet_nil ?_
        rintro _ ⟨x, rfl⟩
        have k9x := H9.out.1.trans x.chg (fun _ _ h => h)
        have hrx := HX.out.keep x.chg (fun _ _ h => h)
        have H10 := Hid.mk (And.intro k9x (And.intro hrx (Rds.keep H9.out.2 x.chg (fun _ _ h => h))))
        clear hcv hrec k9x hrx
        generalize x.world = wc at *
        clear x hne
        go_wp2_with fail
        refine (readpts_any B8 d8 xb.length xb _ wc (show RdB wc _ B8 xb.length xb from H10.out.2.1) hb8 hm8).mono ?_
        rintro e w11 ⟨h11, k11⟩
        rw [HK.out.2.2.2.1] at h11
        obtain ⟨v11, rfl, o11⟩ := h11
        obtain ⟨B11, d11, rfl, _, _⟩ := own_form o11
        have hq11 := Rds.keep H10.out.2.2 k11 (fun _ _ h => h)
        have H11 := Hid.mk (And.intro o11 (And.intro (H10.out.1.trans k11 (fun _ _ h => h)) (show RdP w11 SL AL L.length L by rw [HK.out.2.2.2.2.2]; exact hq11)))
        clear o11 k11 hq11
        have hnl := HK.out.2.2.2.2.2
        subst hnl
        go_wp2_with fail
        refine (samePts_any B11 AL L.length d11 cL L _ _ w11 (Rds.of_own H11.out.1) H11.out.2.2 (by omega)).mono ?_
        rintro e w12 ⟨rfl, k12⟩
        have H12 := Hid.mk (H11.out.2.1.trans k12 (fun _ _ h => h))
        clear k12
        go_wp2_with fail
        go_roundw
        case rel => exact ⟨k + 1, A2, n2, c2, raw, _, by omega, by go_num, rfl, by omega, Hid.mk (Rds.keep HG.out.2.2.2.2.2.2.2.1 H7.out.1 (fun _ _ h => h)), H12.out⟩
        case measure => simp [intOf]; omega
      · have hrb := points_bad AL nL cL L SL wr hrl (by omega) hE
        have hpM := fun W (hW : Chg Nil wr W) => pointsMay_any AL nL cL L SL W (Rds.keep hrl hW (fun _ _ h => h)) (by omega)
        have HK := Hid.mk (And.intro hch (And.intro hrb hpM))
        clear hch hrl hrb hpM hLl
        generalize mayP L = E at *
        have hEb : ((E : Int) == 0) = false := by rw [beq_eq_false_iff_ne]; omega
        have hEc : decide (E = 0) = false := decide_eq_false hE
        have hEd : (E == 0) = false := by rw [beq_eq_false_iff_ne]; exact hE
        go_wp2_with fail
        refine HK.out.2.1.mono ?_
        rintro e w8 ⟨rfl, k8⟩
        have H8 := Hid.mk k8
        clear k8
        go_wp2_with fail
        refine (HK.out.2.2 w8 H8.out).mono ?_
        rintro e w9 ⟨rfl, k9⟩
        have H9 := Hid.mk ((HK.out.1.trans H8.out (fun _ _ h => h)).trans k9 (fun _ _ h => h))
        clear k9
        go_wp2_with fail
        go_quiet (fail)
        go_wp2_with fail
        go_roundw
        case rel => exact ⟨k + 1, A2, n2, c2, raw, _, by omega, by go_num, rfl, by omega, Hid.mk (Rds.keep HG.out.2.2.2.2.2.2.2.1 H7.out.1 (fun _ _ h => h)), H9.out.drewN _⟩
        case measure => simp [intOf]; omega
    · obtain rfl : k = 2 := by omega
      have h7r := H7.out.1.trans hch (fun _ _ h => h)
      have hr3 := HG.out.2.2.2.2.2.2.2.2.1.keep h7r (fun _ _ h => h)
      have HW := Hid.mk (And.intro h7r hr3)
      have hcv : ∀ W, Chg Nil wr W → (convert 30 9 (.slice A3 n3 c3)).run Try.prog W = .ok (.string ⟨b.toArray⟩) W := fun W hW =>
        run_bytes_str (P := Try.prog) (c := c3) (show RdB W _ A3 n3 b from hr3.keep hW (fun _ _ h => h)) 30 9 5 Try.underlying30 Try.underlying5 Try.underlying9
      have HCV := Hid.mk hcv
      clear h7r hr3 hch HL hcv
      go_wp2_with fail
      refine (readpts_any A3 c3 n3 b _ wr HW.out.2 hc3 hm3).mono ?_
      rintro e w8 ⟨h8, k8⟩
      have hcv := HCV.out w8 k8
      have hun := unpoints_any b
      cases hrp : readP b with
      | some L =>
        rw [hrp] at h8
        obtain ⟨v8, rfl, o8⟩ := h8
        obtain ⟨B8, d8, rfl, _, _⟩ := own_form o8
        have H8 := Hid.mk (And.intro o8 (And.intro (HW.out.1.trans k8 (fun _ _ h => h)) hrp))
        have HU := Hid.mk hun
        clear o8 k8 hrp hun
        go_wp2_with fail
        refine (HU.out w8 (by rw [HG.out.2.2.2.2.2.2.2.2.2]; omega)).mono ?_
        rintro e w9 ⟨h9, k9⟩
        rw [H8.out.2.2] at h9
        obtain ⟨v9, rfl, o9⟩ := h9
        obtain ⟨B9, d9, rfl, _, _⟩ := own_form o9
        have H9 := Hid.mk (And.intro o9 (And.intro (H8.out.2.1.trans k9 (fun _ _ h => h)) (own_keep H8.out.1 k9 (fun _ _ h => h))))
        clear o9 k9
        have hLl : L.length ≤ 9223372036854775807 := by
          have h := RdP.len (Rds.of_own H9.out.1)
          have := H8.out.2.2
          unfold readP at this
          split at this
          · cases this
          · split at this
            · have := Option.some.inj this
              rw [← this, ptsOf_len, HG.out.2.2.2.2.2.2.2.2.2]; omega
            · cases this
        go_wp2_with fail
        refine (samePts_any B8 B9 L.length d8 d9 L _ _ w9 (Rds.of_own H9.out.2.2) (Rds.of_own H9.out.1) hLl).mono ?_
        rintro e w10 ⟨rfl, k10⟩
        have H10 := Hid.mk (H9.out.2.1.trans k10 (fun _ _ h => h))
        clear k10
        go_wp2_with fail
        refine (awakeR_any _).mono ?_
        rintro e w11 ⟨rfl, b11⟩
        have H11 := Hid.mk b11
        clear b11
        go_wp2_with fail
        go_ret
        exact ⟨rfl, H10.out.below_nil.trans (H11.out.mono H10.out.size)⟩
      | none =>
        rw [hrp] at h8
        have h8' : e = .returned (.tuple #[.slice none 0 0, .int .i64 10]) := h8
        subst h8'
        have H8 := Hid.mk (And.intro (HW.out.1.trans k8 (fun _ _ h => h)) hrp)
        have HU := Hid.mk hun
        clear k8 hrp hun h8
        go_wp2_with fail
        refine (HU.out w8 (by rw [HG.out.2.2.2.2.2.2.2.2.2]; omega)).mono ?_
        rintro e w9 ⟨h9, k9⟩
        rw [H8.out.2] at h9
        have h9' : e = .returned (.tuple #[.slice none 0 0, .int .i64 10]) := h9
        subst h9'
        have H9 := Hid.mk (H8.out.1.trans k9 (fun _ _ h => h))
        clear k9 h9
        go_wp2_with fail
        refine (samePts_any none none 0 0 0 [] (fun _ => False) (fun _ => False) w9 (rdp_nil _ _) (rdp_nil _ _) (by omega)).mono ?_
        rintro e w10 ⟨rfl, k10⟩
        have H10 := Hid.mk (H9.out.trans k10 (fun _ _ h => h))
        clear k10
        go_wp2_with fail
        refine (awakeR_any _).mono ?_
        rintro e w11 ⟨rfl, b11⟩
        have H11 := Hid.mk b11
        clear b11
        go_wp2_with fail
        go_ret
        exact ⟨rfl, H10.out.below_nil.trans (H11.out.mono H10.out.size)⟩
end Go.Proofs.Ytmbmfhpdajdpfaa
