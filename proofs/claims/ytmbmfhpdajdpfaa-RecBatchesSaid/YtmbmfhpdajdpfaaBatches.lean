/- The walk of RecBatches: it returns true, whatever the input. -/
import Derived.Test.YtmbmfhpdajdpfaaRecOps
import Derived.Test.YtmbmfhpdajdpfaaRefOps
import Derived.Test.YtmbmfhpdajdpfaaRefBatch
import Derived.Test.YtmbmfhpdajdpfaaSame
import Derived.Test.YtmbmfhpdajdpfaaAwakeR
import Derived.Test.YtmbmfhpdajdpfaaRowMore
import Derived.Test.YtmbmfhpdajdpfaaTorn
namespace Go.Proofs.Ytmbmfhpdajdpfaa
open Go.RowKit

theorem goodL_ok (l : List Oq) : ∀ (k : Nat) (o : Oq), (goodL l)[k]? = some o → o.ok = true := fun k o h => by
  have := List.mem_of_getElem? h
  exact (List.mem_filter.1 this).2
theorem goodL_may (l : List Oq) (h : (goodL l).length ≤ 100) (h0 : (goodL l).length ≠ 0) : batE (goodL l) = 0 := by
  rw [batE_all (by omega) (goodL_ok l), if_neg h0]
theorem batE_ok {l : List Oq} (h : batE l = 0) : ∀ (k : Nat) (o : Oq), l[k]? = some o → o.ok = true := fun k o hk => by
  cases hb : o.ok with
  | true => rfl
  | false => exact absurd h (batE_bad_mem (List.mem_of_getElem? hk) hb)
theorem nil_rdo (w : World) (S : Nat → Prop) : RdO w S none 0 [] := Rds.nil

set_option maxHeartbeats 8000000 in
set_option maxRecDepth 100000 in
theorem batches_walk (A0 A1 : Option Addr) (n0 c0 n1 c1 : Nat) (l : List Oq) (b : List UInt8) (S0 S1 : Nat → Prop) (at_ : Int) (by_ : Nat) (cut : Int) (w : World)
    (hby : by_ < 256) (h0 : RdO w S0 A0 n0 l) (hc0 : n0 ≤ c0) (hm0 : c0 ≤ maxLen) (h1 : RdB w S1 A1 n1 b) (hc1 : n1 ≤ c1) (hm1 : c1 ≤ maxLen) :
    Calls Try.prog 7 #[.slice A0 n0 c0, .slice A1 n1 c1, .int .i64 at_, .int .u8 by_, .int .i64 cut] w fun e w' => e = .returned (.bool true) ∧ Below w.heap.size w w' := by
  obtain ⟨i0, hi, hz0, hz1, hz2⟩ := info_parts Try.infoByte
  have HH := Hid.mk (And.intro h0 h1)
  clear h0 h1
  by_cases hf : n0 ≤ 100
  rotate_left
  · have hd : decide ((n0 : Int) ≤ 100) = false := decide_eq_false (by omega)
    go_enter Try.func7, Try.ntmps7
    go_wp2_with fail
    refine (few_any A0 n0 c0 w).mono ?_
    rintro e w1 ⟨he, hw⟩
    have hw' := hw.symm
    subst hw'
    clear hw
    rw [hd] at he
    subst he
    go_wp2_with fail
    refine (awakeR_any _).mono ?_
    rintro e w2 ⟨rfl, hb⟩
    have HB := Hid.mk hb
    clear hb
    go_wp2_with fail
    go_ret
    exact ⟨rfl, HB.out⟩
  have hd : decide ((n0 : Int) ≤ 100) = true := decide_eq_true (by omega)
  by_cases hbig : n1 ≤ 3000
  rotate_left
  · have hd2 : decide ((3000 : Int) < n1) = true := decide_eq_true (by omega)
    go_enter Try.func7, Try.ntmps7
    go_wp2_with fail
    refine (few_any A0 n0 c0 w).mono ?_
    rintro e w1 ⟨he, hw⟩
    have hw' := hw.symm
    subst hw'
    clear hw
    rw [hd] at he
    subst he
    go_wp2_with fail
    refine (awakeR_any _).mono ?_
    rintro e w2 ⟨rfl, hb⟩
    have HB := Hid.mk hb
    clear hb
    go_wp2_with fail
    go_ret
    exact ⟨rfl, HB.out⟩
  have hll := HH.out.1.len
  by_cases hE : batE l = 0
  focus
    have hBat := batch_ok A0 n0 c0 l S0 w HH.out.1 hc0 hm0 hE
    have hMay := fun W (hW : Chg Nil w W) => rmay_any A0 n0 c0 l S0 W (HH.out.1.keep hW (fun _ _ h => h)) (by omega)
    rw [hE] at hMay
    have hok := batE_ok hE
    have hBL := batB_len l
    have hRB := Hid.mk (fun (W : World) (hW : Chg Nil w W) => rbatch_any A0 n0 c0 l S0 W (HH.out.1.keep hW (fun _ _ h => h)) (by omega) hok)
    have HB := Hid.mk (And.intro hBat (And.intro hMay hE))
    clear hBat hMay hok hE
    go_enter Try.func7, Try.ntmps7
    go_wp2_with fail
    refine (few_any A0 n0 c0 w).mono ?_
    rintro e w1 ⟨he, hw⟩
    have hw' := hw.symm
    subst hw'
    clear hw
    rw [hd] at he
    subst he
    go_wp2_with fail
    refine HB.out.1.mono ?_
    rintro e w1 ⟨v, rfl, hcb, hown⟩
    obtain ⟨Ax, cx, rfl, _, _⟩ := own_form hown
    have H1 := Hid.mk (And.intro hcb hown)
    clear hcb hown
    go_wp2_with fail
    refine (HB.out.2.1 w1 H1.out.1).mono ?_
    rintro e w2 ⟨rfl, hcm⟩
    have hx := Rds.of_own (own_keep H1.out.2 hcm (fun _ _ h => h))
    have hch2 : Chg Nil w w2 := H1.out.1.trans hcm (fun _ _ h => h)
    have hcv : ∀ x : After w2, (convert 30 9 (.slice Ax (batB l).length cx)).run Try.prog x.world = .ok (.string ⟨(batB l).toArray⟩) x.world := fun x =>
      run_bytes_str (P := Try.prog) (c := cx) (show RdB x.world _ Ax _ (batB l) from Rds.keep hx x.chg (fun _ _ h => h)) 30 9 5 Try.underlying30 Try.underlying5 Try.underlying9
    have hrec := Hid.mk (fun x : After w2 => (hRB.out x.world (hch2.trans x.chg (fun _ _ h => h))).mono (R' := fun e w' => e = .returned (.string ⟨(batB l).toArray⟩) ∧ ∃ y : After w2, w' = y.world) (fun e w' ⟨h1, h2⟩ => ⟨h1, ⟨w', (x.chg.trans h2 (fun _ _ h => h)).below_nil⟩, rfl⟩))
    have H2 := Hid.mk hch2
    clear hx hcm hch2
    generalize batB l = xb at *
    have hne := After.some w2
    go_upto_region 5 with fail
    refine wp_region_after (by kernel_rfl) (by kernel_rfl) ?_
    repeat (go_big_quiet_step (exact hrec.out _))
    refine wpQuiet_nil ?_
    rintro _ ⟨x, rfl⟩
    have hcut : Hid (Chg Nil w x.world) := Hid.mk (H2.out.trans x.chg (fun _ _ h => h))
    clear hcv hrec hRB HB H1 H2 hBL
    generalize x.world = wc at *
    clear x hne
  rotate_left
  focus
    have hBat := batch_bad A0 n0 c0 l S0 w HH.out.1 hc0 hm0 hE
    have hMay := fun W (hW : Chg Nil w W) => rmay_any A0 n0 c0 l S0 W (HH.out.1.keep hW (fun _ _ h => h)) (by omega)
    have HB := Hid.mk (And.intro hBat hMay)
    clear hBat hMay
    generalize batE l = E at *
    have hEb : ((E : Int) == 0) = false := by rw [beq_eq_false_iff_ne]; omega
    have hEc : decide (E = 0) = false := decide_eq_false hE
    have hEd : (E == 0) = false := by rw [beq_eq_false_iff_ne]; exact hE
    go_enter Try.func7, Try.ntmps7
    go_wp2_with fail
    refine (few_any A0 n0 c0 w).mono ?_
    rintro e w1 ⟨he, hw⟩
    have hw' := hw.symm
    subst hw'
    clear hw
    rw [hd] at he
    subst he
    go_wp2_with fail
    refine HB.out.1.mono ?_
    rintro e w1 ⟨rfl, hcb⟩
    have H1 := Hid.mk hcb
    clear hcb
    go_wp2_with fail
    refine (HB.out.2 w1 H1.out).mono ?_
    rintro e w2 ⟨rfl, hcm⟩
    have H2 := Hid.mk (H1.out.trans hcm (fun _ _ h => h))
    clear hcm
    go_wp2_with fail
    go_quiet (fail)
    have hcut : Hid (Chg Nil w (w2.drewN nq)) := Hid.mk (H2.out.drewN _)
    generalize w2.drewN nq = wc at *
    clear H2 H1 HB hEb hEc hEd hE
  all_goals
    go_wp2_with fail
    refine (good_any A0 n0 c0 l S0 wc (HH.out.1.keep hcut.out (fun _ _ h => h)) hf).mono ?_
    rintro e w3 ⟨v3, rfl, hg3, hc3⟩
    have hgl := goodL_len l
    have hgm : ∀ h0 : (goodL l).length ≠ 0, batE (goodL l) = 0 := fun h0 => goodL_may l (by omega) h0
    have hgo := goodL_ok l
    generalize goodL l = G at *
    obtain ⟨Ag, cg, rfl, hcg, hmg⟩ := own_form hg3
    have hBL := batB_len G
    have hRB := Hid.mk (fun (W : World) (hW : Chg Nil w3 W) => rbatch_any Ag G.length cg G _ W (Rds.keep (Rds.of_own hg3) hW (fun _ _ h => h)) (by omega) hgo)
    have hback := fun h => opsD_back G (hgm h)
    have hb0 : (batB G).length ≠ 0 → G.length ≠ 0 := fun h h2 => h (by rw [List.length_eq_zero_iff.1 h2]; rfl)
    have H3 := Hid.mk (And.intro (hcut.out.trans hc3 (fun _ _ h => h)) (And.intro hg3 (fun h => hback (hb0 h))))
    clear hc3 hg3 hgo hgm hback hb0 hcut
    go_wp2_with fail
    refine (hRB.out _ (Chg.refl _ _)).mono ?_
    rintro e w4 ⟨rfl, hc4⟩
    have H4 := Hid.mk (And.intro (H3.out.1.trans hc4 (fun _ _ h => h)) (And.intro (own_keep H3.out.2.1 hc4 (fun _ _ h => h)) H3.out.2.2))
    clear hc4 H3 hRB
    generalize batB G = s at *
    have hmst : s.length ≤ maxLen := by simp only [maxLen]; omega
    go_upto_if 69 with (with_reducible refine wpl_bytes (o := ⟨some 66, _, _, _, _, _⟩) rfl (.tmp 65) 9 30 5 rfl Try.underlying9 Try.underlying30 Try.underlying5 s rfl hmst ?_; intro C5 w5 hC5 hM5 row5 ch5 hl5; have H5 := Hid.mk (And.intro row5 (And.intro ch5 hl5)); clear row5 ch5 hl5)
    go_cut [] from 16 to 95 (fun wx => ∃ X : List UInt8, Hid (X.length = s.length ∧ Row wx 5 1 (.slice (some ⟨w4.heap.size, 0, none⟩) s.length C5) s.length (X.map bv) ∧ Chg Nil w4 wx))
    case first =>
      by_cases h0 : s.length = 0
      · go_wp2_with fail
        go_meet
        exact ⟨s, Hid.mk ⟨rfl, H5.out.1, H5.out.2.1⟩⟩
      · have hp : 0 < s.length := by omega
        have hop := H4.out.2.2 h0
        have hd0 : decide ((0 : Int) < s.length) = true := decide_eq_true (by omega)
        have HOP := Hid.mk hop
        clear hop
        go_wp2_with (at_builtin; refine wpl_append rfl (.tmp 71) (.tmp 72) 30 rfl w5.heap.size 5 i0 _ 1 1 Try.underlying30 hi hz0 hz1 hz2 rfl (by omega) _ 0 [] rfl (World.ownsRow_lit w5 #[] 0 (Nat.le_refl _) (Nat.zero_le _) rfl) _ (some ⟨w4.heap.size, 0, none⟩) s.length C5 _ rfl (Rds.keep H5.out.1.rd ((Chg.refl Nil w5).alloc _) (fun _ _ h => h)) (bv_one _) (by simp only [maxLen]; omega) (by omega) (by simp) ?_; intro v6 w6 o6 g6; obtain ⟨A6, c6, hv6, hc6, hm6⟩ := own_form o6; simp only [Nat.zero_add, List.nil_append] at o6 hv6 hc6; subst hv6; have H6 := Hid.mk (And.intro o6 (And.intro g6.fresh (And.intro hc6 hm6))); clear o6 g6 hc6 hm6)
        refine (recops_any A6 c6 s.length s _ w6 (Rds.of_own H6.out.1) H6.out.2.2.1 H6.out.2.2.2).mono ?_
        rintro e w7 ⟨ho7, hc7⟩
        rw [HOP.out] at ho7
        obtain ⟨v7, rfl, hown7⟩ := ho7
        obtain ⟨A7, c7, rfl, _, _⟩ := own_form hown7
        have hc57 : Chg Nil w5 w7 := H6.out.2.1.1.trans hc7 (fun _ _ h => h)
        have H7 := Hid.mk (And.intro hc57 (And.intro hown7 (own_keep H4.out.2.1 (H5.out.2.1.trans hc57 (fun _ _ h => h)) (fun _ _ h => h))))
        clear hc57 hown7 hc7
        go_wp2_with fail
        refine (same_any A7 Ag G.length c7 cg G _ _ w7 (Rds.of_own H7.out.2.1) (Rds.of_own H7.out.2.2) (by omega)).mono ?_
        rintro e w8 ⟨rfl, hc8⟩
        have hrow : Row w8 5 1 (.slice (some ⟨w4.heap.size, 0, none⟩) s.length C5) s.length (s.map bv) := H5.out.1.keep (H7.out.1.trans hc8 (fun _ _ h => h)) (fun _ _ h => h)
        have hch8 : Chg Nil w4 w8 := H5.out.2.1.trans (H7.out.1.trans hc8 (fun _ _ h => h)) (fun _ _ h => h)
        obtain ⟨D, hD, hD2⟩ := i64_and_mask at_ 65535 16 (by decide) (by omega)
        simp only [Int.cast_ofNat_Int] at hD
        obtain ⟨ix, hix, hixl⟩ : ∃ ix : Nat, (D : Int) % (s.length : Int) = (ix : Int) ∧ ix < s.length := ⟨D % s.length, by simp, Nat.mod_lt _ hp⟩
        have HP := Hid.mk h0
        clear h0
        have hcl : w8.cell? ⟨w4.heap.size, ix, none⟩ = some (.int .u8 (s[ix].toNat : Int)) := (hrow.cellAt hixl).trans (by simp [hixl, bv])
        have hfr := hrow.freeAt hixl
        have h256 := s[ix].toNat_lt
        have hxr := xor_byte s[ix] by_ hby
        have hst := (hrow.stored ix (bv (UInt8.ofNat (s[ix].toNat ^^^ by_))))
        rw [set_map_bv] at hst
        generalize UInt8.ofNat (s[ix].toNat ^^^ by_) = nb at *
        generalize s[ix].toNat = ob at *
        have HX := Hid.mk (And.intro hxr (And.intro hst hch8))
        clear hxr hst hch8 hrow hc8
        go_wp2_with fail
        go_meet
        refine ⟨s.set ix nb, Hid.mk ⟨by simp, ?_, ?_⟩⟩
        · rw [HX.out.1]
          exact HX.out.2.1
        · exact HX.out.2.2.setCell (p := ⟨w4.heap.size, ix, none⟩) (fun h => by simp at h) _
    obtain ⟨X, HX⟩ := hcut
    obtain ⟨E', hE', hE2'⟩ := i64_and_mask cut 255 8 (by decide) (by omega)
    simp only [Int.cast_ofNat_Int] at hE'
    obtain ⟨d, hdd, hdl⟩ : ∃ d : Nat, (E' : Int) % ((s.length : Int) + 1) = (d : Int) ∧ d ≤ s.length := ⟨E' % (s.length + 1), by simp, by have := Nat.mod_lt E' (show 0 < s.length + 1 by omega); omega⟩
    obtain ⟨q, hq, hql⟩ : ∃ q : Nat, (s.length : Int) - (d : Int) = (q : Int) ∧ q ≤ s.length := ⟨s.length - d, by omega, by omega⟩
    have hY : RdB wc (fun _ => True) (some ⟨w4.heap.size, 0, none⟩) q (X.take q) := by
      have h := (HX.out.2.1.front hql).rd
      rw [Nat.mul_one, ← List.map_take] at h
      exact RdB.wider h (fun _ _ _ => trivial)
    have hB : RdB wc (fun _ => True) A1 n1 b := (HH.out.2.keep (H4.out.1.trans HX.out.2.2 (fun _ _ h => h)) (fun _ _ h => h)).wider (fun _ _ _ => trivial)
    have H7 := Hid.mk (And.intro (H4.out.1.trans HX.out.2.2 (fun _ _ h => h)) (And.intro hB hY))
    clear hB hY
    go_wp2_with fail
    clear hE' hdd hq
    go_loopw [1, 18] (fun vb i wr => ∃ k : Nat, k ≤ 2 ∧ i = .int .i64 k ∧ (k < 2 → vb = .slice A1 n1 c1) ∧ Hid (Chg Nil w wr ∧ RdB wr (fun _ => True) A1 n1 b ∧ RdB wr (fun _ => True) (some ⟨w4.heap.size, 0, none⟩) q (X.take q))) (fun _ i _ => 2 - (intOf i).toNat)
    case atStart => exact ⟨0, Nat.zero_le _, rfl, fun _ => rfl, H7⟩
    case round =>
      obtain ⟨k, hk, rfl, hvb, HR⟩ := hrel
      by_cases hlt : k < 2
      · obtain rfl := hvb hlt
        clear hvb
        rcases (show k = 0 ∨ k = 1 by omega) with rfl | rfl
        · go_wp2_with fail
          refine (recops_any A1 c1 n1 b _ _ HR.out.2.1 hc1 hm1).mono ?_
          rintro e w9 ⟨h9, hc9⟩
          have hcv := run_bytes_str (P := Try.prog) (w := w9) (c := c1) (HR.out.2.1.keep hc9 (fun _ _ h => h)) 30 9 5 Try.underlying30 Try.underlying5 Try.underlying9
          have hbl := HR.out.2.1.len
          have HQ := Hid.mk (And.intro (HR.out.1.trans hc9 (fun _ _ h => h)) (And.intro (HR.out.2.1.keep hc9 (fun _ _ h => h)) (HR.out.2.2.keep hc9 (fun _ _ h => h))))
          have HRO := Hid.mk (rops_any (b) w9 (by omega))
          clear hc9
          cases ho : opsD (b) with
          | some L =>
            rw [ho] at h9 HRO
            obtain ⟨v9, rfl, o9⟩ := h9
            obtain ⟨A9, c9, rfl, hc9, hm9⟩ := own_form o9
            have hLm : L.length ≤ 9223372036854775807 := by unfold maxLen at hm9; omega
            have HO := Hid.mk o9
            clear o9 ho
            go_wp2_with fail
            refine HRO.out.mono ?_
            rintro e w10 ⟨h10, hc10⟩
            obtain ⟨v10, rfl, o10⟩ := h10
            obtain ⟨A10, c10, rfl, _, _⟩ := own_form o10
            have HT := Hid.mk (And.intro hc10 (And.intro (own_keep HO.out hc10 (fun _ _ h => h)) o10))
            clear hc10 o10
            go_wp2_with fail
            refine (same_any A9 A10 L.length c9 c10 L _ _ w10 (Rds.of_own HT.out.2.1) (Rds.of_own HT.out.2.2) hLm).mono ?_
            rintro e w11 ⟨rfl, hc11⟩
            have hz := HT.out.1.trans hc11 (fun _ _ h => h)
            have HZ := Hid.mk (And.intro (HQ.out.1.trans hz (fun _ _ h => h)) (And.intro (HQ.out.2.1.keep hz (fun _ _ h => h)) (HQ.out.2.2.keep hz (fun _ _ h => h))))
            clear hz hc11
            go_wp2_with fail
            go_roundw
            case rel => exact ⟨1, by omega, rfl, fun h => rfl, HZ⟩
            case measure => simp [intOf]
          | none =>
            rw [ho] at h9 HRO
            have h9' : e = .returned (.tuple #[.slice none 0 0, .int .i64 10]) := h9
            subst h9'
            clear h9 ho
            go_wp2_with fail
            refine HRO.out.mono ?_
            rintro e w10 ⟨h10, hc10⟩
            have h10' : e = .returned (.tuple #[.slice none 0 0, .int .i64 10]) := h10
            subst h10'
            clear h10
            have HT := Hid.mk hc10
            clear hc10
            go_wp2_with fail
            refine (same_any none none 0 0 0 [] (fun _ => True) (fun _ => True) w10 (nil_rdo _ _) (nil_rdo _ _) (by omega)).mono ?_
            rintro e w11 ⟨rfl, hc11⟩
            have hz := HT.out.trans hc11 (fun _ _ h => h)
            have HZ := Hid.mk (And.intro (HQ.out.1.trans hz (fun _ _ h => h)) (And.intro (HQ.out.2.1.keep hz (fun _ _ h => h)) (HQ.out.2.2.keep hz (fun _ _ h => h))))
            clear hz hc11
            go_wp2_with fail
            go_roundw
            case rel => exact ⟨1, by omega, rfl, fun h => rfl, HZ⟩
            case measure => simp [intOf]
        · go_wp2_with fail
          refine (recops_any (some ⟨w4.heap.size, 0, none⟩) C5 q (X.take q) _ _ HR.out.2.2 (by omega) hM5).mono ?_
          rintro e w9 ⟨h9, hc9⟩
          have hcv := run_bytes_str (P := Try.prog) (w := w9) (c := C5) (HR.out.2.2.keep hc9 (fun _ _ h => h)) 30 9 5 Try.underlying30 Try.underlying5 Try.underlying9
          have hbl := HR.out.2.2.len
          have HQ := Hid.mk (And.intro (HR.out.1.trans hc9 (fun _ _ h => h)) (And.intro (HR.out.2.1.keep hc9 (fun _ _ h => h)) (HR.out.2.2.keep hc9 (fun _ _ h => h))))
          have HRO := Hid.mk (rops_any ((X.take q)) w9 (by omega))
          clear hc9
          cases ho : opsD ((X.take q)) with
          | some L =>
            rw [ho] at h9 HRO
            obtain ⟨v9, rfl, o9⟩ := h9
            obtain ⟨A9, c9, rfl, hc9, hm9⟩ := own_form o9
            have hLm : L.length ≤ 9223372036854775807 := by unfold maxLen at hm9; omega
            have HO := Hid.mk o9
            clear o9 ho
            go_wp2_with fail
            refine HRO.out.mono ?_
            rintro e w10 ⟨h10, hc10⟩
            obtain ⟨v10, rfl, o10⟩ := h10
            obtain ⟨A10, c10, rfl, _, _⟩ := own_form o10
            have HT := Hid.mk (And.intro hc10 (And.intro (own_keep HO.out hc10 (fun _ _ h => h)) o10))
            clear hc10 o10
            go_wp2_with fail
            refine (same_any A9 A10 L.length c9 c10 L _ _ w10 (Rds.of_own HT.out.2.1) (Rds.of_own HT.out.2.2) hLm).mono ?_
            rintro e w11 ⟨rfl, hc11⟩
            have hz := HT.out.1.trans hc11 (fun _ _ h => h)
            have HZ := Hid.mk (And.intro (HQ.out.1.trans hz (fun _ _ h => h)) (And.intro (HQ.out.2.1.keep hz (fun _ _ h => h)) (HQ.out.2.2.keep hz (fun _ _ h => h))))
            clear hz hc11
            go_wp2_with fail
            go_roundw
            case rel => exact ⟨2, by omega, rfl, fun h => absurd h (by omega), HZ⟩
            case measure => simp [intOf]
          | none =>
            rw [ho] at h9 HRO
            have h9' : e = .returned (.tuple #[.slice none 0 0, .int .i64 10]) := h9
            subst h9'
            clear h9 ho
            go_wp2_with fail
            refine HRO.out.mono ?_
            rintro e w10 ⟨h10, hc10⟩
            have h10' : e = .returned (.tuple #[.slice none 0 0, .int .i64 10]) := h10
            subst h10'
            clear h10
            have HT := Hid.mk hc10
            clear hc10
            go_wp2_with fail
            refine (same_any none none 0 0 0 [] (fun _ => True) (fun _ => True) w10 (nil_rdo _ _) (nil_rdo _ _) (by omega)).mono ?_
            rintro e w11 ⟨rfl, hc11⟩
            have hz := HT.out.trans hc11 (fun _ _ h => h)
            have HZ := Hid.mk (And.intro (HQ.out.1.trans hz (fun _ _ h => h)) (And.intro (HQ.out.2.1.keep hz (fun _ _ h => h)) (HQ.out.2.2.keep hz (fun _ _ h => h))))
            clear hz hc11
            go_wp2_with fail
            go_roundw
            case rel => exact ⟨2, by omega, rfl, fun h => absurd h (by omega), HZ⟩
            case measure => simp [intOf]
      · obtain rfl : k = 2 := by omega
        clear hvb
        go_wp2_with fail
        refine (awakeR_any _).mono ?_
        rintro e w2 ⟨rfl, hb⟩
        have HB := Hid.mk (HR.out.1.trans (Chg.of_below' hb) (fun _ _ h => h))
        clear hb
        go_wp2_with fail
        go_ret
        exact ⟨rfl, HB.out.below_nil⟩
end Go.Proofs.Ytmbmfhpdajdpfaa
