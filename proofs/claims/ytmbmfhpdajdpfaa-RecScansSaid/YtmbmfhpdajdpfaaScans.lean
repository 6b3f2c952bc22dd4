/- The walk of RecScans: it returns true, whatever the input. -/
import Derived.Test.YtmbmfhpdajdpfaaTorn
import Derived.Test.YtmbmfhpdajdpfaaRefScan
import Derived.Deep.DeepCutAuto
import Derived.Test.YtmbmfhpdajdpfaaRowMore
namespace Go.Proofs.Ytmbmfhpdajdpfaa
open Go.RowKit

set_option maxHeartbeats 1000000 in
set_option maxRecDepth 100000 in
theorem scans_walk (gen : Nat) (A1 A2 A3 A7 : Option Addr) (n1 c1 n2 c2 n3 c3 n7 c7 : Nat) (body b tail : List UInt8) (va : List Value) (a : List (List UInt8)) (S1 S2 S3 S7 : Nat → Prop) (at_ : Int) (by_ : Nat) (cut : Int) (w : World)
    (hg : gen < 18446744073709551616) (hby : by_ < 256) (h1 : RdB w S1 A1 n1 body) (h2 : Rds w S2 1 A2 n2 va) (h2l : RdL w S2 va a) (h3 : RdB w S3 A3 n3 b) (h3c : n3 ≤ c3) (h3m : c3 ≤ maxLen) (h7 : RdB w S7 A7 n7 tail) :
    Calls Try.prog 4 #[.int .u64 gen, .slice A1 n1 c1, .slice A2 n2 c2, .slice A3 n3 c3, .int .i64 at_, .int .u8 by_, .int .i64 cut, .slice A7 n7 c7] w fun e w' => e = .returned (.bool true) ∧ Below w.heap.size w w' := by
  obtain ⟨i0, hi, hz0, hz1, hz2⟩ := info_parts Try.infoByte
  have HH := Hid.mk (And.intro h1.here (And.intro (h2.here (by omega)) (And.intro (h2l.wider (T := fun k => S2 k ∧ k < w.heap.size) (fun k h hs => ⟨hs, h⟩)) (And.intro h3.here (And.intro h7.here hg)))))
  clear h1 h2 h2l h3 h7 hg
  by_cases hbig : n1 ≤ 2000 ∧ n3 ≤ 2000 ∧ n7 ≤ 200
  · obtain ⟨g1, g3, g7⟩ := hbig
    by_cases hval : gen < 1 ∨ 4611686018427387904 < gen
    focus
      have hm : recMayR gen n1 = 1 := by unfold recMayR; rw [if_neg (by omega), if_pos hval]
      have HV := Hid.mk (And.intro hval hm)
      clear hval hm
      go_enter Try.func4, Try.ntmps4
      go_wp2_with fail
      refine (put_arg gen A1 c1 n1 w (by omega) HV.out.1).mono ?_
      rintro e w1 ⟨rfl, rfl⟩
      go_wp2_with fail
      refine (recMay_any gen n1 w (by omega)).mono ?_
      rintro e w1 ⟨he, rfl⟩
      rw [HV.out.2] at he
      have he' : e = .returned (.int .i64 1) := he
      subst he'
      clear he
      go_wp2_with fail
      go_quiet (fail)
      have hcut : Hid (Below w.heap.size w (w.drewN nq)) := Hid.mk (below_dN (Below.refl _ _) _)
      generalize w.drewN nq = wc at *
      clear HV
      go_wp2_with fail
      refine (text_any gen A2 c2 n2 va a _ wc (HH.out.2.1.keep (Chg.of_below' hcut.out) (fun _ _ h => h)) (HH.out.2.2.1.keep (Chg.of_below' hcut.out) (fun _ _ h => h))).mono ?_
      rintro e w4 ⟨ht, hb4⟩
    rotate_left
    focus
      have hm : recMayR gen n1 = 0 := by unfold recMayR; rw [if_neg (by omega), if_neg hval]
      have HV := Hid.mk (And.intro hval hm)
      clear hval hm
      go_enter Try.func4, Try.ntmps4
      go_wp2_with fail
      refine (put_ok gen A1 c1 n1 body _ w HH.out.1 (by have := HV.out.1; omega) (by have := HV.out.1; omega) (by omega)).mono ?_
      rintro e w1 ⟨v1, rfl, o1, b1⟩
      obtain ⟨Ax, cx, rfl, hcx, hmx⟩ := own_form o1
      have hlb : body.length = n1 := HH.out.1.len
      have hx1 : RdB w1 (Own (.slice Ax (body.length + 13) cx)) Ax (body.length + 13) (recB gen body) := Rds.of_own o1
      have hb1 : RdB w1 (fun k => S1 k ∧ k < w.heap.size) A1 n1 body := HH.out.1.keep (Chg.of_below' b1) (fun _ _ h => h)
      have H1 := Hid.mk (And.intro hx1 (And.intro hb1 b1))
      clear o1 b1 hx1 hb1 hcx hmx
      go_wp2_with fail
      refine (recMay_any gen n1 w1 (by omega)).mono ?_
      rintro e w2 ⟨he, rfl⟩
      rw [HV.out.2] at he
      have he' : e = .returned (.int .i64 0) := he
      subst he'
      clear he
      have hcvx : ∀ x : After w1, (convert 30 9 (.slice Ax (n1 + 13) cx)).run Try.prog x.world = .ok (.string ⟨(recB gen body).toArray⟩) x.world := fun x => by
        rw [← hlb]
        exact run_bytes_str (P := Try.prog) (c := cx) (H1.out.1.keep x.chg (fun _ _ h => h)) 30 9 5 Try.underlying30 Try.underlying5 Try.underlying9
      have hcvb : ∀ x : After w1, (convert 30 9 (.slice A1 n1 c1)).run Try.prog x.world = .ok (.string ⟨body.toArray⟩) x.world := fun x =>
        run_bytes_str (P := Try.prog) (c := c1) (H1.out.2.1.keep x.chg (fun _ _ h => h)) 30 9 5 Try.underlying30 Try.underlying5 Try.underlying9
      have hrec := Hid.mk (After.call (w := w1) fun W _ => record_any gen body W (by omega))
      generalize recB gen body = rb at *
      have hne := After.some w1
      go_upto_region 5 with fail
      go_cut [78] from 54 to 78 (fun s78 wx => s78 = .bool false ∧ Hid (Below w1.heap.size w1 wx))
      case first =>
        refine wp_region_after (by kernel_rfl) (by kernel_rfl) ?_
        repeat (go_big_quiet_step (exact hrec.out _))
        refine wpQuiet_nil ?_
        rintro _ ⟨x, rfl⟩
        go_wp2_with fail
        go_meet
        exact ⟨rfl, Hid.mk x.below⟩
      rename_i s78
      obtain ⟨rfl, hbc⟩ := hcut
      have hcut : Hid (Below w.heap.size w wc) := Hid.mk (H1.out.2.2.trans (hbc.out.mono H1.out.2.2.size))
      clear HV H1 hbc hrec hlb hcvx hcvb
      go_wp2_with fail
      refine (text_any gen A2 c2 n2 va a _ wc (HH.out.2.1.keep (Chg.of_below' hcut.out) (fun _ _ h => h)) (HH.out.2.2.1.keep (Chg.of_below' hcut.out) (fun _ _ h => h))).mono ?_
      rintro e w4 ⟨ht, hb4⟩
    all_goals
      have H4 := Hid.mk (And.intro hb4 (And.intro (HH.out.2.2.2.1.keep (Chg.of_below' (hcut.out.trans (hb4.mono hcut.out.size))) (fun _ _ h => h)) (And.intro (HH.out.2.2.2.2.1.keep (Chg.of_below' (hcut.out.trans (hb4.mono hcut.out.size))) (fun _ _ h => h)) (hcut.out.trans (hb4.mono hcut.out.size)))))
      clear hb4
      by_cases ha : ∀ x ∈ a.take 8, x.length ≤ 200
      · obtain ⟨v4, rfl, o4⟩ := ht.1 ha
        obtain ⟨A4, c4, rfl, hc4, hm4⟩ := own_form o4
        have hl1 : (recsB gen (a.take 8)).length ≤ 8 * 213 := Nat.le_trans (recsB_len gen _ ha) (Nat.mul_le_mul_right _ (by rw [List.length_take]; omega))
        generalize recsB gen (a.take 8) = s at *
        have hmst : s.length ≤ maxLen := by simp only [maxLen]; omega
        clear ht o4 ha hc4 hm4
        go_upto_if 93 with (with_reducible refine wpl_bytes (o := ⟨some 90, _, _, _, _, _⟩) rfl (.tmp 89) 9 30 5 rfl Try.underlying9 Try.underlying30 Try.underlying5 s rfl hmst ?_; intro C5 w5 hC5 hM5 row5 ch5 hl5; have H5 := Hid.mk (And.intro row5 (And.intro ch5 hl5)); clear row5 ch5 hl5)
        go_cut [] from 94 to 104 (fun wx => ∃ X : List UInt8, Hid (X.length = s.length ∧ Row wx 5 1 (.slice (some ⟨w4.heap.size, 0, none⟩) s.length C5) s.length (X.map bv) ∧ Chg Nil w4 wx ∧ w4.heap.size < wx.heap.size))
        case first =>
          by_cases h0 : s.length = 0
          · go_wp2_with fail
            go_meet
            exact ⟨s, Hid.mk ⟨rfl, H5.out.1, H5.out.2.1, H5.out.2.2⟩⟩
          · have hp : 0 < s.length := by omega
            obtain ⟨D, hD, hD2⟩ := i64_and_mask at_ 65535 16 (by decide) (by omega)
            simp only [Int.cast_ofNat_Int] at hD
            obtain ⟨ix, hix, hixl⟩ : ∃ ix : Nat, (D : Int) % (s.length : Int) = (ix : Int) ∧ ix < s.length := ⟨D % s.length, by simp, Nat.mod_lt _ hp⟩
            have HP := Hid.mk h0
            clear h0
            have hcl : w5.cell? ⟨w4.heap.size, ix, none⟩ = some (.int .u8 (s[ix].toNat : Int)) := (H5.out.1.cellAt hixl).trans (by simp [hixl, bv])
            have hfr := H5.out.1.freeAt hixl
            have h256 := s[ix].toNat_lt
            have hxr := xor_byte s[ix] by_ hby
            have hst := (H5.out.1.stored ix (bv (UInt8.ofNat (s[ix].toNat ^^^ by_))))
            rw [set_map_bv] at hst
            generalize UInt8.ofNat (s[ix].toNat ^^^ by_) = nb at *
            generalize s[ix].toNat = ob at *
            have HX := Hid.mk (And.intro hxr hst)
            clear hxr hst
            go_wp2_with fail
            go_meet
            refine ⟨s.set ix nb, Hid.mk ⟨by simp, ?_, ?_, ?_⟩⟩
            · rw [HX.out.1]
              exact HX.out.2
            · exact H5.out.2.1.setCell (p := ⟨w4.heap.size, ix, none⟩) (fun h => by simp at h) _
            · have := H5.out.2.2
              simpa [World.setCell] using this
        obtain ⟨X, HX⟩ := hcut
        obtain ⟨E, hE, hE2⟩ := i64_and_mask cut 255 8 (by decide) (by omega)
        simp only [Int.cast_ofNat_Int] at hE
        obtain ⟨d, hd, hdl⟩ : ∃ d : Nat, (E : Int) % ((s.length : Int) + 1) = (d : Int) ∧ d ≤ s.length := ⟨E % (s.length + 1), by simp, by have := Nat.mod_lt E (show 0 < s.length + 1 by omega); omega⟩
        obtain ⟨q, hq, hql⟩ : ∃ q : Nat, (s.length : Int) - (d : Int) = (q : Int) ∧ q ≤ s.length := ⟨s.length - d, by omega, by omega⟩
        have hrt : RdB wc (fun k => S7 k ∧ k < w.heap.size) A7 n7 tail := H4.out.2.2.1.keep HX.out.2.2.1 (fun _ _ h => h)
        have hfront := HX.out.2.1.front hql
        have HF := Hid.mk (And.intro hrt hfront)
        clear hrt hfront
        go_wp2_with (at_builtin; refine wpl_append_row rfl (.tmp 115) (.tmp 116) 30 rfl 5 i0 _ 1 1 Try.underlying30 hi hz0 hz1 hz2 rfl (by omega) _ _ _ rfl HF.out.2 _ A7 n7 c7 _ rfl HF.out.1 (bv_one _) (by simp only [maxLen]; omega) (by omega) ?_; intro v6 w6 row6 g6; obtain ⟨A6, c6, hv6, hc6, hm6⟩ := row6.form; subst hv6; have H6 := Hid.mk (And.intro row6 (And.intro g6.chg (And.intro hc6 hm6))); clear row6 g6 hc6 hm6)
        have hb46 : Below w4.heap.size w4 w6 := H6.out.2.1.below HX.out.2.2.1.below_nil HX.out.2.2.1.size (fun i _ hi => by have := own_at hi; omega)
        have hY : RdB w6 (fun _ => True) A6 (q + n7) (X.take q ++ tail) := by
          have h : RdB w6 (Own (.slice A6 (q + n7) c6)) A6 (q + n7) (X.take q ++ tail) := by
            have h := H6.out.1.rd
            rw [Nat.mul_one, ← List.map_take, ← List.map_append] at h
            exact h
          exact h.wider (fun _ _ _ => trivial)
        have hB : RdB w6 (fun _ => True) A3 n3 b := (H4.out.2.1.keep (Chg.of_below' hb46) (fun _ _ h => h)).wider (fun _ _ _ => trivial)
        have hYl : (X.take q ++ tail).length ≤ 4000 := by rw [hY.len]; omega
        have hBl : b.length ≤ 4000 := by rw [hB.len]; omega
        have hsl : s.length ≤ 4000 := by omega
        have H7 := Hid.mk (And.intro (H4.out.2.2.2.trans (hb46.mono H4.out.2.2.2.size)) (And.intro hB hY))
        generalize X.take q ++ tail = Y at *
        clear hY hB hb46 HX HF hE hd hq
        go_loopw [24] (fun i wr => ∃ k : Nat, k ≤ 3 ∧ i = .int .i64 k ∧ Hid (Below w.heap.size w wr ∧ RdB wr (fun _ => True) A3 n3 b ∧ RdB wr (fun _ => True) A6 (q + n7) Y)) (fun i _ => 3 - (intOf i).toNat)
        case atStart => exact ⟨0, Nat.zero_le _, rfl, H7⟩
        case round =>
          obtain ⟨k, hk, rfl, HR⟩ := hrel
          by_cases hlt : k < 3
          · have hL := pickL_len (i := k) hBl hYl hsl
            go_wp2_with ((with_reducible refine wpl_bytes (o := ⟨some 126, _, _, _, _, _⟩) rfl (.tmp 125) 9 30 5 rfl Try.underlying9 Try.underlying30 Try.underlying5 s rfl hmst ?_); intro C8 w8 hC8 hM8 row8 ch8 hl8; obtain ⟨Ai, ni, ci, hpk, hpc, hpm, hpr⟩ := pick3 hlt (HR.out.2.1.keep ch8 (fun _ _ h => h)) h3c h3m (HR.out.2.2.keep ch8 (fun _ _ h => h)) H6.out.2.2.1 H6.out.2.2.2 (show RdB w8 _ _ s.length s from row8.rd) hC8 hM8; have H8 := Hid.mk (And.intro ch8 (And.intro hpr (And.intro hpc hpm))); clear row8 ch8 hl8 hpr hpc hpm)
            have hnl : ni ≤ 4000 := by rw [← H8.out.2.1.len]; exact hL
            clear hpk
            refine (scan_any gen Ai ci ni (pickL k b Y s) (fun _ => True) _ (H8.out.2.1.keep ((Chg.refl Nil w8).alloc _) (fun _ _ h => h)) H8.out.2.2.1 H8.out.2.2.2 (by omega)).mono ?_
            rintro e w9 ⟨h9, b9⟩
            obtain ⟨v9, vs9, rfl, o9, rl9⟩ := h9
            obtain ⟨A9, c9, rfl, hc9, hm9⟩ := own_form o9
            have c89 : Chg Nil w8 w9 := (((Chg.refl Nil w8).alloc _).trans (Chg.of_below' b9) (fun _ _ h => h))
            have cr9 : Chg Nil wr w9 := H8.out.1.trans c89 (fun _ _ h => h)
            have H9 := Hid.mk (And.intro o9 (And.intro rl9 cr9))
            clear o9 rl9 b9 c89 cr9 hc9 hm9 hnl
            go_wp2_with ((with_reducible refine wpl_bytes (o := ⟨some 139, _, _, _, _, _⟩) rfl (.tmp 138) 9 30 5 rfl Try.underlying9 Try.underlying30 Try.underlying5 s rfl hmst ?_); intro C10 w10 hC10 hM10 row10 ch10 hl10; obtain ⟨Aj, nj, cj, hpj, hpc, hpm, hpr⟩ := pick3 hlt (HR.out.2.1.keep (H9.out.2.2.trans ch10 (fun _ _ h => h)) (fun _ _ h => h)) h3c h3m (HR.out.2.2.keep (H9.out.2.2.trans ch10 (fun _ _ h => h)) (fun _ _ h => h)) H6.out.2.2.1 H6.out.2.2.2 (show RdB w10 _ _ s.length s from row10.rd) hC10 hM10; have hcv := fun o => run_bytes_str (P := Try.prog) (w := w10.alloc o) (c := cj) (hpr.keep ((Chg.refl Nil w10).alloc o) (fun _ _ h => h)) 30 9 5 Try.underlying30 Try.underlying5 Try.underlying9; have H10 := Hid.mk ch10; clear row10 ch10 hl10 hpr hpc hpm)
            refine (rscan_any gen (pickL k b Y s) _ HH.out.2.2.2.2.2 (by omega)).mono ?_
            rintro e w11 ⟨h11, b11⟩
            obtain ⟨v11, rfl, o11⟩ := h11
            obtain ⟨A11, c11, rfl, hc11, hm11⟩ := own_form o11
            have c911 : Chg Nil w9 w11 := H10.out.trans (((Chg.refl Nil w10).alloc _).trans (Chg.of_below' b11) (fun _ _ h => h)) (fun _ _ h => h)
            have H11 := Hid.mk (And.intro o11 (And.intro (own_keep H9.out.1 c911 (fun _ _ h => h)) (And.intro (H9.out.2.1.keep c911 (fun _ _ h => h)) (H9.out.2.2.trans c911 (fun _ _ h => h)))))
            have hrl : (scanA gen (pickL k b Y s)).1.length ≤ 9223372036854775807 := by unfold maxLen at hm11; omega
            clear o11 b11 c911 hc11 hm11 hpj hcv
            generalize scanA gen (pickL k b Y s) = r at *
            obtain ⟨wo, hwo⟩ : ∃ wo : World, wo = wr := ⟨_, rfl⟩
            subst hwo
            go_wp2_with fail
            have HI := Hid.mk (And.intro H11.out.2.2.2 (And.intro ((Rds.of_own H11.out.2.1).wider (T := fun _ => True) (fun _ _ _ => trivial) (by omega)) (And.intro (H11.out.2.2.1.wider (T := fun _ => True) (fun _ _ _ => trivial)) ((Rds.of_own H11.out.1).wider (T := fun _ => True) (fun _ _ _ => trivial) (by omega)))))
            go_loopw [29] (fun i wx => ∃ m : Nat, m ≤ r.1.length ∧ i = .int .i64 m ∧ Hid (Chg Nil wo wx ∧ Rds wx (fun _ => True) 1 A9 r.1.length vs9 ∧ RdL wx (fun _ => True) vs9 r.1 ∧ Rds wx (fun _ => True) 1 A11 r.1.length (r.1.map sv))) (fun i _ => r.1.length - (intOf i).toNat)
            case atStart => exact ⟨0, Nat.zero_le _, rfl, HI⟩
            case round =>
              obtain ⟨m, hm, rfl, HX⟩ := hrel
              by_cases hmr : m < r.1.length
              · have hg1 : r.1[m]? = some r.1[m] := List.getElem?_eq_getElem hmr
                obtain ⟨Ak, ck, hv9, _, _, hrb⟩ := HX.out.2.2.1.2 m _ hg1
                have hv11 : (r.1.map sv)[m]? = some (sv r.1[m]) := by rw [List.getElem?_map, hg1]; rfl
                obtain ⟨g9, off9, hA9, _, _, hx9⟩ := HX.out.2.1.plain (by omega) (by omega)
                obtain ⟨g11, off11, hA11, _, _, hx11⟩ := HX.out.2.2.2.plain (by omega) (by omega)
                subst hA9
                subst hA11
                have hcell9 := hx9 m _ hv9
                have hcell11 := hx11 m _ hv11
                unfold sv at hcell11
                generalize r.1[m] = bk at *
                have hcv := fun nq => run_bytes_str (P := Try.prog) (w := wr.drewN nq) (c := ck) (hrb.drewN nq) 30 9 5 Try.underlying30 Try.underlying5 Try.underlying9
                clear hg1 hv9 hv11 hrb hx9 hx11
                go_wp2_with fail
                go_quiet (fail)
                go_wp2
                go_roundw
                case rel => exact ⟨m + 1, by omega, by go_num, Hid.mk ⟨HX.out.1.drewN _, HX.out.2.1.drewN _, HX.out.2.2.1.drewN _, HX.out.2.2.2.drewN _⟩⟩
                case measure => simp [intOf]; omega
              · go_wp2_with fail
                go_roundw
                case rel => exact ⟨k + 1, by omega, by go_num, Hid.mk ⟨HX.out.1.below HR.out.1 HR.out.1.size (fun _ _ h => h.elim), HR.out.2.1.keep HX.out.1 (fun _ _ h => h), HR.out.2.2.keep HX.out.1 (fun _ _ h => h)⟩⟩
                case measure => simp [intOf]; omega
          · have : k = 3 := by omega
            subst this
            go_wp2_with fail
            refine (awakeR_any wr).mono ?_
            rintro e w12 ⟨rfl, hb12⟩
            have H12 := Hid.mk (HR.out.1.trans (hb12.mono HR.out.1.size))
            clear hb12
            go_wp2_with fail
            go_ret
            exact ⟨rfl, H12.out⟩
      · obtain rfl := ht.2 ha
        clear ht ha
        go_wp2_with fail
        refine (awakeR_any w4).mono ?_
        rintro e w5 ⟨rfl, hb5⟩
        have H5 := Hid.mk (H4.out.2.2.2.trans (hb5.mono H4.out.2.2.2.size))
        clear hb5
        go_wp2_with fail
        go_ret
        exact ⟨rfl, H5.out⟩
  · have hq : 2000 < n1 ∨ (n1 ≤ 2000 ∧ 2000 < n3) ∨ (n1 ≤ 2000 ∧ n3 ≤ 2000 ∧ 200 < n7) := by omega
    clear hbig
    rcases hq with h | ⟨h, h'⟩ | ⟨h, h', h''⟩
    all_goals
      go_enter Try.func4, Try.ntmps4
      go_wp2_with fail
      refine (awakeR_any w).mono ?_
      rintro e w1 ⟨rfl, hb1⟩
      have H1 := Hid.mk hb1
      clear hb1
      go_wp2_with fail
      go_ret
      exact ⟨rfl, H1.out⟩
end Go.Proofs.Ytmbmfhpdajdpfaa
