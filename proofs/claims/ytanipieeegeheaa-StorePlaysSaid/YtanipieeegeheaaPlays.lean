/- Joined for this seat from: XSPlays. -/
import Derived.Deep.RegionHeld3
import Derived.Deep.CutRange
import Derived.Deep.DeepCutAuto
import Derived.Test.YtanipieeegeheaaTi
namespace Go.Proofs.Ytanipieeegeheaa
open Go.RowKit

theorem plays_new (s l : Nat) (hs : 21 ≤ s) (hN : 2 * s + l ≤ 1000000) : ∃ D1, Gd s l (freshS s l) D1 ∧ openS (Dp.new (2 * s + l : Nat)) s l = freshS s l ∧ openD (Dp.new (2 * s + l : Nat)) s l = (D1, 0) ∧ (Dp.new (2 * s + l : Nat)).now.length = 2 * s + l := by
  have o := opened_new (n := 2 * s + l) (slots := s) (log := l) hN hs (Nat.le_refl _)
  exact ⟨_, Gd.of o, o.openS, Prod.ext rfl o.res, new_len hN⟩
set_option maxHeartbeats 4000000 in
set_option maxRecDepth 100000 in
theorem storePlays_walk (slots log : Int) (A : Option Addr) (n c : Nat) (qs : List (Aq × Value)) (when : Int) (w : World) (hr : RdActs w (fun k => k < w.heap.size) A n qs) (hn : n ≤ maxLen) :
    Calls Try.prog 9 #[.int .i64 slots, .int .i64 log, .slice A n c, .int .i64 when] w fun e w' => e = .returned (.bool true) ∧ Chg Nil w w' := by
  have hn' : n ≤ 9223372036854775807 := by have h := hn; unfold maxLen at h; omega
  obtain ⟨C1, hC1, hC1b⟩ := i64_and_mask slots 2047 11 rfl (by omega)
  obtain ⟨l, hC2, hl⟩ := i64_and_mask log 2047 11 rfl (by omega)
  obtain ⟨C3, hC3, hC3b⟩ := i64_and_mask when 31 5 rfl (by omega)
  obtain ⟨s, hs⟩ : ∃ s, s = C1 + 21 := ⟨_, rfl⟩
  have hs21 : 21 ≤ s := by omega
  have hs300 : s ≤ 2100 := by omega
  have hC1' : bits .and .i64 slots 2047 = (C1 : Int) := hC1
  have hC2' : bits .and .i64 log 2047 = (l : Int) := hC2
  have hC3' : bits .and .i64 when 31 = (C3 : Int) := hC3
  have hsi : (C1 : Int) + 21 = (s : Int) := by omega
  have HS := Hid.mk hsi
  obtain ⟨N, hN⟩ : ∃ N, N = 2 * s + l := ⟨_, rfl⟩
  have hNi : 2 * (s : Int) + (l : Int) = (N : Int) := by omega
  have hN12 : N ≤ 10000 := by omega
  obtain ⟨D1, g1, o1, o2, o3⟩ := plays_new s l hs21 (by omega)
  rw [← hN] at o1 o2 o3
  have HN := Hid.mk (And.intro hNi (And.intro hN (And.intro g1 (And.intro o1 (And.intro o2 o3)))))
  have HL := Hid.mk hr
  clear hC1 hC2 hC3 hsi hNi hN hr hs g1 o1 o2 o3
  go_enter Try.func9, Try.ntmps9
  go_upto_region 2 with fail
  rw [HS.out]
  go_wp2_with fail
  rw [HN.out.1]
  refine (dnew_any (N : Int) w).mono ?_
  rintro e w1 ⟨gd, M, R, rfl, c1, d1, low1⟩
  have H1 := Hid.mk (Live.mk c1 d1 low1)
  clear c1 d1 low1
  have hop := open_any H1.out.dk s l hs21 (by rw [HN.out.2.2.2.2.2]; have := HN.out.2.1; omega) (by show (0 : Nat) ≤ _; omega)
  rw [HN.out.2.2.2.1, HN.out.2.2.2.2.1] at hop
  go_wp2_with fail
  refine hop.mono ?_
  rintro e w2 ho
  rcases H1.out.opened ho with ⟨_, gs, M2, R2, rfl, r2⟩ | ⟨h9, _⟩
  rotate_left
  · exact absurd h9 (by simp)
  have H2 := Hid.mk r2
  clear r2 ho hop
  go_wp2_with fail
  refine (awake15_any w2).mono ?_
  rintro e w3 ⟨rfl, c3⟩
  have H3 := Hid.mk (H2.out.nil c3)
  clear c3
  go_wp2_with fail
  refine (rFresh_any s l w3).mono ?_
  rintro e w4 ⟨rfl, c4, f4⟩
  have hrf := f4 (fun k => M2 k ∨ k = gs) (fun k hk => by
    obtain ⟨_, _, st⟩ := H3.out.st
    exact hk.elim (fun h => st.dk.lt k (.inl h)) (fun h => by rw [h]; exact st.bk.lt))
  have hd4 : Duo w w4 gs gd w3.heap.size (freshS s l) D1 := ⟨M2, R2, _, H3.out.more c4, hrf, .inr ⟨Nat.le_refl _, hrf.lt⟩, H3.out.chg.size⟩
  obtain ⟨gw, hgw⟩ : ∃ gw, gw = w3.heap.size := ⟨_, rfl⟩
  rw [← hgw] at hd4 ⊢
  have H4 := Hid.mk hd4
  clear c4 f4 hrf hd4 hgw
  go_wp2_with fail
  go_loopw [10, 13] (fun vs vi wr => ∃ k gs : Nat, k ≤ 40 ∧ vs = .pointer (some ⟨gs, 0, none⟩) ∧ vi = .int .i64 (k : Int) ∧ Hid (∃ σ D, Duo w wr gs gd gw σ D ∧ Gd s l σ D)) (fun _ vi _ => 40 - (intOf vi).toNat)
  case atStart => exact ⟨0, gs, by omega, rfl, rfl, Hid.mk ⟨_, _, H4.out, HN.out.2.2.1⟩⟩
  case round =>
    obtain ⟨k, gt, hk, rfl, rfl, HR⟩ := hrel
    by_cases hlt : k < n ∧ k < 40
    · obtain ⟨hkn, hk40⟩ := hlt
      obtain ⟨σ, D, du, gdd⟩ := HR.out
      obtain ⟨g, o, kd, sp, op, kp, ops, B, bc, rfl, hS, hq, hfit, hoc, hcm, hro, z0, z1, z2, z3, z4⟩ := HL.out.at_ hkn
      have hlen : ops.length ≤ 9223372036854775807 := by unfold maxLen at hcm; omega
      have HQ := Hid.mk (And.intro du (And.intro gdd (And.intro hro (And.intro hoc hcm))))
      have HZ := Hid.mk (And.intro z0 (And.intro z1 (And.intro z2 (And.intro z3 z4))))
      have y0 := du.chg.cell z0 (fun h => h)
      have y1 := du.chg.cell z1 (fun h => h)
      have y2 := du.chg.cell z2 (fun h => h)
      have y3 := du.chg.cell z3 (fun h => h)
      have y4 := du.chg.cell z4 (fun h => h)
      clear du gdd hro hoc hcm hS hq hfit z0 z1 z2 z3 z4
      go_wp2_with fail
      refine (few15_any kd sp op kp B ops.length bc hlen).mono ?_
      rintro e w5 ⟨rfl, c5⟩
      have H5 := Hid.mk (HQ.out.1.nil c5)
      clear c5 y0 y1 y2 y3 y4
      have y0 := H5.out.chg.cell HZ.out.1 (fun h => h)
      have y1 := H5.out.chg.cell HZ.out.2.1 (fun h => h)
      have y2 := H5.out.chg.cell HZ.out.2.2.1 (fun h => h)
      have y3 := H5.out.chg.cell HZ.out.2.2.2.1 (fun h => h)
      have y4 := H5.out.chg.cell HZ.out.2.2.2.2 (fun h => h)
      cases hd : decide (ops.length ≤ 60) with
      | false =>
        have HC := Hid.mk H5.out.chg
        go_wp2_with fail
        go_ret
        exact ⟨rfl, HC.out⟩
      | true =>
        have hdo := do15_any H5.out HQ.out.2.1 kd sp op kp B bc ops (HQ.out.2.2.1.keep H5.out.chg (fun _ _ h => h)) HQ.out.2.2.2.1 HQ.out.2.2.2.2
        have g2 := HQ.out.2.1.act kd ops
        generalize (actP σ D kd ops).1 = σ2 at *
        generalize (actP σ D kd ops).2.1 = D2 at *
        have HG2 := Hid.mk g2
        clear g2
        go_wp2_with fail
        refine hdo.mono ?_
        rintro e w6 ⟨rfl, d6⟩
        have H6 := Hid.mk d6
        clear d6 hdo y0 y1 y2 y3 y4
        go_wp2_with fail
        refine (H6.out.same HG2.out.unbroken).mono ?_
        rintro e w7 ⟨rfl, c7⟩
        have H7 := Hid.mk (H6.out.nil c7)
        clear c7
        obtain ⟨K4, hK4, hK4b⟩ := i64_and_mask (k : Int) 31 5 rfl (by omega)
        have hK4' : bits .and .i64 (k : Int) 31 = (K4 : Int) := hK4
        obtain ⟨V, hV, hVb⟩ := i64_and_mask (when / 2 ^ K4) 1 1 rfl (by omega)
        have hV' : bits .and .i64 (when / 2 ^ K4) 1 = (V : Int) := hV
        clear hK4 hV
        by_cases hv1 : V = 1
        · subst hv1
          have HFew := Hid.mk (HG2.out.few H7.out.ok.2)
          obtain ⟨D8, g8, p1, p2, p3⟩ := again_plain HG2.out 1048576 (by omega)
          have HP := Hid.mk (And.intro g8 (And.intro p1 (And.intro p2 p3)))
          clear g8 p1 p2 p3
          go_wp2_with fail
          refine (duo_crash H7.out 1048576 (by omega) (by omega) HFew.out).mono ?_
          rintro e w8 ⟨⟨v8, rfl⟩, d8⟩
          have H8 := Hid.mk d8
          clear d8 hK4' hV'
          go_wp2_with fail
          refine (duo_open H8.out s l hs21 HP.out.2.2.2 (by show (0 : Nat) ≤ _; omega) HP.out.2.1 HP.out.2.2.1).mono ?_
          rintro e w9 ⟨gu, rfl, d9⟩
          have H9 := Hid.mk d9
          clear d9
          go_wp2_with fail
          refine (H9.out.same HG2.out.unbroken).mono ?_
          rintro e w10 ⟨rfl, c10⟩
          have H10 := Hid.mk (H9.out.nil c10)
          clear c10
          go_wp2_with fail
          go_roundw
          case rel => exact ⟨k + 1, gu, by omega, rfl, by go_num, Hid.mk ⟨σ2, D8, H10.out, HP.out.1⟩⟩
          case measure => simp [intOf]; omega
        · have hv0 : V = 0 := by omega
          subst hv0
          go_wp2_with fail
          go_roundw
          case rel => exact ⟨k + 1, gt, by omega, rfl, by go_num, Hid.mk ⟨σ2, D2, H7.out, HG2.out⟩⟩
          case measure => simp [intOf]; omega
    · have hx : ¬ k < n ∨ (k < n ∧ ¬ k < 40) := by omega
      obtain ⟨σ, D, du, gdd⟩ := HR.out
      have HQ := Hid.mk (And.intro du gdd)
      clear du gdd hlt HL
      rcases hx with hx | ⟨hx, hx2⟩
      all_goals
        go_wp2_with fail
        refine (HQ.out.1.point (C3 : Int)).mono ?_
        rintro e w5 ⟨rfl, c5⟩
        have H5 := Hid.mk (HQ.out.1.nil c5)
        clear c5
        obtain ⟨M5, R5, N5, rn5, rf5, hN5, hl5⟩ := H5.out.ex
        obtain ⟨A5, k5, ⟨_, _, _, _, _, z5⟩, kp5⟩ := rf5.cells
        have hup := rn5.st.ok.up
        have hlen := rn5.st.ok.len
        have hwant := wantL_is σ.pts (C3 : Int) hup
        have hgl := rf5.lt
        have hrd := Rds.here kp5.rd (by omega)
        have HX := Hid.mk (And.intro rn5.chg (And.intro z5 (And.intro hrd hgl)))
        clear rn5 rf5 hN5 hl5 z5 kp5 hup hrd hgl
        generalize hpt : pointP σ.pts (C3 : Int) = pt at *
        generalize hhs : hasP σ.pts (C3 : Int) = hsb at *
        obtain ⟨P, hP⟩ : ∃ P, P = σ.pts := ⟨_, rfl⟩
        obtain ⟨L, hL⟩ : ∃ L, L = σ.pts.length := ⟨_, rfl⟩
        rw [← hL] at HX hlen
        rw [← hP] at HX hwant
        have HE := Hid.mk (And.intro hwant (And.intro hP hL))
        clear hpt hhs hwant hP hL
        obtain ⟨pk, px, py, pv⟩ := pt
        unfold Pt.agg
        simp only
        go_wp2_with fail
        have hc1 : Chg Nil w5 ((w5.alloc (.cells #[.int .i64 pk, .int .i64 px, .int .i64 py, .int .i64 pv] 30)).alloc (.cells #[.int .i64 0, .int .i64 0, .int .i64 0, .int .i64 0] 30)) := ((Chg.refl _ _).alloc _).alloc _
        have hbx := (Bk.new w5 30 #[.int .i64 pk, .int .i64 px, .int .i64 py, .int .i64 pv]).alloc (.cells #[.int .i64 0, .int .i64 0, .int .i64 0, .int .i64 0] 30)
        have hby := Bk.new (w5.alloc (.cells #[.int .i64 pk, .int .i64 px, .int .i64 py, .int .i64 pv] 30)) 30 #[.int .i64 0, .int .i64 0, .int .i64 0, .int .i64 0]
        have hsz : (w5.alloc (.cells #[.int .i64 pk, .int .i64 px, .int .i64 py, .int .i64 pv] 30)).heap.size = w5.heap.size + 1 := by simp
        rw [hsz] at hby
        generalize (w5.alloc (.cells #[.int .i64 pk, .int .i64 px, .int .i64 py, .int .i64 pv] 30)).alloc (.cells #[.int .i64 0, .int .i64 0, .int .i64 0, .int .i64 0] 30) = wb at *
        obtain ⟨gy, hgy⟩ : ∃ gy, gy = w5.heap.size + 1 := ⟨_, rfl⟩
        obtain ⟨gx, hgx⟩ : ∃ gx, gx = w5.heap.size := ⟨_, rfl⟩
        rw [← hgy] at hby ⊢
        rw [← hgx] at hbx ⊢
        have z5b := hc1.cell HX.out.2.1 (fun h => h)
        have hrdb := HX.out.2.2.1.keep hc1 (fun _ _ h => h)
        have hgwy : gw ≠ gy := by have := HX.out.2.2.2; omega
        have hgxy : gx ≠ gy := by omega
        have hlowy : w.heap.size ≤ gy := by have := HX.out.1.size; omega
        have hfar : ∀ k, (True ∧ k < w5.heap.size) → k ≠ gy := fun k hk => by omega
        have HB := Hid.mk (And.intro (HX.out.1.trans hc1 (fun _ _ h => h)) (And.intro hbx (And.intro hby (And.intro z5b (And.intro hrdb (And.intro hgwy (And.intro hgxy (And.intro hlowy hfar))))))))
        clear hc1 hbx hby hsz z5b hrdb hgwy hgxy hlowy hfar hgy hgx
        go_loopw [20, 21] (fun vs vi wr => ∃ j : Nat, j ≤ L ∧ vi = .int .i64 (j : Int) ∧ vs = .bool (wantL (P.take j) (C3 : Int)).2 ∧ Hid (Chg (· = gy) wb wr ∧ Bk wr gy 30 #[.int .i64 (wantL (P.take j) (C3 : Int)).1.key, .int .i64 (wantL (P.take j) (C3 : Int)).1.x, .int .i64 (wantL (P.take j) (C3 : Int)).1.y, .int .i64 (wantL (P.take j) (C3 : Int)).1.v])) (fun _ vi _ => 20000 - (intOf vi).toNat)
        case atStart => exact ⟨0, Nat.zero_le _, rfl, rfl, Hid.mk ⟨Chg.refl _ _, HB.out.2.2.1⟩⟩
        case round =>
          obtain ⟨j, hj, rfl, rfl, HR2⟩ := hrel
          have z5 := HR2.out.1.cell HB.out.2.2.2.1 HB.out.2.2.2.2.2.1
          by_cases hjl : j < L
          · obtain ⟨b, off, rfl, _, _, hcell⟩ := (HB.out.2.2.2.2.1.keep HR2.out.1 HB.out.2.2.2.2.2.2.2.2).plain (by omega) (by omega)
            have hPl : P.length = L := by rw [HE.out.2.1, HE.out.2.2]
            have hp : P[j]? = some (P[j]'(by omega)) := List.getElem?_eq_getElem _
            generalize P[j]'(by omega) = p at hp
            have hstep := wantL_step P (C3 : Int) j p hp
            obtain ⟨qk, qx, qy, qv⟩ := p
            have q0 := hcell (j * 4 + 0) _ (pts_get P j _ hp 0 (.int .i64 qk) rfl)
            have q1 := hcell (j * 4 + 1) _ (pts_get P j _ hp 1 (.int .i64 qx) rfl)
            have q2 := hcell (j * 4 + 2) _ (pts_get P j _ hp 2 (.int .i64 qy) rfl)
            have q3 := hcell (j * 4 + 3) _ (pts_get P j _ hp 3 (.int .i64 qv) rfl)
            rw [← Nat.add_assoc] at q0 q1 q2 q3
            rw [Nat.add_zero] at q0
            have HST := Hid.mk hstep
            clear hstep hcell hp hPl
            have y0 := HR2.out.2.cell 0 rfl
            have y1 := HR2.out.2.cell 1 rfl
            have y2 := HR2.out.2.cell 2 rfl
            have y3 := HR2.out.2.cell 3 rfl
            have fz := fun j => HR2.out.2.free j
            by_cases hkey : qk = (C3 : Int)
            · subst hkey
              have hs := HST.out
              rw [if_pos rfl] at hs
              have HS2 := Hid.mk hs
              clear hs
              go_wp2_with fail
              go_roundw
              case rel =>
                refine ⟨j + 1, by omega, by go_num, by rw [HS2.out], Hid.mk ⟨?_, ?_⟩⟩
                · exact chgset (chgset (chgset (chgset HR2.out.1 0 _) 1 _) 2 _) 3 _
                · rw [HS2.out]
                  exact (((HR2.out.2.set 0 (.int .i64 (C3 : Int))).set 1 (.int .i64 qx)).set 2 (.int .i64 qy)).set 3 (.int .i64 qv)
              case measure => simp [intOf]; omega
            · have hs := HST.out
              rw [if_neg hkey] at hs
              have HS2 := Hid.mk hs
              clear hs
              go_wp2_with fail
              go_roundw
              case rel => exact ⟨j + 1, by omega, by go_num, by rw [HS2.out], Hid.mk ⟨HR2.out.1, by rw [HS2.out]; exact HR2.out.2⟩⟩
              case measure => simp [intOf]; omega
          · obtain rfl : j = L := by omega
            have hw : wantL (P.take j) (C3 : Int) = (⟨pk, px, py, pv⟩, hsb) := by
              rw [List.take_of_length_le (by rw [HE.out.2.1, ← HE.out.2.2]; exact Nat.le_refl _)]
              exact HE.out.1
            have h2 := HR2.out
            rw [hw] at h2 ⊢
            have HW := Hid.mk h2
            have hbx := HB.out.2.1.keep h2.1 HB.out.2.2.2.2.2.2.1
            have x0 := hbx.cell 0 rfl
            have x1 := hbx.cell 1 rfl
            have x2 := hbx.cell 2 rfl
            have x3 := hbx.cell 3 rfl
            have y0 := h2.2.cell 0 rfl
            have y1 := h2.2.cell 1 rfl
            have y2 := h2.2.cell 2 rfl
            have y3 := h2.2.cell 3 rfl
            clear hw h2 hbx HR2
            go_wp2_with fail
            go_ret
            exact ⟨by simp, HB.out.1.trans HW.out.1 (fun i hi hg => by have := HB.out.2.2.2.2.2.2.2.1; omega)⟩

end Go.Proofs.Ytanipieeegeheaa
