/- Joined for this seat from: XSTwice. -/
import Derived.Deep.RegionHeld3
import Derived.Deep.CutRange
import Derived.Test.YtanipieeegeheaaTf
namespace Go.Proofs.Ytanipieeegeheaa
open Go.RowKit

/-- Read answers the same of the same disk. -/
theorem dread_det (d : Dp) (p n : Nat) (hm : d.now.length ≤ 1000000) : ∃ (bs : List UInt8) (E : Int), bs.length ≤ 1000000 ∧ ∀ (w : World) (g : Nat) (M R : Nat → Prop), Dk w g M R d →
    Calls Try.prog 27 #[.pointer (some ⟨g, 0, none⟩), .int .i64 (p : Int), .int .i64 (n : Int)] w fun e w' => ∃ A c, e = .returned (.tuple #[.slice A bs.length c, .int .i64 E]) ∧ RdB w' (fun k => w.heap.size ≤ k) A bs.length bs ∧ Chg Nil w w' := by
  by_cases he : d.opE (p : Int) (n : Int) = 0
  · obtain ⟨hf, hd⟩ := Dp.opE_zero he
    have hp : p + n ≤ d.now.length := by simp [Dp.fits] at hf; omega
    have hl : ((d.now.drop p).take n).length = n := by rw [List.length_take, List.length_drop]; omega
    refine ⟨(d.now.drop p).take n, 0, by omega, fun w g M R h => (dread_ok h p n hp hd).mono ?_⟩
    rintro e w1 ⟨v, rfl, o1, c1⟩
    obtain ⟨A, c, rfl, _, _⟩ := own_form o1
    rw [hl]
    exact ⟨A, c, rfl, Rds.wider (Rds.of_own o1) (fun k _ hk => own_ge o1 k hk) (by omega), c1⟩
  · refine ⟨[], d.opE p n, by simp, fun w g M R h => (dread_no h p n he).mono ?_⟩
    rintro e w1 ⟨rfl, c1⟩
    exact ⟨none, 0, rfl, Rds.nil, c1⟩
theorem twice_plain {σ : Sp} {D : Dp} (h : Gd 1200 1500 σ D) (C : Int) : ∃ σj D6, Gd 1200 1500 σj D6 ∧ openS (D.crash C) 1200 1500 = σj ∧ openD (D.crash C) 1200 1500 = (D6, 0) ∧ openS D6 1200 1500 = σj ∧ openD D6 1200 1500 = (D6, 0) ∧ 2 * 1200 + 1500 ≤ (D.crash C).now.length := by
  obtain ⟨β, bo, n, hi⟩ := h.inv
  obtain ⟨j, σj, _, _, _, _, s1, s2, o⟩ := hi.back C
  rw [h.slots] at s1
  rw [h.log] at s2
  have q1 := o.openS
  have q2 := o.res
  have q3 := Gd.of o
  have q4 := openD_again o.inv o.free.dead
  have q5 := o.inv.img.opens
  have q6 := o.img.room
  rw [s1, s2] at q1 q2 q3 q4 q5 q6
  exact ⟨σj, _, q3, q1, Prod.ext rfl q2, q5, q4, q6⟩
set_option maxHeartbeats 4000000 in
set_option maxRecDepth 100000 in
theorem storeTwice_walk (A : Option Addr) (n c : Nat) (qs : List (Aq × Value)) (keep : Int) (w : World) (hr : RdActs w (fun k => k < w.heap.size) A n qs) (hn : n ≤ maxLen) :
    Calls Try.prog 8 #[.slice A n c, .int .i64 keep] w fun e w' => e = .returned (.bool true) ∧ Chg Nil w w' := by
  obtain ⟨C2, hC2, hC28⟩ := i64_and_mask keep 8191 13 rfl (by omega)
  have hnl : (Dp.new 4000).now.length = 4000 := new_len (n := 4000) (by omega)
  have o1 : Opened (Dp.new 4000) (freshS 1200 1500) (freshS 1200 1500) [] := opened_new (n := 4000) (by omega) (by omega) (by omega)
  have hN := dnew_any 4000 w
  have hO1 := fun {g : Nat} {M R : Nat → Prop} {w1 : World} (h : Dk w1 g M R (Dp.new 4000)) => open_any h 1200 1500 (by omega) (by rw [hnl]; omega) (by show (0 : Nat) ≤ _; omega)
  have e1 : openD (Dp.new 4000) 1200 1500 = ((openD (Dp.new 4000) 1200 1500).1, 0) := Prod.ext rfl o1.res
  have e2 : openS (Dp.new 4000) 1200 1500 = freshS 1200 1500 := o1.openS
  have g1 : Gd 1200 1500 (freshS 1200 1500) (openD (Dp.new 4000) 1200 1500).1 := Gd.of o1
  rw [e2, e1] at hO1
  generalize (openD (Dp.new 4000) 1200 1500).1 = D1 at *
  have hC2' : bits .and .i64 keep 8191 = (C2 : Int) := hC2
  clear hC2
  have HL := Hid.mk hr
  have HH := Hid.mk (And.intro hN (And.intro (@hO1) g1))
  clear hN hO1 e1 e2 o1 hnl g1 hr
  have hn' : n ≤ 9223372036854775807 := by have h := hn; unfold maxLen at h; omega
  go_enter Try.func8, Try.ntmps8
  go_wp2_with fail
  refine HH.out.1.mono ?_
  rintro e w1 ⟨gd, M, R, rfl, c1, d1, low1⟩
  have H1 := Hid.mk (Live.mk c1 d1 low1)
  clear c1 d1 low1
  go_wp2_with fail
  refine (HH.out.2.1 H1.out.dk).mono ?_
  rintro e w2 ho
  rcases H1.out.opened ho with ⟨_, gs, M2, R2, rfl, r2⟩ | ⟨h9, _⟩
  · have H2 := Hid.mk r2
    clear r2 ho
    go_wp2_with fail
    go_loopw [8] (fun vi wr => ∃ k : Nat, k ≤ 20 ∧ vi = .int .i64 (k : Int) ∧ Hid (∃ M R N σ D, Run w wr gs gd M R N σ D ∧ Gd 1200 1500 σ D)) (fun vi _ => 20 - (intOf vi).toNat)
    case atStart => exact ⟨0, by omega, rfl, Hid.mk ⟨_, _, _, _, _, H2.out, HH.out.2.2⟩⟩
    case round =>
      obtain ⟨k, hk, rfl, HR⟩ := hrel
      by_cases hlt : k < n ∧ k < 20
      · obtain ⟨hkn, hk20⟩ := hlt
        obtain ⟨M3, R3, N3, σ, D, rn, gdd⟩ := HR.out
        obtain ⟨g, o, kd, sp, op, kp, ops, B, bc, rfl, hS, hq, hfit, hoc, hcm, hro, z0, z1, z2, z3, z4⟩ := (HL.out.keep rn.chg (fun _ _ h => h)).at_ hkn
        have hlen : ops.length ≤ 9223372036854775807 := by unfold maxLen at hcm; omega
        have HQ := Hid.mk (And.intro rn (And.intro gdd (And.intro hro (And.intro hoc hcm))))
        have HZ := Hid.mk (And.intro z0 z4)
        clear rn gdd hro hoc hcm hS hq hfit
        go_wp2_with fail
        refine (few15_any kd sp op kp B ops.length bc hlen).mono ?_
        rintro e w4 ⟨rfl, c4⟩
        have y0 := c4.cell HZ.out.1 (fun h => h)
        have y4 := c4.cell HZ.out.2 (fun h => h)
        have H4 := Hid.mk (And.intro (HQ.out.1.nil c4) (HQ.out.2.2.1.keep c4 (fun _ _ h => h)))
        clear c4 z0 z1 z2 z3 z4 HZ
        cases hd : decide (ops.length ≤ 60) with
        | false =>
          go_wp2_with fail
          refine (awake15_any w4).mono ?_
          rintro e w5 ⟨rfl, c5⟩
          have H5 := Hid.mk (H4.out.1.chg.trans c5 (fun _ _ h => h))
          clear c5
          go_wp2_with fail
          go_ret
          exact ⟨rfl, H5.out⟩
        | true =>
          by_cases k0 : kd = 0
          · subst k0
            go_wp2_with fail
            refine (H4.out.1.applyC B ops.length bc ops H4.out.2 HQ.out.2.2.2.1 HQ.out.2.2.2.2 (HQ.out.2.1.few H4.out.1.st.dk.ok)).mono ?_
            rintro e w5 ⟨M5, R5, rfl, r5, _⟩
            have H5 := Hid.mk r5
            clear r5
            go_wp2_with fail
            go_roundw
            case rel => exact ⟨k + 1, by omega, by go_num, Hid.mk ⟨_, _, _, _, _, H5.out, HQ.out.2.1.apply ops⟩⟩
            case measure => simp [intOf]; omega
          · by_cases k2 : kd = 2
            · subst k2
              go_wp2_with fail
              refine (H4.out.1.markC (HQ.out.2.1.few H4.out.1.st.dk.ok)).mono ?_
              rintro e w5 ⟨M5, R5, rfl, r5, _⟩
              have H5 := Hid.mk r5
              clear r5
              go_wp2_with fail
              go_roundw
              case rel => exact ⟨k + 1, by omega, by go_num, Hid.mk ⟨_, _, _, _, _, H5.out, HQ.out.2.1.mark.1⟩⟩
              case measure => simp [intOf]; omega
            · have e0 : (kd == 0) = false := by rw [beq_eq_false_iff_ne]; exact k0
              have e2 : (kd == 2) = false := by rw [beq_eq_false_iff_ne]; exact k2
              go_wp2_with fail
              refine H4.out.1.syncC.mono ?_
              rintro e w5 ⟨rfl, r5, _⟩
              have H5 := Hid.mk r5
              clear r5
              go_wp2_with fail
              go_roundw
              case rel => exact ⟨k + 1, by omega, by go_num, Hid.mk ⟨_, _, _, _, _, H5.out, HQ.out.2.1.sync⟩⟩
              case measure => simp [intOf]; omega
      · have hx : ¬ k < n ∨ (k < n ∧ ¬ k < 20) := by omega
        obtain ⟨M3, R3, N3, σ, D, rn, gdd⟩ := HR.out
        obtain ⟨σj, D6, p1, p2, p3, p4, p5, p6⟩ := twice_plain gdd (C2 : Int)
        have H3 := Hid.mk (And.intro rn gdd)
        have HP := Hid.mk (And.intro p1 (And.intro p2 (And.intro p3 (And.intro p4 (And.intro p5 p6)))))
        clear rn gdd p1 p2 p3 p4 p5 p6 hlt HL
        rcases hx with hx | ⟨hx, hx2⟩
        all_goals
          go_wp2_with fail
          refine (dcrash_any H3.out.1.st.dk (C2 : Int) (by omega) (by omega) (H3.out.2.few H3.out.1.st.dk.ok)).mono ?_
          rintro e w4 ⟨⟨v4, rfl⟩, c4, d4⟩
          have H4 := Hid.mk (H3.out.1.live.step c4 d4)
          clear c4 d4
          have hop := open_any H4.out.dk 1200 1500 (by omega) HP.out.2.2.2.2.2 (by show (0 : Nat) ≤ _; omega)
          rw [HP.out.2.1, HP.out.2.2.1] at hop
          go_wp2_with fail
          refine hop.mono ?_
          rintro e w5 ho
          rcases H4.out.opened ho with ⟨_, ga, M5, R5, rfl, r5⟩ | ⟨h9, _⟩
          rotate_left
          · exact absurd h9 (by simp)
          obtain ⟨bs, E, hbl, hrd⟩ := dread_det D6 0 4000 r5.st.dk.ok.most
          have H5 := Hid.mk r5
          have HR5 := Hid.mk (And.intro hrd hbl)
          clear r5 ho hop hrd hbl
          go_wp2_with fail
          refine (HR5.out.1 _ _ _ _ H5.out.st.dk).mono ?_
          rintro e w6 ⟨A6, k6, rfl, b6, c6⟩
          have hop := open_any (H5.out.nil c6).st.dk 1200 1500 (by omega) (by have := HP.out.1; obtain ⟨_, _, _, hi⟩ := this.inv; have := hi.room; rw [HP.out.1.slots, HP.out.1.log] at this; exact this) (HP.out.1.few H5.out.st.dk.ok)
          rw [HP.out.2.2.2.1, HP.out.2.2.2.2.1] at hop
          have H6 := Hid.mk (And.intro (H5.out.nil c6) b6)
          clear b6 c6
          go_wp2_with fail
          refine hop.mono ?_
          rintro e w7 ho
          obtain ⟨gb, M7, R7, rfl, ra, rb, hw7⟩ := H6.out.1.again ho
          have b7 := H6.out.2.keep hw7.chg (fun k hk hm => by have := H5.out.st.dk.lt k (.inl hm); omega)
          have H7 := Hid.mk (And.intro ra (And.intro rb b7))
          clear ra rb b7 hw7 ho hop
          go_wp2_with fail
          refine (HR5.out.1 _ _ _ _ H7.out.1.st.dk).mono ?_
          rintro e w8 ⟨A8, k8, rfl, b8, c8⟩
          have b7 := H7.out.2.2.keep c8 (fun _ _ h => h)
          have hcv1 := run_bytes_str (P := Try.prog) (w := w8) (c := k6) b7 46 9 5 Try.underlying46 Try.underlying5 Try.underlying9
          have hcv2 := run_bytes_str (P := Try.prog) (w := w8) (c := k8) b8 46 9 5 Try.underlying46 Try.underlying5 Try.underlying9
          have H8 := Hid.mk (And.intro (H7.out.1.nil c8) (H7.out.2.1.nil c8))
          clear c8 b8 b7
          go_wp2_with fail
          refine H8.out.1.pointsC.mono ?_
          rintro e w9 ⟨A9, k9, rfl, _, q9, c9⟩
          have H9 := Hid.mk (And.intro (H8.out.1.nil c9) (And.intro (H8.out.2.nil c9) q9))
          clear c9 q9 hcv1 hcv2
          go_wp2_with fail
          refine H9.out.2.1.pointsC.mono ?_
          rintro e w10 ⟨A10, k10, rfl, _, q10, c10⟩
          have hsp := samePts_eqB A9 A10 _ _ k9 k10 σj.pts σj.pts _ _ w10 (H9.out.2.2.keep c10 (fun _ _ h => h)) q10 (by have := H9.out.1.st.ok.len; omega) (by have := H9.out.1.st.ok.len; omega)
          rw [eqB_true rfl] at hsp
          have H10 := Hid.mk (And.intro (H9.out.1.nil c10) (H9.out.2.1.nil c10))
          clear c10 q10
          go_wp2_with fail
          refine hsp.mono ?_
          rintro e w11 ⟨rfl, c11⟩
          have H11 := Hid.mk (And.intro (H10.out.1.nil c11) (H10.out.2.nil c11))
          clear c11 hsp
          go_wp2_with fail
          refine H11.out.1.uC.mono ?_
          rintro e w12 ⟨rfl, he⟩
          have he' := he.symm
          subst he'
          clear he
          go_wp2_with fail
          refine H11.out.2.uC.mono ?_
          rintro e w12 ⟨rfl, he⟩
          have he' := he.symm
          subst he'
          clear he
          go_wp2_with fail
          refine H11.out.1.genC.mono ?_
          rintro e w12 ⟨rfl, he⟩
          have he' := he.symm
          subst he'
          clear he
          go_wp2_with fail
          refine H11.out.2.genC.mono ?_
          rintro e w12 ⟨rfl, he⟩
          have he' := he.symm
          subst he'
          clear he
          go_wp2_with fail
          refine H11.out.1.roomC.mono ?_
          rintro e w12 ⟨rfl, c12⟩
          have H12 := Hid.mk (H11.out.2.nil c12)
          clear c12
          go_wp2_with fail
          refine H12.out.roomC.mono ?_
          rintro e w13 ⟨rfl, c13⟩
          have H13 := Hid.mk (H12.out.chg.trans c13 (fun _ _ h => h))
          clear c13
          go_wp2_with fail
          refine (awake15_any w13).mono ?_
          rintro e w14 ⟨rfl, c14⟩
          have H14 := Hid.mk (H13.out.trans c14 (fun _ _ h => h))
          clear c14
          go_wp2_with fail
          go_ret
          exact ⟨rfl, H14.out⟩
  · exact absurd h9 (by simp)

end Go.Proofs.Ytanipieeegeheaa
