/- Joined for this seat from: XSDead. -/
import Derived.Deep.RegionHeld3
import Derived.Deep.CutRange
import Derived.Test.YtanipieeegeheaaTf
namespace Go.Proofs.Ytanipieeegeheaa
open Go.RowKit

theorem batE_not9 (l : List Oq) : batE l ≠ 9 := by
  unfold batE
  split
  · decide
  · split <;> decide
/-- What a call of a store does, as this statement asks. -/
structure Dies (σ : Sp) (D : Dp) (r : Sp × Dp × Nat) : Prop where
  gone : σ.broken = true → r.1 = σ ∧ r.2.1 = D ∧ r.2.2 = 9
  tells : σ.broken = false → (r.2.2 = 9 ↔ r.1.broken = true)
  dead : (σ.broken = true → D.dead = true) → r.1.broken = true → r.2.1.dead = true
  few : r.2.1.waits.length ≤ D.waits.length + 1
theorem dies_apply (σ : Sp) (D : Dp) (ops : List Oq) : Dies σ D (applyP σ D ops) := by
  cases hb : σ.broken with
  | true =>
    have he : applyE σ ops = 9 := by unfold applyE; rw [hb]; rfl
    rw [applyP_no (by omega), he]
    exact ⟨fun _ => ⟨rfl, rfl, rfl⟩, fun h => absurd (hb.symm.trans h) (by decide), fun h _ => h hb, Nat.le_succ _⟩
  | false =>
    by_cases he : applyE σ ops = 0
    · unfold applyP
      rw [if_neg (by omega)]
      cases hd : D.dead with
      | true => exact ⟨fun h => absurd (hb.symm.trans h) (by decide), fun _ => ⟨fun _ => rfl, fun _ => rfl⟩, fun _ _ => hd, Nat.le_succ _⟩
      | false =>
        simp only [Bool.false_eq_true, if_false]
        refine ⟨fun h => absurd (hb.symm.trans h) (by decide), fun _ => ⟨fun h => absurd h (show ¬ (0 : Nat) = 9 by decide), fun h => absurd (hb.symm.trans h) (by decide)⟩, fun _ h => absurd (hb.symm.trans h) (by decide), ?_⟩
        show (D.waits ++ [(_, _)]).length ≤ _
        simp
    · rw [applyP_no he]
      have h9 := applyE_not9 hb (batE_not9 ops)
      exact ⟨fun h => absurd (hb.symm.trans h) (by decide), fun _ => ⟨fun h => absurd h h9, fun h => absurd (hb.symm.trans h) (by decide)⟩, fun _ h => absurd (hb.symm.trans h) (by decide), Nat.le_succ _⟩
theorem dies_sync (σ : Sp) (D : Dp) : Dies σ D (syncP σ D) := by
  unfold syncP
  cases hb : σ.broken with
  | true => exact ⟨fun _ => ⟨rfl, rfl, rfl⟩, fun h => absurd (hb.symm.trans h) (by decide), fun h _ => h hb, Nat.le_succ _⟩
  | false =>
    cases hd : D.dead with
    | true => exact ⟨fun h => absurd (hb.symm.trans h) (by decide), fun _ => ⟨fun _ => rfl, fun _ => rfl⟩, fun _ _ => hd, Nat.le_succ _⟩
    | false =>
      simp only [Bool.false_eq_true, if_false]
      exact ⟨fun h => absurd (hb.symm.trans h) (by decide), fun _ => ⟨fun h => absurd h (show ¬ (0 : Nat) = 9 by decide), fun h => absurd (hb.symm.trans h) (by decide)⟩, fun _ h => absurd (hb.symm.trans h) (by decide), Nat.zero_le _⟩
theorem slotW_le1 (d : Dp) (p : Nat) (b : List UInt8) : (slotW d p b).1.waits.length ≤ d.waits.length + 1 := by
  unfold slotW
  split
  · exact stepW_le _ _
  · rename_i h1
    have w1 := stepW_waits (Decidable.of_not_not h1)
    split
    · have := @stepW_le (stepW d p [0]).1 (p + 1) b
      rw [w1] at this
      exact Nat.le_trans this (by simp)
    · rename_i h2
      have w2 := stepW_waits (Decidable.of_not_not h2)
      have := @stepW_le (stepW (stepW d p [0]).1 (p + 1) b).1 p [197]
      rw [w2] at this
      exact Nat.le_trans this (by simp)
theorem dies_mark (σ : Sp) (D : Dp) : Dies σ D (markP σ D) := by
  cases hb : σ.broken with
  | true =>
    have he : markE σ = 9 := by unfold markE; rw [hb]; rfl
    rw [markP_no (by omega), he]
    exact ⟨fun _ => ⟨rfl, rfl, rfl⟩, fun h => absurd (hb.symm.trans h) (by decide), fun h _ => h hb, Nat.le_succ _⟩
  | false =>
    by_cases he : markE σ = 0
    · unfold markP
      rw [if_neg (by omega)]
      split
      · rename_i h1
        exact ⟨fun h => absurd (hb.symm.trans h) (by decide), fun _ => ⟨fun _ => rfl, fun _ => rfl⟩, fun _ _ => slotW_dead_of h1, slotW_le1 _ _ _⟩
      · rename_i h1
        have w1 := slotW_waits (Decidable.of_not_not h1)
        have h3 := @stepW_le (slotW D (σ.to * σ.slots) σ.snap.bytes).1 (2 * σ.slots) (zeros σ.used)
        rw [w1] at h3
        split
        · rename_i h2
          exact ⟨fun h => absurd (hb.symm.trans h) (by decide), fun _ => ⟨fun _ => rfl, fun _ => rfl⟩, fun _ _ => stepW_dead_of h2, Nat.le_trans h3 (by simp)⟩
        · exact ⟨fun h => absurd (hb.symm.trans h) (by decide), fun _ => ⟨fun h => absurd h (show ¬ (0 : Nat) = 9 by decide), fun h => absurd (hb.symm.trans h) (by decide)⟩, fun _ h => absurd (hb.symm.trans h) (by decide), Nat.le_trans h3 (by simp)⟩
    · rw [markP_no he]
      have h9 : markE σ ≠ 9 := by
        unfold markE
        rw [hb, if_neg (by decide)]
        split
        · decide
        · split <;> decide
      exact ⟨fun h => absurd (hb.symm.trans h) (by decide), fun _ => ⟨fun h => absurd h h9, fun h => absurd (hb.symm.trans h) (by decide)⟩, fun _ h => absurd (hb.symm.trans h) (by decide), Nat.le_succ _⟩
set_option maxHeartbeats 4000000 in
set_option maxRecDepth 100000 in
theorem storeDead_walk (A : Option Addr) (n c : Nat) (qs : List (Aq × Value)) (stop : Int) (w : World) (hr : RdActs w (fun k => k < w.heap.size) A n qs) (hn : n ≤ maxLen) :
    Calls Try.prog 11 #[.slice A n c, .int .i64 stop] w fun e w' => e = .returned (.bool true) ∧ Chg Nil w w' := by
  obtain ⟨C2, hC2, hC28⟩ := i64_and_mask stop 31 5 rfl (by omega)
  have hnl : (Dp.new 2000).now.length = 2000 := new_len (n := 2000) (by omega)
  have o1 : Opened (Dp.new 2000) (freshS 500 1000) (freshS 500 1000) [] := opened_new (n := 2000) (by omega) (by omega) (by omega)
  have hN := dnew_any 2000 w
  have hO1 := fun {g : Nat} {M R : Nat → Prop} {w1 : World} (h : Dk w1 g M R (Dp.new 2000)) => open_any h 500 1000 (by omega) (by rw [hnl]; omega) (by show (0 : Nat) ≤ _; omega)
  have e1 : openD (Dp.new 2000) 500 1000 = ((openD (Dp.new 2000) 500 1000).1, 0) := Prod.ext rfl o1.res
  have e2 : openS (Dp.new 2000) 500 1000 = freshS 500 1000 := o1.openS
  have w1 : (openD (Dp.new 2000) 500 1000).1.waits.length ≤ 0 := o1.inv.many
  rw [e2, e1] at hO1
  generalize (openD (Dp.new 2000) 500 1000).1 = D1 at *
  have hC2' : bits .and .i64 stop 31 = (C2 : Int) := hC2
  clear hC2
  have HL := Hid.mk hr
  have HH := Hid.mk (And.intro hN (And.intro (@hO1) w1))
  clear hN hO1 e1 e2 o1 hnl w1 hr
  have hn' : n ≤ 9223372036854775807 := by have h := hn; unfold maxLen at h; omega
  go_enter Try.func11, Try.ntmps11
  go_wp2_with fail
  refine HH.out.1.mono ?_
  rintro e w1 ⟨gd, M, R, rfl, c1, d1, low1⟩
  have H1 := Hid.mk (Live.mk c1 d1 low1)
  clear c1 d1 low1
  go_wp2_with fail
  refine (HH.out.2.1 H1.out.dk).mono ?_
  rintro e w2 ho
  rcases H1.out.opened ho with ⟨_, gs, M2, R2, rfl, r2⟩ | ⟨h9, _⟩
  rotate_left
  · exact absurd h9 (by simp)
  have H2 := Hid.mk r2
  clear r2 ho
  go_wp2_with fail
  refine (stop_any H2.out.st.dk (C2 : Int) (by omega)).mono ?_
  rintro e w3 ⟨⟨v3, rfl⟩, c3, d3⟩
  have H3 := Hid.mk (H2.out.disk (Went.of_chg (H2.out.st.dk.chg_own c3)) d3 rfl)
  clear c3 d3
  go_wp2_with fail
  go_loopw [8, 9] (fun vb vi wr => ∃ (k : Nat) (b : Bool), k ≤ 30 ∧ vb = .bool b ∧ vi = .int .i64 (k : Int) ∧ Hid (∃ M R N σ D, Run w wr gs gd M R N σ D ∧ σ.broken = b ∧ (b = true → D.dead = true) ∧ D.waits.length ≤ k)) (fun _ vi _ => 30 - (intOf vi).toNat)
  case atStart => exact ⟨0, false, by omega, rfl, rfl, Hid.mk ⟨_, _, _, _, _, H3.out, rfl, fun h => (by cases h), HH.out.2.2⟩⟩
  case round =>
    obtain ⟨k, b, hk, rfl, rfl, HR⟩ := hrel
    by_cases hlt : k < n ∧ k < 30
    · obtain ⟨hkn, hk20⟩ := hlt
      obtain ⟨M3, R3, N3, σ, D, rn, hb, hbd, hfew⟩ := HR.out
      obtain ⟨g, o, kd, sp, op, kp, ops, B, bc, rfl, hS, hq, hfit, hoc, hcm, hro, z0, z1, z2, z3, z4⟩ := HL.out.at_ hkn
      have hlen : ops.length ≤ 9223372036854775807 := by unfold maxLen at hcm; omega
      have HQ := Hid.mk (And.intro rn (And.intro hb (And.intro hro (And.intro hoc (And.intro hcm (And.intro hbd hfew))))))
      have HZ := Hid.mk (And.intro z0 z4)
      have y0 := rn.chg.cell z0 (fun h => h)
      have y1 := rn.chg.cell z1 (fun h => h)
      have y2 := rn.chg.cell z2 (fun h => h)
      have y3 := rn.chg.cell z3 (fun h => h)
      have y4 := rn.chg.cell z4 (fun h => h)
      clear rn hb hbd hfew hro hoc hcm hS hq hfit z0 z1 z2 z3 z4
      go_wp2_with fail
      refine (few15_any kd sp op kp B ops.length bc hlen).mono ?_
      rintro e w4 ⟨rfl, c4⟩
      have H4 := Hid.mk (HQ.out.1.nil c4)
      clear c4 y0 y1 y2 y3 y4
      cases hd : decide (ops.length ≤ 60) with
      | false =>
        go_wp2_with fail
        refine (awake15_any w4).mono ?_
        rintro e w5 ⟨rfl, c5⟩
        have H5 := Hid.mk (H4.out.chg.trans c5 (fun _ _ h => h))
        clear c5
        go_wp2_with fail
        go_ret
        exact ⟨rfl, H5.out⟩
      | true =>
        go_wp2_with fail
        refine H4.out.pointsC.mono ?_
        rintro e w5 ⟨A5, k5, rfl, q5, _, c5⟩
        have H5 := Hid.mk (And.intro (H4.out.nil c5) q5)
        clear q5 c5
        go_wp2_with fail
        refine H5.out.1.uC.mono ?_
        rintro e w6 ⟨rfl, he⟩
        have he' := he.symm
        subst he'
        clear he
        go_wp2_with fail
        refine H5.out.1.genC.mono ?_
        rintro e w6 ⟨rfl, he⟩
        have he' := he.symm
        subst he'
        clear he
        have y0 := H5.out.1.chg.cell HZ.out.1 (fun h => h)
        have y4 := H5.out.1.chg.cell HZ.out.2 (fun h => h)
        by_cases k0 : kd = 0
        · subst k0
          have hdi := dies_apply σ D ops
          have hcl := H5.out.1.applyC B ops.length bc ops (HQ.out.2.2.1.keep H5.out.1.chg (fun _ _ h => h)) HQ.out.2.2.2.1 HQ.out.2.2.2.2.1 (by have := HQ.out.2.2.2.2.2.2; omega)
          generalize applyP σ D ops = r at *
          cases b with
          | true =>
            obtain ⟨ra, rb, rc⟩ := hdi.gone HQ.out.2.1
            have rc' : ((r.2.2 : Nat) : Int) = 9 := by rw [rc]; rfl
            rw [rc', ra, rb] at hcl
            clear hdi ra rb rc rc'
            go_wp2_with fail
            refine hcl.mono ?_
            rintro e w7 ⟨M7, R7, rfl, r7, hw7⟩
            have H7 := Hid.mk (And.intro r7 (H5.out.2.wentS hw7))
            clear r7 hw7 hcl y0 y4
            go_wp2_with fail
            refine H7.out.1.pointsC.mono ?_
            rintro e w8 ⟨A8, k8, rfl, _, q8, c8⟩
            have hsp := samePts_eqB A8 A5 _ _ k8 k5 σ.pts σ.pts _ _ w8 q8 (H7.out.2.nil c8).rd (by have := H5.out.1.st.ok.len; omega) (by have := H5.out.1.st.ok.len; omega)
            rw [eqB_true rfl] at hsp
            have H8 := Hid.mk (H7.out.1.nil c8)
            clear q8 c8
            go_wp2_with fail
            refine hsp.mono ?_
            rintro e w9 ⟨rfl, c9⟩
            have H9 := Hid.mk (H8.out.nil c9)
            clear c9 hsp
            go_wp2_with fail
            refine H9.out.uC.mono ?_
            rintro e w10 ⟨rfl, he⟩
            have he' := he.symm
            subst he'
            clear he
            go_wp2_with fail
            refine H9.out.genC.mono ?_
            rintro e w10 ⟨rfl, he⟩
            have he' := he.symm
            subst he'
            clear he
            go_wp2_with fail
            go_roundw
            case rel => exact ⟨k + 1, true, by omega, rfl, by go_num, Hid.mk ⟨_, _, _, _, _, H9.out, HQ.out.2.1, fun _ => HQ.out.2.2.2.2.2.1 trivial, by have := HQ.out.2.2.2.2.2.2; omega⟩⟩
            case measure => simp [intOf]; omega
          | false =>
            have ht := hdi.tells HQ.out.2.1
            have hdd := hdi.dead (fun h => absurd h (by rw [HQ.out.2.1]; decide))
            have hff := hdi.few
            obtain ⟨σ7, D7, f7⟩ := r
            simp only at hcl ht hdd hff
            have HT := Hid.mk (And.intro hdd hff)
            clear hdi hdd hff
            by_cases h9 : f7 = 9
            · subst h9
              have hb7 := ht.1 rfl
              clear ht
              have hcl9 : ((9 : Nat) : Int) = 9 := rfl
              rw [hcl9] at hcl
              go_wp2_with fail
              refine hcl.mono ?_
              rintro e w7 ⟨M7, R7, rfl, r7, hw7⟩
              have H7 := Hid.mk (And.intro r7 hb7)
              clear r7 hw7 hcl y0 y4 hb7 hcl9
              go_wp2_with fail
              go_roundw
              case rel => exact ⟨k + 1, true, by omega, rfl, by go_num, Hid.mk ⟨_, _, _, _, _, H7.out.1, H7.out.2, fun _ => HT.out.1 H7.out.2, by have := HQ.out.2.2.2.2.2.2; have := HT.out.2; omega⟩⟩
              case measure => simp [intOf]; omega
            · have hb7 : σ7.broken = false := by
                cases hx : σ7.broken with
                | true => exact absurd (ht.2 hx) h9
                | false => rfl
              clear ht
              have h9b : (((f7 : Nat) : Int) == 9) = false := by rw [beq_eq_false_iff_ne]; omega
              have HB := Hid.mk hb7
              clear hb7
              go_wp2_with fail
              refine hcl.mono ?_
              rintro e w7 ⟨M7, R7, rfl, r7, hw7⟩
              have H7 := Hid.mk (And.intro r7 HB.out)
              clear r7 hw7 hcl y0 y4
              go_wp2_with fail
              go_roundw
              case rel => exact ⟨k + 1, false, by omega, rfl, by go_num, Hid.mk ⟨_, _, _, _, _, H7.out.1, H7.out.2, fun h => (by cases h), by have := HQ.out.2.2.2.2.2.2; have := HT.out.2; omega⟩⟩
              case measure => simp [intOf]; omega
        · by_cases k2 : kd = 2
          · subst k2
            have hdi := dies_mark σ D
            have hcl := H5.out.1.markC (by have := HQ.out.2.2.2.2.2.2; omega)
            generalize markP σ D = r at *
            cases b with
            | true =>
              obtain ⟨ra, rb, rc⟩ := hdi.gone HQ.out.2.1
              have rc' : ((r.2.2 : Nat) : Int) = 9 := by rw [rc]; rfl
              rw [rc', ra, rb] at hcl
              clear hdi ra rb rc rc'
              go_wp2_with fail
              refine hcl.mono ?_
              rintro e w7 ⟨M7, R7, rfl, r7, hw7⟩
              have H7 := Hid.mk (And.intro r7 (H5.out.2.wentS hw7))
              clear r7 hw7 hcl y0 y4
              go_wp2_with fail
              refine H7.out.1.pointsC.mono ?_
              rintro e w8 ⟨A8, k8, rfl, _, q8, c8⟩
              have hsp := samePts_eqB A8 A5 _ _ k8 k5 σ.pts σ.pts _ _ w8 q8 (H7.out.2.nil c8).rd (by have := H5.out.1.st.ok.len; omega) (by have := H5.out.1.st.ok.len; omega)
              rw [eqB_true rfl] at hsp
              have H8 := Hid.mk (H7.out.1.nil c8)
              clear q8 c8
              go_wp2_with fail
              refine hsp.mono ?_
              rintro e w9 ⟨rfl, c9⟩
              have H9 := Hid.mk (H8.out.nil c9)
              clear c9 hsp
              go_wp2_with fail
              refine H9.out.uC.mono ?_
              rintro e w10 ⟨rfl, he⟩
              have he' := he.symm
              subst he'
              clear he
              go_wp2_with fail
              refine H9.out.genC.mono ?_
              rintro e w10 ⟨rfl, he⟩
              have he' := he.symm
              subst he'
              clear he
              go_wp2_with fail
              go_roundw
              case rel => exact ⟨k + 1, true, by omega, rfl, by go_num, Hid.mk ⟨_, _, _, _, _, H9.out, HQ.out.2.1, fun _ => HQ.out.2.2.2.2.2.1 trivial, by have := HQ.out.2.2.2.2.2.2; omega⟩⟩
              case measure => simp [intOf]; omega
            | false =>
              have ht := hdi.tells HQ.out.2.1
              have hdd := hdi.dead (fun h => absurd h (by rw [HQ.out.2.1]; decide))
              have hff := hdi.few
              obtain ⟨σ7, D7, f7⟩ := r
              simp only at hcl ht hdd hff
              have HT := Hid.mk (And.intro hdd hff)
              clear hdi hdd hff
              by_cases h9 : f7 = 9
              · subst h9
                have hb7 := ht.1 rfl
                clear ht
                have hcl9 : ((9 : Nat) : Int) = 9 := rfl
                rw [hcl9] at hcl
                go_wp2_with fail
                refine hcl.mono ?_
                rintro e w7 ⟨M7, R7, rfl, r7, hw7⟩
                have H7 := Hid.mk (And.intro r7 hb7)
                clear r7 hw7 hcl y0 y4 hb7 hcl9
                go_wp2_with fail
                go_roundw
                case rel => exact ⟨k + 1, true, by omega, rfl, by go_num, Hid.mk ⟨_, _, _, _, _, H7.out.1, H7.out.2, fun _ => HT.out.1 H7.out.2, by have := HQ.out.2.2.2.2.2.2; have := HT.out.2; omega⟩⟩
                case measure => simp [intOf]; omega
              · have hb7 : σ7.broken = false := by
                  cases hx : σ7.broken with
                  | true => exact absurd (ht.2 hx) h9
                  | false => rfl
                clear ht
                have h9b : (((f7 : Nat) : Int) == 9) = false := by rw [beq_eq_false_iff_ne]; omega
                have HB := Hid.mk hb7
                clear hb7
                go_wp2_with fail
                refine hcl.mono ?_
                rintro e w7 ⟨M7, R7, rfl, r7, hw7⟩
                have H7 := Hid.mk (And.intro r7 HB.out)
                clear r7 hw7 hcl y0 y4
                go_wp2_with fail
                go_roundw
                case rel => exact ⟨k + 1, false, by omega, rfl, by go_num, Hid.mk ⟨_, _, _, _, _, H7.out.1, H7.out.2, fun h => (by cases h), by have := HQ.out.2.2.2.2.2.2; have := HT.out.2; omega⟩⟩
                case measure => simp [intOf]; omega
          · have e0 : (kd == 0) = false := by rw [beq_eq_false_iff_ne]; exact k0
            have e2 : (kd == 2) = false := by rw [beq_eq_false_iff_ne]; exact k2
            have hdi := dies_sync σ D
            have hcl := H5.out.1.syncC
            generalize syncP σ D = r at *
            cases b with
            | true =>
              obtain ⟨ra, rb, rc⟩ := hdi.gone HQ.out.2.1
              have rc' : ((r.2.2 : Nat) : Int) = 9 := by rw [rc]; rfl
              rw [rc', ra, rb] at hcl
              clear hdi ra rb rc rc'
              go_wp2_with fail
              refine hcl.mono ?_
              rintro e w7 ⟨rfl, r7, hw7⟩
              have H7 := Hid.mk (And.intro r7 (H5.out.2.wentS hw7))
              clear r7 hw7 hcl y0 y4
              go_wp2_with fail
              refine H7.out.1.pointsC.mono ?_
              rintro e w8 ⟨A8, k8, rfl, _, q8, c8⟩
              have hsp := samePts_eqB A8 A5 _ _ k8 k5 σ.pts σ.pts _ _ w8 q8 (H7.out.2.nil c8).rd (by have := H5.out.1.st.ok.len; omega) (by have := H5.out.1.st.ok.len; omega)
              rw [eqB_true rfl] at hsp
              have H8 := Hid.mk (H7.out.1.nil c8)
              clear q8 c8
              go_wp2_with fail
              refine hsp.mono ?_
              rintro e w9 ⟨rfl, c9⟩
              have H9 := Hid.mk (H8.out.nil c9)
              clear c9 hsp
              go_wp2_with fail
              refine H9.out.uC.mono ?_
              rintro e w10 ⟨rfl, he⟩
              have he' := he.symm
              subst he'
              clear he
              go_wp2_with fail
              refine H9.out.genC.mono ?_
              rintro e w10 ⟨rfl, he⟩
              have he' := he.symm
              subst he'
              clear he
              go_wp2_with fail
              go_roundw
              case rel => exact ⟨k + 1, true, by omega, rfl, by go_num, Hid.mk ⟨_, _, _, _, _, H9.out, HQ.out.2.1, fun _ => HQ.out.2.2.2.2.2.1 trivial, by have := HQ.out.2.2.2.2.2.2; omega⟩⟩
              case measure => simp [intOf]; omega
            | false =>
              have ht := hdi.tells HQ.out.2.1
              have hdd := hdi.dead (fun h => absurd h (by rw [HQ.out.2.1]; decide))
              have hff := hdi.few
              obtain ⟨σ7, D7, f7⟩ := r
              simp only at hcl ht hdd hff
              have HT := Hid.mk (And.intro hdd hff)
              clear hdi hdd hff
              by_cases h9 : f7 = 9
              · subst h9
                have hb7 := ht.1 rfl
                clear ht
                have hcl9 : ((9 : Nat) : Int) = 9 := rfl
                rw [hcl9] at hcl
                go_wp2_with fail
                refine hcl.mono ?_
                rintro e w7 ⟨rfl, r7, hw7⟩
                have H7 := Hid.mk (And.intro r7 hb7)
                clear r7 hw7 hcl y0 y4 hb7 hcl9
                go_wp2_with fail
                go_roundw
                case rel => exact ⟨k + 1, true, by omega, rfl, by go_num, Hid.mk ⟨_, _, _, _, _, H7.out.1, H7.out.2, fun _ => HT.out.1 H7.out.2, by have := HQ.out.2.2.2.2.2.2; have := HT.out.2; omega⟩⟩
                case measure => simp [intOf]; omega
              · have hb7 : σ7.broken = false := by
                  cases hx : σ7.broken with
                  | true => exact absurd (ht.2 hx) h9
                  | false => rfl
                clear ht
                have h9b : (((f7 : Nat) : Int) == 9) = false := by rw [beq_eq_false_iff_ne]; omega
                have HB := Hid.mk hb7
                clear hb7
                go_wp2_with fail
                refine hcl.mono ?_
                rintro e w7 ⟨rfl, r7, hw7⟩
                have H7 := Hid.mk (And.intro r7 HB.out)
                clear r7 hw7 hcl y0 y4
                go_wp2_with fail
                go_roundw
                case rel => exact ⟨k + 1, false, by omega, rfl, by go_num, Hid.mk ⟨_, _, _, _, _, H7.out.1, H7.out.2, fun h => (by cases h), by have := HQ.out.2.2.2.2.2.2; have := HT.out.2; omega⟩⟩
                case measure => simp [intOf]; omega
    · have hx : ¬ k < n ∨ (k < n ∧ ¬ k < 30) := by omega
      obtain ⟨M3, R3, N3, σ, D, rn, hb, hbd, _⟩ := HR.out
      have H3 := Hid.mk (And.intro rn hbd)
      clear rn hb hbd hlt HL
      cases b with
      | false =>
        rcases hx with hx | ⟨hx, hx2⟩
        all_goals
          go_wp2_with fail
          refine (awake15_any wr).mono ?_
          rintro e w5 ⟨rfl, c5⟩
          have H5 := Hid.mk (H3.out.1.chg.trans c5 (fun _ _ h => h))
          clear c5
          go_wp2_with fail
          go_ret
          exact ⟨rfl, H5.out⟩
      | true =>
        rcases hx with hx | ⟨hx, hx2⟩
        all_goals
          go_wp2_with fail
          refine (dead_any H3.out.1.st.dk).mono ?_
          rintro e w4 ⟨rfl, he⟩
          have he' := he.symm
          subst he'
          clear he
          rw [H3.out.2 trivial]
          go_wp2_with fail
          refine (awake15_any _).mono ?_
          rintro e w5 ⟨rfl, c5⟩
          have H5 := Hid.mk (H3.out.1.chg.trans c5 (fun _ _ h => h))
          clear c5
          go_wp2_with fail
          go_ret
          exact ⟨rfl, H5.out⟩

end Go.Proofs.Ytanipieeegeheaa
