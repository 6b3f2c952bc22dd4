/- Joined for this seat from: XEq2. -/
import Derived.Test.YtkemmffdiclloaaGreatDoorAs
set_option linter.unusedVariables false
set_option linter.unusedSimpArgs false
namespace Go.Proofs.YtkemmffdiclloaaGreatDoor
open Go.RowKit
theorem p5 (n : Nat) (hn : n ≤ 12) : (5 : Int) ^ n ≤ 244140625 := by
  have h : ∀ n : Fin 13, (5 : Int) ^ n.1 ≤ 244140625 := by decide +kernel
  exact h ⟨n, by omega⟩
theorem decW_small (v n : Nat) (hn : n ≤ 12) : (decW v n).1.natAbs ≤ 250000000000 ∧ (decW v n).2.natAbs ≤ 250000000000 := by
  have h := decW_bd v n
  have h5 := p5 n hn
  omega
theorem and15 (a : Nat) (ha : a < 18446744073709551616) : bits .and .u64 (a : Int) 15 = ((a % 16 : Nat) : Int) := by
  have h := u64_and_nat a 15 ha (by decide)
  have e : a &&& 15 = a % 16 := Nat.and_two_pow_sub_one_eq_mod a 4
  rw [e] at h
  exact h
theorem and1023 (a : Nat) (ha : a < 18446744073709551616) : bits .and .u64 (a : Int) 1023 = ((a % 1024 : Nat) : Int) := by
  have h := u64_and_nat a 1023 ha (by decide)
  have e : a &&& 1023 = a % 1024 := Nat.and_two_pow_sub_one_eq_mod a 10
  rw [e] at h
  exact h
set_option maxHeartbeats 8000000 in
theorem identCell_any (v : Nat) (hv : v < 18446744073709551616) (hok : okW v) (w : World) :
    Calls Tryz.prog 9 #[.int .u64 (v : Int)] w fun e w' => e = .returned (.tuple #[cV (resW v) (decW v 12), .int .i64 0]) ∧ Chg Nil w w' := by
  obtain ⟨h1, h2, h3⟩ := hok
  have g1 := and15 (v / 72057594037927936) (by omega)
  rw [castdiv v 72057594037927936 72057594037927936 rfl] at g1
  have g1' : ((v / 72057594037927936 % 16 : Nat) : Int) = ((resW v : Nat) : Int) := rfl
  rw [g1'] at g1
  have g2 : (v : Int) / 1152921504606846976 = 1 := by omega
  have g3 := and1023 (v / 70368744177664) (by omega)
  rw [castdiv v 70368744177664 70368744177664 rfl] at g3
  have g4 := and1023 (v / 68719476736) (by omega)
  rw [castdiv v 68719476736 68719476736 rfl] at g4
  obtain ⟨A, hA, hA2⟩ : ∃ A : Nat, v / 70368744177664 % 1024 = A ∧ A < 1024 := ⟨_, rfl, by omega⟩
  obtain ⟨B, hB, hB2⟩ : ∃ B : Nat, v / 68719476736 % 1024 = B ∧ B < 1024 := ⟨_, rfl, by omega⟩
  rw [hA] at g3
  rw [hB] at g4
  have hd0 : decW v 0 = ((A : Int) - 512, (B : Int) - 512) := by simp only [decW]; rw [hA, hB]
  have HD0 := Hid.mk hd0
  have hdig := fun (r : Nat) (hr : 1 ≤ r ∧ r ≤ 12) W => digitOf_any v r hr hv W
  have hlt : ∀ r, digW v r < 8 := fun r => by unfold digW; omega
  have HH := Hid.mk (And.intro hdig (And.intro h3 hlt))
  have k1 : decide ((12 : Int) < ((resW v : Nat) : Int)) = false := decide_eq_false (by omega)
  clear hdig h3 hlt hA hB hd0 g1' h1 hv
  generalize resW v = R at *
  unfold cV
  go_enter Tryz.func9, Tryz.ntmps9
  go_wp2_with fail
  have hB := box2 w 27 27 #[.int .i64 0, .int .i64 0, .int .i64 0] #[.int .i64 0, .int .i64 ((A : Int) - 512), .int .i64 ((B : Int) - 512)]
  have HB := Hid.mk hB
  clear hB
  go_loopw [6] (fun v6 wr => ∃ n : Nat, n ≤ 12 ∧ v6 = .int .i64 ((n : Int) + 1) ∧ Hid (Bk wr w.heap.size 27 #[.int .i64 0, .int .i64 0, .int .i64 0] ∧ Bk wr (w.heap.size + 1) 27 #[.int .i64 ((min n R : Nat) : Int), .int .i64 (decW v n).1, .int .i64 (decW v n).2] ∧ Chg Nil w wr)) (fun v6 _ => 13 - (intOf v6).toNat)
  case atStart => exact ⟨0, by omega, rfl, Hid.mk ⟨HB.out.1, by rw [HD0.out, Nat.zero_min]; exact HB.out.2.1, HB.out.2.2⟩⟩
  case round =>
    obtain ⟨n, hn, rfl, HR⟩ := hrel
    have lz := HR.out.2.1.lt
    by_cases hn12 : n < 12
    · have hdg := fun W => HH.out.1 (n + 1) (by omega) W
      have hcast : ((n + 1 : Nat) : Int) = (n : Int) + 1 := by omega
      rw [hcast] at hdg
      have h8 := HH.out.2.2 (n + 1)
      have h7 := HH.out.2.1 (n + 1) (by omega) (by omega)
      have hs : decW v (n + 1) = if digW v (n + 1) = 7 then decW v n else ((mulZ (decW v n) (2, 1)).1 + (undig (digW v (n + 1))).1, (mulZ (decW v n) (2, 1)).2 + (undig (digW v (n + 1))).2) := rfl
      have HS := Hid.mk hs
      clear hs hcast
      generalize hdd : digW v (n + 1) = d at *
      clear hdd
      by_cases hd7 : d = 7
      · have hRn : R < n + 1 := h7.1 hd7
        have HE := Hid.mk (show decW v (n + 1) = decW v n by rw [HS.out, if_pos hd7])
        subst hd7
        have kk : decide ((R : Int) < (n : Int) + 1) = true := decide_eq_true (by omega)
        clear h7
        go_wp2_with fail
        refine (hdg _).mono ?_
        rintro e w2 ⟨rfl, rfl⟩
        go_wp2_with fail
        go_roundw
        case rel =>
          refine ⟨n + 1, by omega, by go_num, Hid.mk ⟨HR.out.1, ?_, HR.out.2.2⟩⟩
          rw [HE.out, show min (n + 1) R = min n R by omega]
          exact HR.out.2.1
        case measure => simp [intOf]; omega
      · have hRn : n + 1 ≤ R := by
          rcases Nat.lt_or_ge R (n + 1) with h | h
          · exact absurd (h7.2 h) hd7
          · exact h
        have HE := Hid.mk (show decW v (n + 1) = ((mulZ (decW v n) (2, 1)).1 + (undig d).1, (mulZ (decW v n) (2, 1)).2 + (undig d).2) by rw [HS.out, if_neg hd7])
        have kk : decide ((R : Int) < (n : Int) + 1) = false := decide_eq_false (by omega)
        have kd : ((d : Int) == 7) = false := by rw [beq_eq_false_iff_ne]; omega
        have hz := decW_small v n (by omega)
        have hm : ∀ W, Calls Tryz.prog 30 #[eV (decW v n).1 (decW v n).2, eV 2 1] W fun e w' => e = .returned (.tuple #[eV (mulZ (decW v n) (2, 1)).1 (mulZ (decW v n) (2, 1)).2, .bool true]) ∧ Chg Nil W w' := fun W => eMul_any (decW v n).1 (decW v n).2 2 1 (by unfold Half; omega) (by unfold Half; omega) (by unfold Half; omega) (by unfold Half; omega) (by omega) (by omega) (by omega) (by omega) W
        have hmb : (mulZ (decW v n) (2, 1)).1.natAbs ≤ 1000000000000 ∧ (mulZ (decW v n) (2, 1)).2.natAbs ≤ 1000000000000 := by simp only [mulZ]; omega
        have y1 := HR.out.2.1.cell 1 rfl
        have y2 := HR.out.2.1.cell 2 rfl
        clear h7 hz
        generalize (mulZ (decW v n) (2, 1)).1 = m1 at *
        generalize (mulZ (decW v n) (2, 1)).2 = m2 at *
        unfold eV at hm
        go_wp2_with fail
        refine (hdg _).mono ?_
        rintro e w2 ⟨rfl, rfl⟩
        clear hdg
        go_wp2_with fail
        refine (hm _).mono ?_
        rintro e w3 ⟨rfl, c3⟩
        have b5 := HR.out.2.1.keep c3 (fun h => h)
        have H3 := Hid.mk (And.intro (HR.out.1.keep c3 (fun h => h)) (And.intro b5 (HR.out.2.2.then c3)))
        clear c3 hm y1 y2 HR b5
        by_cases hd0 : d = 0
        · subst hd0
          have b5 := H3.out.2.1
          have x0 := b5.cell 0 rfl
          have x1 := b5.cell 1 rfl
          have x2 := b5.cell 2 rfl
          have xf := fun j => b5.free j
          have xl := b5.lt
          clear b5
          go_wp2_with fail
          go_roundw
          case rel =>
            refine ⟨n + 1, by omega, by go_num, Hid.mk ⟨?_, ?_, ?_⟩⟩
            · exact (((H3.out.1.far (by simp) _).far (by simp) _).far (by simp) _).alloc _
            · rw [HE.out, show min (n + 1) R = n + 1 by omega]
              have h := (((H3.out.2.1.set 0 (.int .i64 ((n : Int) + 1))).set 1 (.int .i64 m1)).set 2 (.int .i64 m2)).alloc (.cells #[.int .i64 m1, .int .i64 m2] 25)
              simp only [undig, Int.add_zero]
              exact h
            · exact (((H3.out.2.2.setCell (fun h => by simp at h; try omega) _).setCell (fun h => by simp at h; try omega) _).setCell (fun h => by simp at h; try omega) _).alloc _
          case measure => simp [intOf]; omega
        · have kd0 : decide ((0 : Int) < (d : Int)) = true := decide_eq_true (by omega)
          obtain ⟨u1, u2⟩ := unit_undig (d - 1) (by omega)
          have hu := fun W => unit_any (d - 1) (by omega) W
          rw [u1, u2, show d - 1 + 1 = d by omega, show ((d - 1 : Nat) : Int) = (d : Int) - 1 by omega] at hu
          have ud := undig_bd d
          have hadd := fun W => eAdd_any m1 m2 (undig d).1 (undig d).2 (by unfold Big; omega) (by unfold Big; omega) (by unfold Big; omega) (by unfold Big; omega) W
          unfold eV at hu hadd
          clear u1 u2 ud
          have kw : IntKind.i64.wrap ((d : Int) - 1) = (d : Int) - 1 := by rw [IntKind.wrap_i64]; omega
          go_wp2_with fail
          have b8 := Bk.new w3 25 #[.int .i64 m1, .int .i64 m2]
          have H4 := Hid.mk (And.intro (H3.out.1.alloc (.cells #[.int .i64 m1, .int .i64 m2] 25)) (And.intro (H3.out.2.1.alloc (.cells #[.int .i64 m1, .int .i64 m2] 25)) (And.intro (H3.out.2.2.alloc (.cells #[.int .i64 m1, .int .i64 m2] 25)) b8)))
          have n5 := H3.out.2.1.lt
          clear b8 H3
          generalize w3.alloc (.cells #[.int .i64 m1, .int .i64 m2] 25) = W0 at *
          have y0 := H4.out.2.2.2.cell 0 rfl
          have y1 := H4.out.2.2.2.cell 1 rfl
          have hne := Sub.some (S := fun _ : World => True) (w := W0) trivial
          have HC := Hid.mk (And.intro hu hadd)
          have hend : ∀ (W : World) (_ : Chg Nil W0 W), True := fun _ _ => trivial
          clear hu hadd hend
          refine wp_region_lexT (fun _ => True) (.one true 1 (.one true 2 (.one true 3 (.two 0 (.one false 4 (.one false 5 (.one true 6 (.one true 7 (.one true 8 (.one false 9 .fin)))))) 4 (.one false 0 (.one false 5 (.one true 6 (.one true 7 (.one true 8 (.one false 9 .fin)))))))))) (by kernel_rfl) (by kernel_rfl) (fun d v c a w h => by cases d <;> exact h) trivial ?_
          refine lexT_s rfl rfl ?_
          go_big_quiet_step (fail)
          refine wpQuiet_nil ?_
          refine lexT_s rfl rfl ?_
          go_big_quiet_step (fail)
          refine wpQuiet_nil ?_
          refine lexT_s rfl rfl ?_
          go_big_quiet_step (fail)
          refine wpQuiet_nil ?_
          refine lexT_2 rfl rfl ?_ ?_
          case' refine_1 =>
            go_wp2_with fail
            refine And.intro trivial ?_
            refine lexT_e rfl ?_
            go_wp2_with fail
            refine (HC.out.1 _).mono ?_
            rintro e w4 ⟨rfl, c4⟩
            have K4 := ((Chg.refl Nil W0).drew).then c4
            go_wp2_with fail
            refine And.intro trivial ?_
          case' refine_2 =>
            go_wp2_with fail
            refine (HC.out.1 _).mono ?_
            rintro e w4 ⟨rfl, c4⟩
            have K4 := ((Chg.refl Nil W0).drew).then c4
            have q0 := (H4.out.2.2.2.keep K4 (fun h => h)).cell 0 rfl
            have q1 := (H4.out.2.2.2.keep K4 (fun h => h)).cell 1 rfl
            go_wp2_with fail
            refine And.intro trivial ?_
            refine lexT_e rfl ?_
            go_wp2_with fail
            refine And.intro trivial ?_
          all_goals
            refine lexT_e rfl ?_
            go_wp2_with fail
            refine (HC.out.2 _).mono ?_
            rintro e w5 ⟨rfl, c5⟩
            have K5 := K4.then c5
            have b8 := H4.out.2.2.2.keep K5 (fun h => h)
            have b5 := H4.out.2.1.keep K5 (fun h => h)
            have x0 := b5.cell 0 rfl
            have x1 := b5.cell 1 rfl
            have x2 := b5.cell 2 rfl
            have xf := fun j => b5.free j
            have z0 := b8.cell 0 rfl
            have z1 := b8.cell 1 rfl
            have zf := fun j => b8.free j
            have H5 := Hid.mk (And.intro (H4.out.1.keep K5 (fun h => h)) (And.intro b5 (And.intro (H4.out.2.2.1.then K5) b8)))
            clear b5 b8 K5
            go_wp2_with fail
            refine And.intro trivial ?_
            refine lexT_s rfl rfl ?_
            go_big_quiet_step (fail)
            refine wpQuiet_nil ?_
            refine lexT_s rfl rfl ?_
            go_big_quiet_step (fail)
            refine wpQuiet_nil ?_
            refine lexT_s rfl rfl ?_
            go_big_quiet_step (fail)
            refine wpQuiet_nil ?_
            refine lexT_e rfl ?_
            go_wp2_with fail
            refine And.intro trivial ?_
            refine lexT_end ?_
            go_wp2_with fail
            go_roundw
            case rel =>
              refine ⟨n + 1, by omega, by go_num, Hid.mk ⟨?_, ?_, ?_⟩⟩
              · exact ((((H5.out.1.far (by simp; try omega) _).far (by simp; try omega) _).far (by simp; try omega) _).far (by simp; try omega) _).far (by simp; try omega) _
              · rw [HE.out, show min (n + 1) R = n + 1 by omega]
                exact ((((H5.out.2.1.far (by simp; try omega) _).far (by simp; try omega) _).set 0 (.int .i64 ((n : Int) + 1))).set 1 (.int .i64 (m1 + (undig d).1))).set 2 (.int .i64 (m2 + (undig d).2))
              · exact ((((H5.out.2.2.1.setCell (fun h => by simp at h; try omega) _).setCell (fun h => by simp at h; try omega) _).setCell (fun h => by simp at h; try omega) _).setCell (fun h => by simp at h; try omega) _).setCell (fun h => by simp at h; try omega) _
            case measure => simp [intOf]; omega
    · obtain rfl : n = 12 := by omega
      have b5 := HR.out.2.1
      have b2 := HR.out.1
      rw [show min 12 R = R by omega] at b5
      have x0 := b5.cell 0 rfl
      have x1 := b5.cell 1 rfl
      have x2 := b5.cell 2 rfl
      have v0 := b2.cell 0 rfl
      have v1 := b2.cell 1 rfl
      have v2 := b2.cell 2 rfl
      have vf := fun j => b2.free j
      have H1 := Hid.mk HR.out.2.2
      clear b5 b2 HR
      go_wp2_with fail
      exact bodyPost_ret (v := .tuple #[.agg #[.int .i64 (R : Int), .int .i64 (decW v 12).1, .int .i64 (decW v 12).2], .int .i64 0]) (by simp [results, Tryz.results9, go_sem, v0, v1, v2]) rfl ⟨rfl, ((H1.out.setCell (fun h => by simp at h; try omega) _).setCell (fun h => by simp at h; try omega) _).setCell (fun h => by simp at h; try omega) _⟩

end Go.Proofs.YtkemmffdiclloaaGreatDoor
