/- Joined for this seat from: XEo. -/
import Derived.Test.YtkemmffdiclloaaGreatDoorAq
set_option linter.unusedVariables false
set_option linter.unusedSimpArgs false
namespace Go.Proofs.YtkemmffdiclloaaGreatDoor
open Go.RowKit
theorem hdr_one (R : Nat) (hR : R ≤ 12) : bits .or .u64 1152921504606846976 ((R : Int) * 72057594037927936) = (((16 + R) * 2 ^ 56 : Nat) : Int) := by
  have h := or_add64 1 60 (R * 72057594037927936) (by omega) (by omega) (by omega)
  rw [castmul R 72057594037927936 72057594037927936 rfl] at h
  have e : ((1 * 2 ^ 60 : Nat) : Int) = 1152921504606846976 := rfl
  rw [e] at h
  rw [h]
  have e2 : 1 * 2 ^ 60 + R * 72057594037927936 = (16 + R) * 2 ^ 56 := by omega
  rw [e2]
theorem hdr_two (R A : Nat) (hR : R ≤ 12) (hA : A < 1024) : bits .or .u64 (((16 + R) * 2 ^ 56 : Nat) : Int) ((A : Int) * 70368744177664) = ((((16 + R) * 1024 + A) * 2 ^ 46 : Nat) : Int) := by
  have h := or_add64 (16 + R) 56 (A * 70368744177664) (by omega) (by omega) (by omega)
  rw [castmul A 70368744177664 70368744177664 rfl] at h
  rw [h]
  have e2 : (16 + R) * 2 ^ 56 + A * 70368744177664 = ((16 + R) * 1024 + A) * 2 ^ 46 := by omega
  rw [e2]
theorem hdr_three (R A B : Nat) (ds : Nat → Nat) (hR : R ≤ 12) (hA : A < 1024) (hB : B < 1024) : bits .or .u64 ((((16 + R) * 1024 + A) * 2 ^ 46 : Nat) : Int) ((B : Int) * 68719476736) = ((hor R A B ds 0 * 8 ^ 12 : Nat) : Int) := by
  have h := or_add64 ((16 + R) * 1024 + A) 46 (B * 68719476736) (by omega) (by omega) (by omega)
  rw [castmul B 68719476736 68719476736 rfl] at h
  rw [h]
  have e2 : ((16 + R) * 1024 + A) * 2 ^ 46 + B * 68719476736 = hor R A B ds 0 * 8 ^ 12 := by simp only [hor]; omega
  rw [e2]
set_option maxHeartbeats 4000000 in
theorem identOf_any (R : Nat) (z : Int × Int) (hR : R ≤ 12) (ha : -1073741824 ≤ z.1 ∧ z.1 ≤ 1073741824) (hb : -1073741824 ≤ z.2 ∧ z.2 ≤ 1073741824) (hbase : Based z R) (w : World) :
    Calls Tryz.prog 8 #[cV R z] w fun e w' => e = .returned (.tuple #[.int .u64 (wordP z R : Int), .int .i64 0]) ∧ Chg Nil w w' := by
  have h1 := fun W => way_any R z hR ha hb hbase W
  rw [dgL_lit] at h1
  obtain ⟨A, hA⟩ : ∃ A : Nat, (upI R z).1 = (A : Int) - 512 := ⟨((upI R z).1 + 512).toNat, by unfold Based at hbase; omega⟩
  obtain ⟨B, hB⟩ : ∃ B : Nat, (upI R z).2 = (B : Int) - 512 := ⟨((upI R z).2 + 512).toNat, by unfold Based at hbase; omega⟩
  have hA2 : A < 1024 := by unfold Based at hbase; omega
  have hB2 : B < 1024 := by unfold Based at hbase; omega
  rw [hA, hB] at h1
  have hw : wordP z R = hor R A B (digAt z R) 12 := by
    have e1 : ((upI R z).1 + 512).toNat = A := by omega
    have e2 : ((upI R z).2 + 512).toNat = B := by omega
    unfold wordP
    rw [e1, e2]
  have HW := Hid.mk hw
  obtain ⟨X1, hX1⟩ : ∃ X1 : Int, (((16 + R) * 2 ^ 56 : Nat) : Int) = X1 := ⟨_, rfl⟩
  obtain ⟨X2, hX2⟩ : ∃ X2 : Int, ((((16 + R) * 1024 + A) * 2 ^ 46 : Nat) : Int) = X2 := ⟨_, rfl⟩
  obtain ⟨X3, hX3⟩ : ∃ X3 : Int, ((hor R A B (digAt z R) 0 * 8 ^ 12 : Nat) : Int) = X3 := ⟨_, rfl⟩
  have b1 := hdr_one R hR
  have b2 := hdr_two R A hR hA2
  have b3 := hdr_three R A B (digAt z R) hR hA2 hB2
  rw [hX1] at b1 b2
  rw [hX2] at b2 b3
  rw [hX3] at b3
  have HX := Hid.mk hX3
  have hlt := fun n => hor_lt (R := R) (A := A) (B := B) (ds := digAt z R) hR hA2 hB2 (digAt_lt z R) n
  have HL := Hid.mk hlt
  rw [hw]
  clear hbase ha hb hA hB hX1 hX2 hX3 hlt hw
  unfold cV eV at *
  go_enter Tryz.func8, Tryz.ntmps8
  go_wp2_with fail
  refine (h1 _).mono ?_
  rintro e w1 ⟨rfl, c1⟩
  have K1 := ((Chg.refl Nil w).alloc _).then c1
  have b_c := (Bk.new w 27 #[.int .i64 (R : Int), .int .i64 z.1, .int .i64 z.2]).keep c1 (fun h => h)
  have y_c0 := b_c.cell 0 rfl
  have y_c1 := b_c.cell 1 rfl
  have y_c2 := b_c.cell 2 rfl
  have l_c := b_c.lt
  have H_c1 := Hid.mk b_c
  clear b_c
  have C1 := Hid.mk K1
  clear c1 K1
  clear h1
  go_wp2_with fail
  have n1 := H_c1.out.lt
  have hB := box3 w1 25 73 78 #[.int .i64 ((A : Int) - 512), .int .i64 ((B : Int) - 512)] #[.int .i64 (dD z R 0), .int .i64 (dD z R 1), .int .i64 (dD z R 2), .int .i64 (dD z R 3), .int .i64 (dD z R 4), .int .i64 (dD z R 5), .int .i64 (dD z R 6), .int .i64 (dD z R 7), .int .i64 (dD z R 8), .int .i64 (dD z R 9), .int .i64 (dD z R 10), .int .i64 (dD z R 11), .int .i64 (dD z R 12)] #[.int .u64 X3]
  have HB := Hid.mk (And.intro (H_c1.out.keep hB.2.2.2 (fun h => h)) (And.intro hB.2.1 (And.intro hB.2.2.1 (C1.out.then hB.2.2.2))))
  clear hB H_c1 C1 y_c0 y_c1 y_c2 l_c
  go_loopw [9] (fun v9 wr => ∃ n : Nat, n ≤ 12 ∧ v9 = .int .i64 ((n : Int) + 1) ∧ Hid (Bk wr w.heap.size 27 #[.int .i64 (R : Int), .int .i64 z.1, .int .i64 z.2] ∧ Bk wr (w1.heap.size + 1) 73 (dgL z R 0).toArray ∧ Bk wr (w1.heap.size + 1 + 1) 78 #[.int .u64 ((hor R A B (digAt z R) n * 8 ^ (12 - n) : Nat) : Int)] ∧ Chg Nil w wr)) (fun v9 _ => 13 - (intOf v9).toNat)
  case atStart => exact ⟨0, by omega, rfl, Hid.mk ⟨HB.out.1, HB.out.2.1, by rw [HX.out]; exact HB.out.2.2.1, HB.out.2.2.2⟩⟩
  case round =>
    obtain ⟨n, hn, rfl, HR⟩ := hrel
    have y0 := HR.out.1.cell 0 rfl
    by_cases hn12 : n < 12
    · have hp := fun (d : Nat) (hd : d < 8) W (hb : Bk W (w1.heap.size + 1 + 1) 78 #[.int .u64 ((hor R A B (digAt z R) n * 8 ^ (12 - n) : Nat) : Int)]) => put_any (w1.heap.size + 1 + 1) (hor R A B (digAt z R) n) d (n + 1) (by omega) hd (HL.out n) W (by rw [show 13 - (n + 1) = 12 - n by omega]; exact hb)
      have hs : digAt z R (n + 1) = if n + 1 ≤ R then dig (leftZ (upI (R - (n + 1)) z)) else 7 := rfl
      have hcast : ((n + 1 : Nat) : Int) = (n : Int) + 1 := by omega
      simp only [hcast] at hp
      have HP := Hid.mk (And.intro hp hs)
      clear hp hs hcast
      by_cases hnR : n + 1 ≤ R
      · have hd := HR.out.2.1.cell (n + 1) (by rw [List.getElem?_toArray]; exact dgL_at z R 0 (n + 1) (by omega))
        rw [if_pos ⟨by omega, hnR⟩] at hd
        have hdl := dig_lt (leftZ (upI (R - (n + 1)) z))
        have HE := Hid.mk (show digAt z R (n + 1) = dig (leftZ (upI (R - (n + 1)) z)) by rw [HP.out.2, if_pos hnR])
        go_wp2_with fail
        refine (HP.out.1 (dig (leftZ (upI (R - (n + 1)) z))) (by omega) _ HR.out.2.2.1).mono ?_
        rintro e w2 ⟨rfl, b2, c2⟩
        have H2 := Hid.mk (And.intro b2 c2)
        clear b2 c2
        go_wp2_with fail
        go_roundw
        case rel =>
          have q := HR.out.2.2.1.lt
          refine ⟨n + 1, by omega, by go_num, Hid.mk ⟨HR.out.1.keep H2.out.2 (fun h => by omega), HR.out.2.1.keep H2.out.2 (fun h => by omega), ?_, HR.out.2.2.2.trans H2.out.2 (T := fun k => k = w1.heap.size + 1 + 1) (fun i hi h => by omega)⟩⟩
          have e1 : hor R A B (digAt z R) (n + 1) = 8 * hor R A B (digAt z R) n + dig (leftZ (upI (R - (n + 1)) z)) := by
            show 8 * hor R A B (digAt z R) n + digAt z R (n + 1) = _
            rw [HE.out]
          rw [e1]
          exact H2.out.1
        case measure => simp [intOf]; omega
      · go_wp2_with fail
        refine (HP.out.1 7 (by omega) _ HR.out.2.2.1).mono ?_
        rintro e w2 ⟨rfl, b2, c2⟩
        have H2 := Hid.mk (And.intro b2 c2)
        clear b2 c2
        go_wp2_with fail
        go_roundw
        case rel =>
          have q := HR.out.2.2.1.lt
          refine ⟨n + 1, by omega, by go_num, Hid.mk ⟨HR.out.1.keep H2.out.2 (fun h => by omega), HR.out.2.1.keep H2.out.2 (fun h => by omega), ?_, HR.out.2.2.2.trans H2.out.2 (T := fun k => k = w1.heap.size + 1 + 1) (fun i hi h => by omega)⟩⟩
          have e1 : hor R A B (digAt z R) (n + 1) = 8 * hor R A B (digAt z R) n + 7 := by
            show 8 * hor R A B (digAt z R) n + digAt z R (n + 1) = _
            rw [HP.out.2, if_neg hnR]
          rw [e1]
          exact H2.out.1
        case measure => simp [intOf]; omega
    · obtain rfl : n = 12 := by omega
      have v := HR.out.2.2.1.cell 0 rfl
      have H1 := Hid.mk HR.out.2.2.2
      rw [Nat.sub_self, Nat.pow_zero, Nat.mul_one] at v
      clear HR y0
      go_wp2_with fail
      go_ret2
      exact ⟨rfl, H1.out⟩

end Go.Proofs.YtkemmffdiclloaaGreatDoor
