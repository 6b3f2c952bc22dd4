/- Joined for this seat from: XEg. -/
import Derived.Test.YtkemmffdiclloaaGreatDoorAg
set_option linter.unusedVariables false
set_option linter.unusedSimpArgs false
namespace Go.Proofs.YtkemmffdiclloaaGreatDoor
open Go.RowKit
/-- Behind j of the three that are tried: how near, and which. -/
def farZ (a b d : Int) : Nat → Int
  | 0 => d - (a + 2 * b)
  | 1 => d - (2 * a + b)
  | _ => d * 3 - (2 * a + b) - (a + 2 * b)
def zZ : Nat → Int × Int
  | 0 => (0, 1)
  | 1 => (1, 0)
  | _ => (1, 1)
def bst (a b d : Int) : Nat → Int × (Int × Int)
  | 0 => (0, (0, 0))
  | j + 1 => if farZ a b d j < (bst a b d j).1 then (farZ a b d j, zZ j) else bst a b d j
theorem bst_best (a b d : Int) : (bst a b d 3).2 = bestZ a b d := by
  unfold bestZ
  simp only [bst, farZ, zZ]
  rw [Int.mul_comm d 3]
  repeat' split
  all_goals first | rfl | (exfalso; dsimp only at *; omega)
theorem bst_bd (a b d : Int) (j : Nat) (ha : 0 ≤ a) (ha2 : a < d) (hb : 0 ≤ b) (hb2 : b < d) : -3 * d ≤ (bst a b d j).1 ∧ (bst a b d j).1 ≤ 0 ∧ 0 ≤ (bst a b d j).2.1 ∧ (bst a b d j).2.1 ≤ 1 ∧ 0 ≤ (bst a b d j).2.2 ∧ (bst a b d j).2.2 ≤ 1 := by
  induction j with
  | zero => simp only [bst]; omega
  | succ j ih =>
    simp only [bst]
    split
    · have : -3 * d ≤ farZ a b d j ∧ 0 ≤ (zZ j).1 ∧ (zZ j).1 ≤ 1 ∧ 0 ≤ (zZ j).2 ∧ (zZ j).2 ≤ 1 := by unfold farZ zZ; split <;> simp only <;> omega
      dsimp only
      omega
    · exact ih
set_option maxHeartbeats 4000000 in
theorem round_any (a b d : Int) (ha : -1152921504606846976 ≤ a) (ha2 : a ≤ 1152921504606846976) (hb : -1152921504606846976 ≤ b) (hb2 : b ≤ 1152921504606846976) (hd : 1 ≤ d) (hd2 : d ≤ 1125899906842624) (w : World) :
    Calls Tryz.prog 38 #[eV a b, .int .i64 d] w fun e w' => e = .returned (.tuple #[eV (roundZ (a, b) d).1 (roundZ (a, b) d).2, .bool true]) ∧ Chg Nil w w' := by
  have h1 := fun W => within_any a 1152921504606846976 (by omega) (by omega) W
  have h2 := fun W => within_any b 1152921504606846976 (by omega) (by omega) W
  have h3 := fun W => floor_any a d (by omega) (by omega) (by omega) (by omega) W
  have h4 := fun W => floor_any b d (by omega) (by omega) (by omega) (by omega) W
  have q1 : -1152921504606846976 ≤ a / d ∧ a / d ≤ 1152921504606846976 := ⟨Int.le_ediv_of_mul_le (by omega) (by omega), Int.ediv_le_of_le_mul (by omega) (by omega)⟩
  have q2 : -1152921504606846976 ≤ b / d ∧ b / d ≤ 1152921504606846976 := ⟨Int.le_ediv_of_mul_le (by omega) (by omega), Int.ediv_le_of_le_mul (by omega) (by omega)⟩
  have r1 := Int.emod_nonneg a (show d ≠ 0 by omega)
  have r2 := Int.emod_lt_of_pos a (show 0 < d by omega)
  have r3 := Int.emod_nonneg b (show d ≠ 0 by omega)
  have r4 := Int.emod_lt_of_pos b (show 0 < d by omega)
  have hz : (roundZ (a, b) d).1 = a / d + (bst (a % d) (b % d) d 3).2.1 ∧ (roundZ (a, b) d).2 = b / d + (bst (a % d) (b % d) d 3).2.2 := by
    unfold roundZ; rw [bst_best]; exact ⟨rfl, rfl⟩
  rw [hz.1, hz.2]
  clear hz
  have hbd := fun j => bst_bd (a % d) (b % d) d j r1 r2 r3 r4
  have HBD := Hid.mk hbd
  clear hbd
  unfold eV at *
  generalize a / d = qa at *
  generalize b / d = qb at *
  generalize a % d = ra at *
  generalize b % d = rb at *
  obtain ⟨q1a, q1b⟩ := q1
  obtain ⟨q2a, q2b⟩ := q2
  have HH := Hid.mk (And.intro h2 (And.intro h3 h4))
  clear h2 h3 h4
  have k1 : decide (d < 1) = false := decide_eq_false (by omega)
  have k2 : decide (1125899906842624 < d) = false := decide_eq_false (by omega)
  go_enter Tryz.func38, Tryz.ntmps38
  go_wp2_with fail
  have hB := box2 w 25 25 #[.int .i64 a, .int .i64 b] #[.int .i64 0, .int .i64 0]
  refine (h1 _).mono ?_
  rintro e w1 ⟨rfl, c1⟩
  have y0 := (hB.1.keep c1 (fun h => h)).cell 0 rfl
  have y1 := (hB.1.keep c1 (fun h => h)).cell 1 rfl
  have H1 := Hid.mk (And.intro (hB.1.keep c1 (fun h => h)) (And.intro (hB.2.1.keep c1 (fun h => h)) (hB.2.2.trans c1 (fun _ _ h => h))))
  clear hB c1 h1
  go_wp2_with fail
  refine (HH.out.1 _).mono ?_
  rintro e w2 ⟨rfl, c2⟩
  have z0 := (H1.out.1.keep c2 (fun h => h)).cell 0 rfl
  have z1 := (H1.out.1.keep c2 (fun h => h)).cell 1 rfl
  have H2 := Hid.mk (And.intro (H1.out.1.keep c2 (fun h => h)) (And.intro (H1.out.2.1.keep c2 (fun h => h)) (H1.out.2.2.trans c2 (fun _ _ h => h))))
  clear c2 y0 y1 H1
  go_wp2_with fail
  refine (HH.out.2.1 _).mono ?_
  rintro e w3 ⟨rfl, c3⟩
  have y1 := (H2.out.1.keep c3 (fun h => h)).cell 1 rfl
  have H3 := Hid.mk (And.intro (H2.out.1.keep c3 (fun h => h)) (And.intro (H2.out.2.1.keep c3 (fun h => h)) (H2.out.2.2.trans c3 (fun _ _ h => h))))
  clear c3 z0 z1 H2
  go_wp2_with fail
  refine (HH.out.2.2 _).mono ?_
  rintro e w4 ⟨rfl, c4⟩
  have H4 := Hid.mk (And.intro (H3.out.2.1.keep c4 (fun h => h)) (H3.out.2.2.trans c4 (fun _ _ h => h)))
  clear c4 y1 H3
  go_wp2_with fail
  have hB := box2 w4 25 25 #[.int .i64 0, .int .i64 0] #[.int .i64 0, .int .i64 1, .int .i64 1, .int .i64 0, .int .i64 1, .int .i64 1]
  have h4s := H4.out.2.size
  have HB := Hid.mk (And.intro (H4.out.1.keep hB.2.2 (fun h => h)) (And.intro hB.1 (And.intro hB.2.1 (H4.out.2.trans hB.2.2 (fun _ _ h => h)))))
  have n1 : w.heap.size + 1 < w4.heap.size := H4.out.1.lt
  clear hB H4 h4s
  go_loopw [12, 59] (fun v12 v59 wr => ∃ j : Nat, j ≤ 3 ∧ v59 = .int .i64 (j : Int) ∧ v12 = .int .i64 (bst ra rb d j).1 ∧ Hid (Bk wr (w.heap.size + 1) 25 #[.int .i64 0, .int .i64 0] ∧ Bk wr w4.heap.size 25 #[.int .i64 (bst ra rb d j).2.1, .int .i64 (bst ra rb d j).2.2] ∧ Bk wr (w4.heap.size + 1) 25 #[.int .i64 0, .int .i64 1, .int .i64 1, .int .i64 0, .int .i64 1, .int .i64 1] ∧ Chg Nil w wr)) (fun _ v59 _ => 3 - (intOf v59).toNat)
  case atStart => exact ⟨0, by omega, rfl, rfl, HB⟩
  case round =>
    obtain ⟨j, hj, rfl, rfl, HR⟩ := hrel
    have hb := HBD.out j
    have y0 := HR.out.2.2.1.cell 0 rfl
    have y1 := HR.out.2.2.1.cell 1 rfl
    have y2 := HR.out.2.2.1.cell 2 rfl
    have y3 := HR.out.2.2.1.cell 3 rfl
    have y4 := HR.out.2.2.1.cell 4 rfl
    have y5 := HR.out.2.2.1.cell 5 rfl
    have x0 := HR.out.2.1.cell 0 rfl
    have x1 := HR.out.2.1.cell 1 rfl
    have x2 := fun i => HR.out.2.1.free i
    have hlt := HR.out.2.2.1.lt
    have hlt0 := HR.out.2.1.lt
    by_cases hj3 : j < 3
    · have h3 : j = 0 ∨ j = 1 ∨ j = 2 := by omega
      rcases h3 with rfl | rfl | rfl
      · by_cases hf : d - (ra + 2 * rb) < (bst ra rb d 0).1
        · have hs : bst ra rb d 1 = (d - (ra + 2 * rb), (0, 1)) := if_pos hf
          have HS := Hid.mk hs
          clear hs
          go_wp2_with fail
          go_region
          go_wp2_with fail
          go_roundw
          case rel =>
            refine ⟨1, by omega, rfl, by rw [HS.out], Hid.mk ⟨?_, ?_, ?_, ?_⟩⟩
            · exact ((((HR.out.1.far (by simp; omega) _).far (by simp; omega) _).alloc _).drew)
            · rw [HS.out]
              exact ((HR.out.2.1.set 0 (.int .i64 0)).set 1 (.int .i64 1)).alloc _
            · exact ((((HR.out.2.2.1.far (by simp) _).far (by simp) _).alloc _).drew)
            · exact (((HR.out.2.2.2.setCell (fun h => by simp at h; omega) _).setCell (fun h => by simp at h; omega) _).alloc _).drew
          case measure => simp [intOf]
        · have hs : bst ra rb d 1 = bst ra rb d 0 := if_neg hf
          have HS := Hid.mk hs
          clear hs
          go_wp2_with fail
          go_roundw
          case rel =>
            refine ⟨1, by omega, rfl, by rw [HS.out], Hid.mk ⟨?_, ?_, ?_, ?_⟩⟩
            · exact HR.out.1.alloc _
            · rw [HS.out]
              exact HR.out.2.1.alloc _
            · exact HR.out.2.2.1.alloc _
            · exact HR.out.2.2.2.alloc _
          case measure => simp [intOf]
      · by_cases hf : d - (2 * ra + rb) < (bst ra rb d 1).1
        · have hs : bst ra rb d 2 = (d - (2 * ra + rb), (1, 0)) := if_pos hf
          have HS := Hid.mk hs
          clear hs
          go_wp2_with fail
          go_region
          go_wp2_with fail
          go_roundw
          case rel =>
            refine ⟨2, by omega, rfl, by rw [HS.out], Hid.mk ⟨?_, ?_, ?_, ?_⟩⟩
            · exact ((((HR.out.1.far (by simp; omega) _).far (by simp; omega) _).alloc _).drew)
            · rw [HS.out]
              exact ((HR.out.2.1.set 0 (.int .i64 1)).set 1 (.int .i64 0)).alloc _
            · exact ((((HR.out.2.2.1.far (by simp) _).far (by simp) _).alloc _).drew)
            · exact (((HR.out.2.2.2.setCell (fun h => by simp at h; omega) _).setCell (fun h => by simp at h; omega) _).alloc _).drew
          case measure => simp [intOf]
        · have hs : bst ra rb d 2 = bst ra rb d 1 := if_neg hf
          have HS := Hid.mk hs
          clear hs
          go_wp2_with fail
          go_roundw
          case rel =>
            refine ⟨2, by omega, rfl, by rw [HS.out], Hid.mk ⟨?_, ?_, ?_, ?_⟩⟩
            · exact HR.out.1.alloc _
            · rw [HS.out]
              exact HR.out.2.1.alloc _
            · exact HR.out.2.2.1.alloc _
            · exact HR.out.2.2.2.alloc _
          case measure => simp [intOf]
      · by_cases hf : d * 3 - (2 * ra + rb) - (ra + 2 * rb) < (bst ra rb d 2).1
        · have hs : bst ra rb d 3 = (d * 3 - (2 * ra + rb) - (ra + 2 * rb), (1, 1)) := if_pos hf
          have HS := Hid.mk hs
          clear hs
          go_wp2_with fail
          go_region
          go_wp2_with fail
          go_roundw
          case rel =>
            refine ⟨3, by omega, rfl, by rw [HS.out], Hid.mk ⟨?_, ?_, ?_, ?_⟩⟩
            · exact ((((HR.out.1.far (by simp; omega) _).far (by simp; omega) _).alloc _).drew)
            · rw [HS.out]
              exact ((HR.out.2.1.set 0 (.int .i64 1)).set 1 (.int .i64 1)).alloc _
            · exact ((((HR.out.2.2.1.far (by simp) _).far (by simp) _).alloc _).drew)
            · exact (((HR.out.2.2.2.setCell (fun h => by simp at h; omega) _).setCell (fun h => by simp at h; omega) _).alloc _).drew
          case measure => simp [intOf]
        · have hs : bst ra rb d 3 = bst ra rb d 2 := if_neg hf
          have HS := Hid.mk hs
          clear hs
          go_wp2_with fail
          go_roundw
          case rel =>
            refine ⟨3, by omega, rfl, by rw [HS.out], Hid.mk ⟨?_, ?_, ?_, ?_⟩⟩
            · exact HR.out.1.alloc _
            · rw [HS.out]
              exact HR.out.2.1.alloc _
            · exact HR.out.2.2.1.alloc _
            · exact HR.out.2.2.2.alloc _
          case measure => simp [intOf]
    · obtain rfl : j = 3 := by omega
      have z0 := HR.out.1.cell 0 rfl
      have z1 := HR.out.1.cell 1 rfl
      have z2 := fun i => HR.out.1.free i
      have H1 := Hid.mk HR.out.2.2.2
      clear y0 y1 y2 y3 y4 y5 HR
      go_wp2_with fail
      exact bodyPost_ret (v := .tuple #[.agg #[.int .i64 (qa + (bst ra rb d 3).2.1), .int .i64 (qb + (bst ra rb d 3).2.2)], .bool true]) (by simp [results, Tryz.results38, go_sem, z0, z1]) rfl ⟨rfl, (H1.out.setCell (fun h => by simp at h; omega) _).setCell (fun h => by simp at h; omega) _⟩

end Go.Proofs.YtkemmffdiclloaaGreatDoor
