/- Joined for this seat from: XEf. -/
import Derived.Test.YtkemmffdiclloaaGreatDoorAf
set_option linter.unusedVariables false
set_option linter.unusedSimpArgs false
namespace Go.Proofs.YtkemmffdiclloaaGreatDoor
open Go.RowKit
set_option maxHeartbeats 1000000 in
theorem numSize_pos (a : Int) (ha : 0 ≤ a) (ha2 : a ≤ 9223372036854775807) (w : World) :
    Calls Tryz.prog 131 #[.int .i64 a] w fun e w' => e = .returned (.int .u64 a) ∧ w' = w := by
  go_enter Tryz.func131, Tryz.ntmps131
  go_wp2_with fail
  go_ret
  exact ⟨rfl, rfl⟩
set_option maxHeartbeats 1000000 in
theorem numMul_pos (a b : Int) (ha : 0 ≤ a) (ha2 : a ≤ 9223372036854775807) (hb : 0 ≤ b) (hb2 : b ≤ 9223372036854775807) (hab : a * b ≤ 4611686018427387904) (w : World) :
    Calls Tryz.prog 76 #[.int .i64 a, .int .i64 b] w fun e w' => e = .returned (.tuple #[.int .i64 (a * b), .bool true]) ∧ Chg Nil w w' := by
  have h1 := fun W => numSize_pos a ha ha2 W
  have h2 := fun W => numSize_pos b hb hb2 W
  have h3 := fun W => mul64_int a b ha (by omega) hb (by omega) W
  have h0 : 0 ≤ a * b := Int.mul_nonneg ha hb
  have e1 : a * b / 18446744073709551616 = 0 := by omega
  have e2 : a * b % 18446744073709551616 = a * b := by omega
  rw [e1, e2] at h3
  have g1 : (a * b == 9223372036854775808) = false := by rw [beq_eq_false_iff_ne]; omega
  clear e1 e2
  generalize a * b = c at *
  have k1 : decide (a < 0) = false := decide_eq_false (by omega)
  have k2 : decide (b < 0) = false := decide_eq_false (by omega)
  have k3 : decide (9223372036854775808 < c) = false := decide_eq_false (by omega)
  go_enter Tryz.func76, Tryz.ntmps76
  go_wp2_with fail
  refine (h1 _).mono ?_
  rintro e w1 ⟨rfl, rfl⟩
  go_wp2_with fail
  refine (h2 _).mono ?_
  rintro e w1 ⟨rfl, rfl⟩
  go_wp2_with fail
  refine (h3 _).mono ?_
  rintro e w1 ⟨rfl, rfl⟩
  go_wp2_with fail
  go_ret2
  exact ⟨rfl, Chg.refl _ _⟩
set_option maxHeartbeats 1000000 in
theorem powTimes_any (g0 g1 g2 : Nat) (o a : Int) (w : World) (ho : 0 ≤ o) (ho2 : o ≤ 9223372036854775807) (ha : 0 ≤ a) (ha2 : a ≤ 9223372036854775807) (hoa : o * a ≤ 4611686018427387904)
    (h0 : Bk w g0 2 #[.int .i64 o]) (h1 : Bk w g1 2 #[.int .i64 a]) (h2 : Bk w g2 4 #[.bool true]) (h02 : g0 ≠ g2) (h01 : g0 ≠ g1) (h12 : g1 ≠ g2) :
    Calls Tryz.prog 75 #[.pointer (some ⟨g0, 0, none⟩), .pointer (some ⟨g1, 0, none⟩), .pointer (some ⟨g2, 0, none⟩)] w fun e w' => e = .returned (.tuple #[]) ∧ Bk w' g0 2 #[.int .i64 (o * a)] ∧ Bk w' g1 2 #[.int .i64 a] ∧ Bk w' g2 4 #[.bool true] ∧ Chg (fun k => k = g0 ∨ k = g2) w w' := by
  have hc := fun W => numMul_pos o a ho ho2 ha ha2 hoa W
  have y0 := h0.cell 0 rfl
  have y1 := h1.cell 0 rfl
  have H := Hid.mk (And.intro h0 (And.intro h1 h2))
  clear h0 h1 h2
  go_enter Tryz.func75, Tryz.ntmps75
  go_wp2_with fail
  refine (hc _).mono ?_
  rintro e w1 ⟨rfl, c1⟩
  have b0 := H.out.1.keep c1 (fun h => h)
  have b1 := H.out.2.1.keep c1 (fun h => h)
  have b2 := H.out.2.2.keep c1 (fun h => h)
  have z0 := b0.cell 0 rfl
  have z2 := b2.cell 0 rfl
  have f0 := fun j => b0.free j
  have f2 := fun j => b2.free j
  have H1 := Hid.mk (And.intro b0 (And.intro b1 (And.intro b2 c1)))
  clear b0 b1 b2 c1 y0 y1
  go_wp2_with fail
  go_end0
  refine ⟨rfl, ?_, ?_, ?_, ?_⟩
  · exact (H1.out.1.set 0 _).far h02 _
  · exact (H1.out.2.1.far (Ne.symm h01) _).far h12 _
  · exact (H1.out.2.2.1.far (Ne.symm h02) _).set 0 _
  · exact ((H1.out.2.2.2.wider (fun _ _ h => h.elim)).setCell (fun _ => .inl rfl) _).setCell (fun _ => .inr rfl) _
theorem powS_bd (j : Nat) (h : j ≤ 12) : 0 ≤ powS j ∧ powS j ≤ 13841287201 := by
  have hh : ∀ j : Fin 13, 0 ≤ powS j.1 ∧ powS j.1 ≤ 13841287201 := by decide +kernel
  exact hh ⟨j, by omega⟩
theorem powS_succ (j : Nat) : powS j * 7 = powS (j + 1) := by unfold powS; rw [Int.pow_succ]
set_option maxHeartbeats 2000000 in
theorem pow7_any (k : Nat) (hk : k ≤ 12) (w : World) :
    Calls Tryz.prog 37 #[.int .i64 7, .int .i64 (k : Int)] w fun e w' => e = .returned (.tuple #[.int .i64 (powS k), .bool true]) ∧ Chg Nil w w' := by
  go_enter Tryz.func37, Tryz.ntmps37
  go_wp2_with fail
  have hB := box3 w 2 2 4 #[.int .i64 7] #[.int .i64 1] #[.bool true]
  have HB := Hid.mk hB
  clear hB
  go_loopw [1] (fun v1 wr => ∃ m : Nat, m ≤ k ∧ v1 = .int .i64 (m : Int) ∧ Hid (Bk wr w.heap.size 2 #[.int .i64 7] ∧ Bk wr (w.heap.size + 1) 2 #[.int .i64 (powS (k - m))] ∧ Bk wr (w.heap.size + 1 + 1) 4 #[.bool true] ∧ Chg Nil w wr)) (fun v1 _ => (intOf v1).toNat)
  case atStart => exact ⟨k, by omega, rfl, Hid.mk (by rw [Nat.sub_self]; exact HB.out)⟩
  case round =>
    obtain ⟨m, hm, rfl, HR⟩ := hrel
    have y1 := HR.out.2.1.cell 0 rfl
    have y2 := HR.out.2.2.1.cell 0 rfl
    by_cases hm0 : 0 < m
    · have hp := powS_bd (k - m) (by omega)
      have hp2 := powS_bd (k - m + 1) (by omega)
      have hs := powS_succ (k - m)
      have hc := fun W h0 h1 h2 => powTimes_any (w.heap.size + 1) w.heap.size (w.heap.size + 1 + 1) (powS (k - m)) 7 W hp.1 (by omega) (by omega) (by omega) (by omega) h0 h1 h2 (by omega) (by omega) (by omega)
      rw [hs] at hc
      have e1 : k - m + 1 = k - (m - 1) := by omega
      rw [e1] at hc
      clear hs hp hp2 e1
      go_wp2_with fail
      refine (hc _ HR.out.2.1 HR.out.1 HR.out.2.2.1).mono ?_
      rintro e w1 ⟨rfl, b1, b0, b2, c1⟩
      have H1 := Hid.mk (And.intro b0 (And.intro b1 (And.intro b2 (HR.out.2.2.2.trans c1 (T := fun k => k = w.heap.size + 1 ∨ k = w.heap.size + 1 + 1) (fun i hi h => by omega)))))
      clear b0 b1 b2 c1 hc y1 y2
      go_wp2_with fail
      go_roundw
      case rel => exact ⟨m - 1, by omega, by go_num, H1⟩
      case measure => simp [intOf]; omega
    · obtain rfl : m = 0 := by omega
      have H1 := Hid.mk HR.out.2.2.2
      rw [Nat.sub_zero] at y1
      clear HR
      go_wp2_with fail
      go_quiet (fail)
      go_wp2_with fail
      go_ret2
      exact ⟨rfl, H1.out.drewN _⟩

end Go.Proofs.YtkemmffdiclloaaGreatDoor
