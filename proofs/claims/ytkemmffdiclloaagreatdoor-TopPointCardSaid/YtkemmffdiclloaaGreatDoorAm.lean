/- Joined for this seat from: XEl. -/
import Derived.Test.YtkemmffdiclloaaGreatDoorAl
set_option linter.unusedVariables false
set_option linter.unusedSimpArgs false
namespace Go.Proofs.YtkemmffdiclloaaGreatDoor
open Go.RowKit
theorem unit_undig (j : Nat) (hj : j < 6) : unitA j = (undig (j + 1)).1 ∧ unitB j = (undig (j + 1)).2 := by
  rcases six hj with rfl | rfl | rfl | rfl | rfl | rfl <;> exact ⟨rfl, rfl⟩
theorem dig_of (l : Int × Int) (j : Nat) (hj : j < 6) (h : undig (j + 1) = l) : dig l = j + 1 := by
  subst h
  rcases six hj with rfl | rfl | rfl | rfl | rfl | rfl <;> rfl
theorem dig_none (l : Int × Int) (h : ∀ i, i < 6 → undig (i + 1) ≠ l) : dig l = 0 := by
  unfold dig
  rw [if_neg (fun e => h 0 (by decide) e.symm), if_neg (fun e => h 1 (by decide) e.symm), if_neg (fun e => h 2 (by decide) e.symm), if_neg (fun e => h 3 (by decide) e.symm), if_neg (fun e => h 4 (by decide) e.symm), if_neg (fun e => h 5 (by decide) e.symm)]
theorem eqE_no (a b c d : Int) (h : ¬ (a = c ∧ b = d)) (W : World) : (binOp .eql 25 (.agg #[.int .i64 a, .int .i64 b]) (.agg #[.int .i64 c, .int .i64 d])).run Tryz.prog W = .ok (.bool false) W := by
  go_simp
  exact fun e1 e2 => h ⟨e1, e2⟩
theorem eqE_yes (a b : Int) (W : World) : (binOp .eql 25 (.agg #[.int .i64 a, .int .i64 b]) (.agg #[.int .i64 a, .int .i64 b])).run Tryz.prog W = .ok (.bool true) W := by
  go_simp
set_option maxHeartbeats 2000000 in
theorem digit_any (l : Int × Int) (w : World) :
    Calls Tryz.prog 65 #[eV l.1 l.2] w fun e w' => e = .returned (.int .i64 (dig l : Int)) ∧ Chg Nil w w' := by
  obtain ⟨a, b⟩ := l
  have hu := fun (j : Nat) (hj : j < 6) W => unit_any j hj W
  unfold eV at *
  have HU := Hid.mk hu
  clear hu
  go_enter Tryz.func65, Tryz.ntmps65
  go_wp2_with fail
  have HB := Hid.mk (And.intro (Bk.new w 25 #[.int .i64 a, .int .i64 b]) ((Chg.refl Nil w).alloc (.cells #[.int .i64 a, .int .i64 b] 25)))
  go_loopw [4] (fun v4 wr => ∃ j : Nat, j ≤ 6 ∧ v4 = .int .i64 (j : Int) ∧ Hid ((∀ i, i < j → undig (i + 1) ≠ (a, b)) ∧ Bk wr w.heap.size 25 #[.int .i64 a, .int .i64 b] ∧ Chg Nil w wr)) (fun v4 _ => 6 - (intOf v4).toNat)
  case atStart => exact ⟨0, by omega, rfl, Hid.mk ⟨fun i h => absurd h (by omega), HB.out.1, HB.out.2⟩⟩
  case round =>
    obtain ⟨j, hj, rfl, HR⟩ := hrel
    by_cases hj6 : j < 6
    · have hc := fun W => HU.out j hj6 W
      obtain ⟨u1, u2⟩ := unit_undig j hj6
      rw [u1, u2] at hc
      clear u1 u2
      have yx0 : ∀ x : After wr, x.world.cell? ⟨w.heap.size, 0, none⟩ = some (.int .i64 a) := fun x => (HR.out.2.1.after x).cell 0 rfl
      have yx1 : ∀ x : After wr, x.world.cell? ⟨w.heap.size, 1, none⟩ = some (.int .i64 b) := fun x => (HR.out.2.1.after x).cell 1 rfl
      have HC := Hid.mk hc
      clear hc
      by_cases he : undig (j + 1) = (a, b)
      · have hd := dig_of (a, b) j hj6 he
        have HE := Hid.mk (And.intro he hd)
        have hq := eqE_yes a b
        have e1 : (undig (j + 1)).1 = a := by rw [he]
        have e2 : (undig (j + 1)).2 = b := by rw [he]
        rw [e1, e2] at HC
        clear e1 e2 he hd
        go_wp2_with fail
        have hne := After.some wr
        refine wp_region_after (by kernel_rfl) (by kernel_rfl) ?_
        repeat (go_big_quiet_step (exact After.callE HC.out _))
        refine wpQuiet_nil ?_
        rintro _ ⟨x, rfl⟩
        go_wp2_with fail
        go_ret
        exact ⟨by rw [HE.out.2]; go_num, HR.out.2.2.then x.chg⟩
      · have hq := eqE_no (undig (j + 1)).1 (undig (j + 1)).2 a b (fun h => he (Prod.ext h.1 h.2))
        have HE := Hid.mk he
        clear he
        go_wp2_with fail
        have hne := After.some wr
        refine wp_region_after (by kernel_rfl) (by kernel_rfl) ?_
        repeat (go_big_quiet_step (exact After.callE HC.out _))
        refine wpQuiet_nil ?_
        rintro _ ⟨x, rfl⟩
        go_wp2_with fail
        go_roundw
        case rel => exact ⟨j + 1, by omega, by go_num, Hid.mk ⟨fun i hi => by
          rcases Nat.lt_or_ge i j with h | h
          · exact HR.out.1 i h
          · obtain rfl : i = j := by omega
            exact HE.out, HR.out.2.1.after x, HR.out.2.2.then x.chg⟩⟩
        case measure => simp [intOf]; omega
    · obtain rfl : j = 6 := by omega
      have HD := Hid.mk (And.intro (dig_none (a, b) HR.out.1) HR.out.2.2)
      clear HR
      go_wp2_with fail
      go_ret
      exact ⟨by rw [HD.out.1]; rfl, HD.out.2⟩

end Go.Proofs.YtkemmffdiclloaaGreatDoor
