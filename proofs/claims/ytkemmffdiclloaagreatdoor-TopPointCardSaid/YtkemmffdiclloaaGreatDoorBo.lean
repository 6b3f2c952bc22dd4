/- Joined for this seat from: XSs XSt. -/
import Derived.Deep.CutBlock
import Derived.Deep.CutRange
import Derived.Test.YtkemmffdiclloaaGreatDoorBn
set_option linter.unusedVariables false
set_option linter.unusedSimpArgs false
namespace Go.Proofs.YtkemmffdiclloaaGreatDoor
open Go.RowKit
/-- What partition leaves. -/
def Parted (Y : List Int) (a b m : Nat) : Prop := a ≤ m ∧ m < b ∧ (∀ k, a ≤ k → k < m → ix Y k < ix Y m) ∧ (∀ k, m < k → k < b → ix Y m ≤ ix Y k)
set_option maxHeartbeats 16000000 in
set_option maxRecDepth 100000 in
theorem partition_any (g n cap a b p : Nat) (X : List Int) (hn : X.length = n) (hnb : n ≤ 1000000) (hap : a ≤ p) (hpb : p < b) (hb : b ≤ n) (w : World) (h : URow w g X) :
    Calls Tryz.prog 142 #[.slice (some { block := g, off := 0 }) n cap, .int .i64 (a : Int), .int .i64 (b : Int), .int .i64 (p : Int)] w fun e w' => ∃ m ok Y, e = .returned (.tuple #[.int .i64 ((m : Nat) : Int), .bool ok]) ∧
      Mix a b X Y ∧ Parted Y a b m ∧ URow w' g Y ∧ Chg (fun k => k = g) w w' := by
  have HS := Hid.mk (And.intro (Mix.refl (X := X) (a := a) (b := b) (by omega)) (And.intro True.intro (And.intro h (Chg.refl (fun k => k = g) w))))
  clear h
  obtain ⟨Y, hY⟩ : ∃ Y, Y = X := ⟨_, rfl⟩
  have hl : Y.length = n := by rw [hY, hn]
  have HS : Hid (Mix a b X Y ∧ True ∧ URow w g Y ∧ Chg (fun k => k = g) w w) := by rw [hY]; exact HS
  clear hY
  go_enter Tryz.func142, Tryz.ntmps142
  go_upto_region 1 with fail
  go_cut [] from 12 to 25 (fun wx => Hid (URow wx g (sw Y (a) (p)) ∧ Chg (fun k => k = g) w wx))
  case first =>
    by_cases hsw : a = p
    · obtain rfl := hsw
      have y0 := HS.out.2.2.1.cell (a) (by omega)
      have y1 := HS.out.2.2.1.cell (a) (by omega)
      have f0 := HS.out.2.2.1.free
      have l0 := HS.out.2.2.1.lt
      go_wp2_with fail
      go_region
      have e1 := (HS.out.2.2.1.sw (i := a) (j := a) (by omega) (by omega))
      have e2 := chg_sw HS.out.2.2.2 rfl (a) (a) (.int .u64 (ix Y (a))) (.int .u64 (ix Y (a)))
      clear y0 y1 f0 l0
      go_wp2_with fail
      go_meet
      exact Hid.mk ⟨e1, e2⟩
    · have hsw2 : ¬ (p = a) := fun h => hsw h.symm
      have y0 := HS.out.2.2.1.cell (a) (by omega)
      have y1 := HS.out.2.2.1.cell (p) (by omega)
      have f0 := HS.out.2.2.1.free
      have l0 := HS.out.2.2.1.lt
      go_wp2_with fail
      go_region
      have e1 := (HS.out.2.2.1.sw (i := a) (j := p) (by omega) (by omega))
      have e2 := chg_sw HS.out.2.2.2 rfl (a) (p) (.int .u64 (ix Y (p))) (.int .u64 (ix Y (a)))
      clear y0 y1 f0 l0
      go_wp2_with fail
      go_meet
      exact Hid.mk ⟨e1, e2⟩
  case rest =>
    have HE := Hid.mk (And.intro (HS.out.1.sw a p (Nat.le_refl _) (by omega) hap hpb) (And.intro (Part.start (X := sw Y a p) (show a < b by omega)) hcut.out))
    clear HS hcut
    have hly : (sw Y a p).length = n := by rw [sw_len, hl]
    clear hl
    generalize sw Y a p = Y at *
    have hl := hly
    clear hly
    go_upto_block 0 with fail
    go_cut [10] from 30 to 45 (fun vq wx => ∃ q : Nat, vq = .int .i64 (q : Int) ∧ a + 1 ≤ q ∧ Hid (Mix a b X Y ∧ Part Y a b q (b - 1) ∧ URow wx g Y ∧ Chg (fun k => k = g) w wx) ∧ Hid (q ≤ b - 1 → ix Y a ≤ ix Y q))
    case first =>
      go_wp2_with fail
      go_loopw [10] (fun vq wr => ∃ q : Nat, vq = .int .i64 (q : Int) ∧ a + 1 ≤ q ∧ Hid (Mix a b X Y ∧ Part Y a b q (b - 1) ∧ URow wr g Y ∧ Chg (fun k => k = g) w wr)) (fun vq _ => b - 1 + 1 - (intOf vq).toNat)
      case atStart => exact ⟨a + 1, by go_num, Nat.le_refl _, HE⟩
      case round =>
        obtain ⟨q, rfl, hord, HR⟩ := hrel
        clear HE
        have hp1 := HR.out.2.1.lo
        have hp2 := HR.out.2.1.mid
        have hp3 := HR.out.2.1.hi
        by_cases hij : q ≤ b - 1
        · have k1 : decide ((q : Int) ≤ (b - 1 : Int)) = true := decide_eq_true (by omega)
          have x0 : ∀ z : After wr, z.world.cell? ⟨g, q, none⟩ = some (.int .u64 (ix Y (q))) := fun z => (HR.out.2.2.1.after z).cell (q) (by omega)
          have x1 : ∀ z : After wr, z.world.cell? ⟨g, a, none⟩ = some (.int .u64 (ix Y (a))) := fun z => (HR.out.2.2.1.after z).cell (a) (by omega)
          go_wp2_with fail
          have hne := After.some wr
          refine wp_region_after (by kernel_rfl) (by kernel_rfl) ?_
          repeat (go_big_quiet_step (exact After.callE (lessE _ _) _))
          refine wpQuiet_nil ?_
          rintro _ ⟨z, rfl⟩
          have HT := Hid.mk (And.intro (HR.out.1) (And.intro (HR.out.2.1) (And.intro (HR.out.2.2.1.after z) (HR.out.2.2.2.trans z.chg (T := Nil) (fun _ _ h => h.elim)))))
          clear HR hne x0 x1
          generalize z.world = wz at *
          clear z
          generalize hdd : decide (ix Y q < ix Y a) = bb
          have HD := Hid.mk hdd
          clear hdd
          cases bb with
          | true =>
            go_wp2_with fail
            have hlt := of_decide_eq_true HD.out
            refine ⟨⟨q + 1, by go_num, by omega, Hid.mk ⟨HT.out.1, HT.out.2.1.up hij (by omega), HT.out.2.2.1, HT.out.2.2.2⟩⟩, by simp [intOf]; omega⟩
          | false =>
            go_wp2_with fail
            go_meet
            exact ⟨q, rfl, hord, HT, Hid.mk (fun _ => by have := of_decide_eq_false HD.out; omega)⟩
        · have k1 : decide ((q : Int) ≤ (b - 1 : Int)) = false := decide_eq_false (by omega)
          go_wp2_with fail
          have hne := After.some wr
          refine wp_region_after (by kernel_rfl) (by kernel_rfl) ?_
          repeat (go_big_quiet_step (fail))
          refine wpQuiet_nil ?_
          rintro _ ⟨z, rfl⟩
          have HT := Hid.mk (And.intro (HR.out.1) (And.intro (HR.out.2.1) (And.intro (HR.out.2.2.1.after z) (HR.out.2.2.2.trans z.chg (T := Nil) (fun _ _ h => h.elim)))))
          clear HR hne
          generalize z.world = wz at *
          clear z
          go_wp2_with fail
          go_meet
          exact ⟨q, rfl, hord, HT, Hid.mk (fun h => absurd h hij)⟩
    case rest =>
      clear HE
      obtain ⟨i, rfl, hi0, HT, HX⟩ := hcut
      have HT := HT
      go_upto_block 2 with fail
      go_cut [11] from 46 to 62 (fun vq wx => ∃ q : Nat, vq = .int .i64 (q : Int) ∧ q ≤ b - 1 ∧ Hid (Mix a b X Y ∧ Part Y a b (i) q ∧ URow wx g Y ∧ Chg (fun k => k = g) w wx) ∧ Hid (i ≤ q → ix Y q < ix Y a))
      case first =>
        go_wp2_with fail
        go_loopw [11] (fun vq wr => ∃ q : Nat, vq = .int .i64 (q : Int) ∧ q ≤ b - 1 ∧ Hid (Mix a b X Y ∧ Part Y a b (i) q ∧ URow wr g Y ∧ Chg (fun k => k = g) w wr)) (fun vq _ => (intOf vq).toNat)
        case atStart => exact ⟨b - 1, by go_num, Nat.le_refl _, HT⟩
        case round =>
          obtain ⟨q, rfl, hord, HR⟩ := hrel
          clear HT
          have hp1 := HR.out.2.1.lo
          have hp2 := HR.out.2.1.mid
          have hp3 := HR.out.2.1.hi
          by_cases hij : i ≤ q
          · have k1 : decide ((i : Int) ≤ (q : Int)) = true := decide_eq_true (by omega)
            have x0 : ∀ z : After wr, z.world.cell? ⟨g, q, none⟩ = some (.int .u64 (ix Y (q))) := fun z => (HR.out.2.2.1.after z).cell (q) (by omega)
            have x1 : ∀ z : After wr, z.world.cell? ⟨g, a, none⟩ = some (.int .u64 (ix Y (a))) := fun z => (HR.out.2.2.1.after z).cell (a) (by omega)
            go_wp2_with fail
            have hne := After.some wr
            refine wp_region_after (by kernel_rfl) (by kernel_rfl) ?_
            repeat (go_big_quiet_step (exact After.callE (lessE _ _) _))
            refine wpQuiet_nil ?_
            rintro _ ⟨z, rfl⟩
            have HT := Hid.mk (And.intro (HR.out.1) (And.intro (HR.out.2.1) (And.intro (HR.out.2.2.1.after z) (HR.out.2.2.2.trans z.chg (T := Nil) (fun _ _ h => h.elim)))))
            clear HR hne x0 x1
            generalize z.world = wz at *
            clear z
            generalize hdd : decide (ix Y q < ix Y a) = bb
            have HD := Hid.mk hdd
            clear hdd
            cases bb with
            | false =>
              go_wp2_with fail
              have hlt := of_decide_eq_false HD.out
              refine ⟨⟨q - 1, by go_num, by omega, Hid.mk ⟨HT.out.1, HT.out.2.1.dn hij (by omega), HT.out.2.2.1, HT.out.2.2.2⟩⟩, by simp [intOf]; omega⟩
            | true =>
              go_wp2_with fail
              go_meet
              exact ⟨q, rfl, hord, HT, Hid.mk (fun _ => by have := of_decide_eq_true HD.out; omega)⟩
          · have k1 : decide ((i : Int) ≤ (q : Int)) = false := decide_eq_false (by omega)
            go_wp2_with fail
            have hne := After.some wr
            refine wp_region_after (by kernel_rfl) (by kernel_rfl) ?_
            repeat (go_big_quiet_step (fail))
            refine wpQuiet_nil ?_
            rintro _ ⟨z, rfl⟩
            have HT := Hid.mk (And.intro (HR.out.1) (And.intro (HR.out.2.1) (And.intro (HR.out.2.2.1.after z) (HR.out.2.2.2.trans z.chg (T := Nil) (fun _ _ h => h.elim)))))
            clear HR hne
            generalize z.world = wz at *
            clear z
            go_wp2_with fail
            go_meet
            exact ⟨q, rfl, hord, HT, Hid.mk (fun h => absurd h hij)⟩
      case rest =>
        clear HT
        obtain ⟨j, rfl, hj0, HU, HX2⟩ := hcut
        have hp1 := HU.out.2.1.lo
        have hp2 := HU.out.2.1.mid
        have hp3 := HU.out.2.1.hi
        by_cases hgt : j < i
        · have k2 : decide ((j : Int) < (i : Int)) = true := decide_eq_true (by omega)
          go_upto_region 8 with fail
          go_cut [] from 66 to 79 (fun wx => Hid (URow wx g (sw Y (j) (a)) ∧ Chg (fun k => k = g) w wx))
          case first =>
            by_cases hsw : j = a
            · subst hsw
              have y0 := HU.out.2.2.1.cell (j) (by omega)
              have y1 := HU.out.2.2.1.cell (j) (by omega)
              have f0 := HU.out.2.2.1.free
              have l0 := HU.out.2.2.1.lt
              go_wp2_with fail
              go_region
              have e1 := (HU.out.2.2.1.sw (i := j) (j := j) (by omega) (by omega))
              have e2 := chg_sw HU.out.2.2.2 rfl (j) (j) (.int .u64 (ix Y (j))) (.int .u64 (ix Y (j)))
              clear y0 y1 f0 l0
              go_wp2_with fail
              go_meet
              exact Hid.mk ⟨e1, e2⟩
            · have hsw2 : ¬ (a = j) := fun h => hsw h.symm
              have y0 := HU.out.2.2.1.cell (j) (by omega)
              have y1 := HU.out.2.2.1.cell (a) (by omega)
              have f0 := HU.out.2.2.1.free
              have l0 := HU.out.2.2.1.lt
              go_wp2_with fail
              go_region
              have e1 := (HU.out.2.2.1.sw (i := j) (j := a) (by omega) (by omega))
              have e2 := chg_sw HU.out.2.2.2 rfl (j) (a) (.int .u64 (ix Y (a))) (.int .u64 (ix Y (j)))
              clear y0 y1 f0 l0
              go_wp2_with fail
              go_meet
              exact Hid.mk ⟨e1, e2⟩
          case rest =>
            have HE := Hid.mk (And.intro (HU.out.1.sw j a (by omega) (by omega) (by omega) (by omega)) (And.intro (HU.out.2.1.done (by have := HU.out.1.len; omega) (by omega)) hcut.out))
            clear HU hcut
            go_wp2_with fail
            go_ret2
            exact ⟨j, true, _, rfl, HE.out⟩
        · have k2 : decide ((j : Int) < (i : Int)) = false := decide_eq_false (by omega)
          have hne : ¬ (i = j) := fun h => by
            subst h
            have h1 := HX.out
            have h2 := HX2.out
            have := h1 (by omega)
            have := h2 (by omega)
            omega
          have hne2 : ¬ (j = i) := fun h => hne h.symm
          have y0 := HU.out.2.2.1.cell (i) (by omega)
          have y1 := HU.out.2.2.1.cell (j) (by omega)
          have f0 := HU.out.2.2.1.free
          have l0 := HU.out.2.2.1.lt
          go_wp2_with fail
          go_region
          have e1 := (HU.out.2.2.1.sw (i := i) (j := j) (by omega) (by omega))
          have e2 := chg_sw HU.out.2.2.2 rfl (i) (j) (.int .u64 (ix Y (j))) (.int .u64 (ix Y (i)))
          clear y0 y1 f0 l0
          have HE := Hid.mk (And.intro (HU.out.1.sw i j (by omega) (by omega) (by omega) (by omega)) (And.intro (HU.out.2.1.swap (by have := HU.out.1.len; omega) (by omega) (HX.out (by omega)) (HX2.out (by omega))) (And.intro e1 e2)))
          clear e1 e2 HU HX HX2
          have hly : (sw Y i j).length = n := by rw [sw_len, hl]
          go_wp2_with fail
          go_loopw [10, 11] (fun v10 v11 wr => ∃ i j : Nat, v10 = .int .i64 (i : Int) ∧ v11 = .int .i64 (j : Int) ∧ Hid (∃ Y, Mix a b X Y ∧ Part Y a b i j ∧ URow wr g Y ∧ Chg (fun k => k = g) w wr)) (fun v10 v11 _ => (intOf v11 + 1 - intOf v10).toNat)
          case atStart => exact ⟨i + 1, j - 1, by go_num, by go_num, Hid.mk ⟨_, HE.out⟩⟩
          case round =>
            obtain ⟨i3, j3, rfl, rfl, HR3⟩ := hrel
            clear HE hly hl hp1 hp2 hp3 hgt k2 hne hne2
            obtain ⟨Y, HS⟩ : ∃ Y, Hid (Mix a b X Y ∧ Part Y a b i3 j3 ∧ URow wr g Y ∧ Chg (fun k => k = g) w wr) := by
              obtain ⟨Y, h⟩ := HR3.out
              exact ⟨Y, Hid.mk h⟩
            clear HR3
            have hl : Y.length = n := by rw [HS.out.1.len.1, hn]
            obtain ⟨wo, hwo⟩ : ∃ wo, wo = wr := ⟨_, rfl⟩
            subst hwo
            go_upto_block 6 with fail
            go_cut [10] from 99 to 152 (fun vq wx => ∃ q : Nat, vq = .int .i64 (q : Int) ∧ i3 ≤ q ∧ Hid (Mix a b X Y ∧ Part Y a b q (j3) ∧ URow wx g Y ∧ Chg (fun k => k = g) w wx) ∧ Hid (q ≤ j3 → ix Y a ≤ ix Y q))
            case first =>
              go_wp2_with fail
              go_loopw [10] (fun vq wr => ∃ q : Nat, vq = .int .i64 (q : Int) ∧ i3 ≤ q ∧ Hid (Mix a b X Y ∧ Part Y a b q (j3) ∧ URow wr g Y ∧ Chg (fun k => k = g) w wr)) (fun vq _ => j3 + 1 - (intOf vq).toNat)
              case atStart => exact ⟨i3, by go_num, Nat.le_refl _, HS⟩
              case round =>
                obtain ⟨q, rfl, hord, HR⟩ := hrel
                clear HS
                have hp1 := HR.out.2.1.lo
                have hp2 := HR.out.2.1.mid
                have hp3 := HR.out.2.1.hi
                by_cases hij : q ≤ j3
                · have k1 : decide ((q : Int) ≤ (j3 : Int)) = true := decide_eq_true (by omega)
                  have x0 : ∀ z : After wr, z.world.cell? ⟨g, q, none⟩ = some (.int .u64 (ix Y (q))) := fun z => (HR.out.2.2.1.after z).cell (q) (by omega)
                  have x1 : ∀ z : After wr, z.world.cell? ⟨g, a, none⟩ = some (.int .u64 (ix Y (a))) := fun z => (HR.out.2.2.1.after z).cell (a) (by omega)
                  go_wp2_with fail
                  have hne := After.some wr
                  refine wp_region_after (by kernel_rfl) (by kernel_rfl) ?_
                  repeat (go_big_quiet_step (exact After.callE (lessE _ _) _))
                  refine wpQuiet_nil ?_
                  rintro _ ⟨z, rfl⟩
                  have HT := Hid.mk (And.intro (HR.out.1) (And.intro (HR.out.2.1) (And.intro (HR.out.2.2.1.after z) (HR.out.2.2.2.trans z.chg (T := Nil) (fun _ _ h => h.elim)))))
                  clear HR hne x0 x1
                  generalize z.world = wz at *
                  clear z
                  generalize hdd : decide (ix Y q < ix Y a) = bb
                  have HD := Hid.mk hdd
                  clear hdd
                  cases bb with
                  | true =>
                    go_wp2_with fail
                    have hlt := of_decide_eq_true HD.out
                    refine ⟨⟨q + 1, by go_num, by omega, Hid.mk ⟨HT.out.1, HT.out.2.1.up hij (by omega), HT.out.2.2.1, HT.out.2.2.2⟩⟩, by simp [intOf]; omega⟩
                  | false =>
                    go_wp2_with fail
                    go_meet
                    exact ⟨q, rfl, hord, HT, Hid.mk (fun _ => by have := of_decide_eq_false HD.out; omega)⟩
                · have k1 : decide ((q : Int) ≤ (j3 : Int)) = false := decide_eq_false (by omega)
                  go_wp2_with fail
                  have hne := After.some wr
                  refine wp_region_after (by kernel_rfl) (by kernel_rfl) ?_
                  repeat (go_big_quiet_step (fail))
                  refine wpQuiet_nil ?_
                  rintro _ ⟨z, rfl⟩
                  have HT := Hid.mk (And.intro (HR.out.1) (And.intro (HR.out.2.1) (And.intro (HR.out.2.2.1.after z) (HR.out.2.2.2.trans z.chg (T := Nil) (fun _ _ h => h.elim)))))
                  clear HR hne
                  generalize z.world = wz at *
                  clear z
                  go_wp2_with fail
                  go_meet
                  exact ⟨q, rfl, hord, HT, Hid.mk (fun h => absurd h hij)⟩
            case rest =>
              clear HS
              obtain ⟨i, rfl, hi0, HT, HX⟩ := hcut
              go_upto_block 8 with fail
              go_cut [11] from 99 to 152 (fun vq wx => ∃ q : Nat, vq = .int .i64 (q : Int) ∧ q ≤ j3 ∧ Hid (Mix a b X Y ∧ Part Y a b (i) q ∧ URow wx g Y ∧ Chg (fun k => k = g) w wx) ∧ Hid (i ≤ q → ix Y q < ix Y a))
              case first =>
                go_wp2_with fail
                go_loopw [11] (fun vq wr => ∃ q : Nat, vq = .int .i64 (q : Int) ∧ q ≤ j3 ∧ Hid (Mix a b X Y ∧ Part Y a b (i) q ∧ URow wr g Y ∧ Chg (fun k => k = g) w wr)) (fun vq _ => (intOf vq).toNat)
                case atStart => exact ⟨j3, by go_num, Nat.le_refl _, HT⟩
                case round =>
                  obtain ⟨q, rfl, hord, HR⟩ := hrel
                  clear HT
                  have hp1 := HR.out.2.1.lo
                  have hp2 := HR.out.2.1.mid
                  have hp3 := HR.out.2.1.hi
                  by_cases hij : i ≤ q
                  · have k1 : decide ((i : Int) ≤ (q : Int)) = true := decide_eq_true (by omega)
                    have x0 : ∀ z : After wr, z.world.cell? ⟨g, q, none⟩ = some (.int .u64 (ix Y (q))) := fun z => (HR.out.2.2.1.after z).cell (q) (by omega)
                    have x1 : ∀ z : After wr, z.world.cell? ⟨g, a, none⟩ = some (.int .u64 (ix Y (a))) := fun z => (HR.out.2.2.1.after z).cell (a) (by omega)
                    go_wp2_with fail
                    have hne := After.some wr
                    refine wp_region_after (by kernel_rfl) (by kernel_rfl) ?_
                    repeat (go_big_quiet_step (exact After.callE (lessE _ _) _))
                    refine wpQuiet_nil ?_
                    rintro _ ⟨z, rfl⟩
                    have HT := Hid.mk (And.intro (HR.out.1) (And.intro (HR.out.2.1) (And.intro (HR.out.2.2.1.after z) (HR.out.2.2.2.trans z.chg (T := Nil) (fun _ _ h => h.elim)))))
                    clear HR hne x0 x1
                    generalize z.world = wz at *
                    clear z
                    generalize hdd : decide (ix Y q < ix Y a) = bb
                    have HD := Hid.mk hdd
                    clear hdd
                    cases bb with
                    | false =>
                      go_wp2_with fail
                      have hlt := of_decide_eq_false HD.out
                      refine ⟨⟨q - 1, by go_num, by omega, Hid.mk ⟨HT.out.1, HT.out.2.1.dn hij (by omega), HT.out.2.2.1, HT.out.2.2.2⟩⟩, by simp [intOf]; omega⟩
                    | true =>
                      go_wp2_with fail
                      go_meet
                      exact ⟨q, rfl, hord, HT, Hid.mk (fun _ => by have := of_decide_eq_true HD.out; omega)⟩
                  · have k1 : decide ((i : Int) ≤ (q : Int)) = false := decide_eq_false (by omega)
                    go_wp2_with fail
                    have hne := After.some wr
                    refine wp_region_after (by kernel_rfl) (by kernel_rfl) ?_
                    repeat (go_big_quiet_step (fail))
                    refine wpQuiet_nil ?_
                    rintro _ ⟨z, rfl⟩
                    have HT := Hid.mk (And.intro (HR.out.1) (And.intro (HR.out.2.1) (And.intro (HR.out.2.2.1.after z) (HR.out.2.2.2.trans z.chg (T := Nil) (fun _ _ h => h.elim)))))
                    clear HR hne
                    generalize z.world = wz at *
                    clear z
                    go_wp2_with fail
                    go_meet
                    exact ⟨q, rfl, hord, HT, Hid.mk (fun h => absurd h hij)⟩
              case rest =>
                clear HT
                obtain ⟨j, rfl, hj0, HU, HX2⟩ := hcut
                have hp1 := HU.out.2.1.lo
                have hp2 := HU.out.2.1.mid
                have hp3 := HU.out.2.1.hi
                by_cases hgt : j < i
                · have k2 : decide ((j : Int) < (i : Int)) = true := decide_eq_true (by omega)
                  go_upto_region 21 with fail
                  go_cut [] from 153 to 166 (fun wx => Hid (URow wx g (sw Y (j) (a)) ∧ Chg (fun k => k = g) w wx))
                  case first =>
                    by_cases hsw : j = a
                    · subst hsw
                      have y0 := HU.out.2.2.1.cell (j) (by omega)
                      have y1 := HU.out.2.2.1.cell (j) (by omega)
                      have f0 := HU.out.2.2.1.free
                      have l0 := HU.out.2.2.1.lt
                      go_wp2_with fail
                      go_region
                      have e1 := (HU.out.2.2.1.sw (i := j) (j := j) (by omega) (by omega))
                      have e2 := chg_sw HU.out.2.2.2 rfl (j) (j) (.int .u64 (ix Y (j))) (.int .u64 (ix Y (j)))
                      clear y0 y1 f0 l0
                      go_wp2_with fail
                      go_meet
                      exact Hid.mk ⟨e1, e2⟩
                    · have hsw2 : ¬ (a = j) := fun h => hsw h.symm
                      have y0 := HU.out.2.2.1.cell (j) (by omega)
                      have y1 := HU.out.2.2.1.cell (a) (by omega)
                      have f0 := HU.out.2.2.1.free
                      have l0 := HU.out.2.2.1.lt
                      go_wp2_with fail
                      go_region
                      have e1 := (HU.out.2.2.1.sw (i := j) (j := a) (by omega) (by omega))
                      have e2 := chg_sw HU.out.2.2.2 rfl (j) (a) (.int .u64 (ix Y (a))) (.int .u64 (ix Y (j)))
                      clear y0 y1 f0 l0
                      go_wp2_with fail
                      go_meet
                      exact Hid.mk ⟨e1, e2⟩
                  case rest =>
                    have HE := Hid.mk (And.intro (HU.out.1.sw j a (by omega) (by omega) (by omega) (by omega)) (And.intro (HU.out.2.1.done (by have := HU.out.1.len; omega) (by omega)) hcut.out))
                    clear HU hcut
                    go_wp2_with fail
                    go_ret2
                    exact ⟨j, false, _, rfl, HE.out⟩
                · have k2 : decide ((j : Int) < (i : Int)) = false := decide_eq_false (by omega)
                  have hne : ¬ (i = j) := fun h => by
                    subst h
                    have h1 := HX.out
                    have h2 := HX2.out
                    have := h1 (by omega)
                    have := h2 (by omega)
                    omega
                  have hne2 : ¬ (j = i) := fun h => hne h.symm
                  have y0 := HU.out.2.2.1.cell (i) (by omega)
                  have y1 := HU.out.2.2.1.cell (j) (by omega)
                  have f0 := HU.out.2.2.1.free
                  have l0 := HU.out.2.2.1.lt
                  go_wp2_with fail
                  go_region
                  have e1 := (HU.out.2.2.1.sw (i := i) (j := j) (by omega) (by omega))
                  have e2 := chg_sw HU.out.2.2.2 rfl (i) (j) (.int .u64 (ix Y (j))) (.int .u64 (ix Y (i)))
                  clear y0 y1 f0 l0
                  have HE := Hid.mk (And.intro (HU.out.1.sw i j (by omega) (by omega) (by omega) (by omega)) (And.intro (HU.out.2.1.swap (by have := HU.out.1.len; omega) (by omega) (HX.out (by omega)) (HX2.out (by omega))) (And.intro e1 e2)))
                  clear e1 e2 HU HX HX2
                  go_wp2_with fail
                  refine ⟨⟨i + 1, j - 1, by go_num, by go_num, Hid.mk ⟨_, HE.out⟩⟩, ?_⟩
                  simp only [intOf]
                  omega

end Go.Proofs.YtkemmffdiclloaaGreatDoor
namespace Go.Proofs.YtkemmffdiclloaaGreatDoor
open Go.RowKit
/-- What partitionEqual leaves. -/
def PartedE (v : Int) (Y : List Int) (a b m : Nat) : Prop := ix Y a = v ∧ a < m ∧ m ≤ b ∧ (∀ k, a ≤ k → k < m → ix Y k ≤ ix Y a) ∧ (∀ k, m ≤ k → k < b → ix Y a < ix Y k)
theorem sw_at {X : List Int} {a p : Nat} (ha : a < X.length) (hp : p < X.length) : ix (sw X a p) a = ix X p := by
  rw [ix_sw ha hp]
  by_cases e : a = p
  · rw [if_pos e, e]
  · rw [if_neg e, if_pos rfl]
set_option maxHeartbeats 16000000 in
set_option maxRecDepth 100000 in
theorem partitionEqual_any (g n cap a b p : Nat) (X : List Int) (hn : X.length = n) (hnb : n ≤ 1000000) (hap : a ≤ p) (hpb : p < b) (hb : b ≤ n) (w : World) (h : URow w g X) :
    Calls Tryz.prog 141 #[.slice (some { block := g, off := 0 }) n cap, .int .i64 (a : Int), .int .i64 (b : Int), .int .i64 (p : Int)] w fun e w' => ∃ m Y, e = .returned (.int .i64 ((m : Nat) : Int)) ∧
      Mix a b X Y ∧ PartedE (ix X p) Y a b m ∧ URow w' g Y ∧ Chg (fun k => k = g) w w' := by
  obtain ⟨v, hv⟩ : ∃ v, v = ix X p := ⟨_, rfl⟩
  rw [← hv]
  have HV := Hid.mk hv
  clear hv
  have HS := Hid.mk (And.intro (Mix.refl (X := X) (a := a) (b := b) (by omega)) (And.intro True.intro (And.intro h (Chg.refl (fun k => k = g) w))))
  clear h
  obtain ⟨Y, hY⟩ : ∃ Y, Y = X := ⟨_, rfl⟩
  have hl : Y.length = n := by rw [hY, hn]
  have HS : Hid (Mix a b X Y ∧ True ∧ URow w g Y ∧ Chg (fun k => k = g) w w) := by rw [hY]; exact HS
  have HY := Hid.mk hY
  clear hY
  go_enter Tryz.func141, Tryz.ntmps141
  go_upto_region 1 with fail
  go_cut [] from 11 to 24 (fun wx => Hid (URow wx g (sw Y (a) (p)) ∧ Chg (fun k => k = g) w wx))
  case first =>
    by_cases hsw : a = p
    · obtain rfl := hsw
      have y0 := HS.out.2.2.1.cell (a) (by omega)
      have y1 := HS.out.2.2.1.cell (a) (by omega)
      have f0 := HS.out.2.2.1.free
      have l0 := HS.out.2.2.1.lt
      go_wp2_with fail
      go_region
      have e1 := (HS.out.2.2.1.sw (i := a) (j := a) (by omega) (by omega))
      have e2 := chg_sw HS.out.2.2.2 rfl (a) (a) (.int .u64 (ix Y (a))) (.int .u64 (ix Y (a)))
      clear y0 y1 f0 l0
      go_wp2_with fail
      go_meet
      exact Hid.mk ⟨e1, e2⟩
    · have hsw2 : ¬ (p = a) := fun h => hsw h.symm
      have y0 := HS.out.2.2.1.cell (a) (by omega)
      have y1 := HS.out.2.2.1.cell (p) (by omega)
      have f0 := HS.out.2.2.1.free
      have l0 := HS.out.2.2.1.lt
      go_wp2_with fail
      go_region
      have e1 := (HS.out.2.2.1.sw (i := a) (j := p) (by omega) (by omega))
      have e2 := chg_sw HS.out.2.2.2 rfl (a) (p) (.int .u64 (ix Y (p))) (.int .u64 (ix Y (a)))
      clear y0 y1 f0 l0
      go_wp2_with fail
      go_meet
      exact Hid.mk ⟨e1, e2⟩
  case rest =>
    have HE := Hid.mk (And.intro (HS.out.1.sw a p (Nat.le_refl _) (by omega) hap hpb) (And.intro (PartE.start (v := v) (X := sw Y a p) (show a < b by omega) (by rw [sw_at (by omega) (by omega), HY.out, HV.out])) hcut.out))
    clear HS hcut HY HV
    have hly : (sw Y a p).length = n := by rw [sw_len, hl]
    clear hl
    generalize sw Y a p = Y at *
    have hl := hly
    clear hly
    obtain ⟨wo, hwo⟩ : ∃ wo, wo = wc := ⟨_, rfl⟩
    subst hwo
    go_wp2_with fail
    go_loopw [9, 10] (fun v10 v11 wr => ∃ i j : Nat, v10 = .int .i64 (i : Int) ∧ v11 = .int .i64 (j : Int) ∧ Hid (∃ Y, Mix a b X Y ∧ PartE v Y a b i j ∧ URow wr g Y ∧ Chg (fun k => k = g) w wr)) (fun v10 v11 _ => (intOf v11 + 1 - intOf v10).toNat)
    case atStart => exact ⟨a + 1, b - 1, by go_num, by go_num, Hid.mk ⟨_, HE.out⟩⟩
    case round =>
      obtain ⟨i3, j3, rfl, rfl, HR3⟩ := hrel
      clear HE hl
      obtain ⟨Y, HS⟩ : ∃ Y, Hid (Mix a b X Y ∧ PartE v Y a b i3 j3 ∧ URow wr g Y ∧ Chg (fun k => k = g) w wr) := by
        obtain ⟨Y, h⟩ := HR3.out
        exact ⟨Y, Hid.mk h⟩
      clear HR3
      have hl : Y.length = n := by rw [HS.out.1.len.1, hn]
      obtain ⟨wo, hwo⟩ : ∃ wo, wo = wr := ⟨_, rfl⟩
      subst hwo
      go_upto_block 2 with fail
      go_cut [9] from 29 to 82 (fun vq wx => ∃ q : Nat, vq = .int .i64 (q : Int) ∧ i3 ≤ q ∧ Hid (Mix a b X Y ∧ PartE v Y a b q (j3) ∧ URow wx g Y ∧ Chg (fun k => k = g) w wx) ∧ Hid (q ≤ j3 → ix Y a < ix Y q))
      case first =>
        go_wp2_with fail
        go_loopw [9] (fun vq wr => ∃ q : Nat, vq = .int .i64 (q : Int) ∧ i3 ≤ q ∧ Hid (Mix a b X Y ∧ PartE v Y a b q (j3) ∧ URow wr g Y ∧ Chg (fun k => k = g) w wr)) (fun vq _ => j3 + 1 - (intOf vq).toNat)
        case atStart => exact ⟨i3, by go_num, Nat.le_refl _, HS⟩
        case round =>
          obtain ⟨q, rfl, hord, HR⟩ := hrel
          clear HS
          have hp1 := HR.out.2.1.lo
          have hp2 := HR.out.2.1.mid
          have hp3 := HR.out.2.1.hi
          by_cases hij : q ≤ j3
          · have k1 : decide ((q : Int) ≤ (j3 : Int)) = true := decide_eq_true (by omega)
            have x0 : ∀ z : After wr, z.world.cell? ⟨g, a, none⟩ = some (.int .u64 (ix Y (a))) := fun z => (HR.out.2.2.1.after z).cell (a) (by omega)
            have x1 : ∀ z : After wr, z.world.cell? ⟨g, q, none⟩ = some (.int .u64 (ix Y (q))) := fun z => (HR.out.2.2.1.after z).cell (q) (by omega)
            go_wp2_with fail
            have hne := After.some wr
            refine wp_region_after (by kernel_rfl) (by kernel_rfl) ?_
            repeat (go_big_quiet_step (exact After.callE (lessE _ _) _))
            refine wpQuiet_nil ?_
            rintro _ ⟨z, rfl⟩
            have HT := Hid.mk (And.intro (HR.out.1) (And.intro (HR.out.2.1) (And.intro (HR.out.2.2.1.after z) (HR.out.2.2.2.trans z.chg (T := Nil) (fun _ _ h => h.elim)))))
            clear HR hne x0 x1
            generalize z.world = wz at *
            clear z
            generalize hdd : decide (ix Y a < ix Y q) = bb
            have HD := Hid.mk hdd
            clear hdd
            cases bb with
            | false =>
              go_wp2_with fail
              have hlt := of_decide_eq_false HD.out
              refine ⟨⟨q + 1, by go_num, by omega, Hid.mk ⟨HT.out.1, HT.out.2.1.up hij (by omega), HT.out.2.2.1, HT.out.2.2.2⟩⟩, by simp [intOf]; omega⟩
            | true =>
              go_wp2_with fail
              go_meet
              exact ⟨q, rfl, hord, HT, Hid.mk (fun _ => by have := of_decide_eq_true HD.out; omega)⟩
          · have k1 : decide ((q : Int) ≤ (j3 : Int)) = false := decide_eq_false (by omega)
            go_wp2_with fail
            have hne := After.some wr
            refine wp_region_after (by kernel_rfl) (by kernel_rfl) ?_
            repeat (go_big_quiet_step (fail))
            refine wpQuiet_nil ?_
            rintro _ ⟨z, rfl⟩
            have HT := Hid.mk (And.intro (HR.out.1) (And.intro (HR.out.2.1) (And.intro (HR.out.2.2.1.after z) (HR.out.2.2.2.trans z.chg (T := Nil) (fun _ _ h => h.elim)))))
            clear HR hne
            generalize z.world = wz at *
            clear z
            go_wp2_with fail
            go_meet
            exact ⟨q, rfl, hord, HT, Hid.mk (fun h => absurd h hij)⟩
      case rest =>
        clear HS
        obtain ⟨i, rfl, hi0, HT, HX⟩ := hcut
        go_upto_block 4 with fail
        go_cut [10] from 29 to 82 (fun vq wx => ∃ q : Nat, vq = .int .i64 (q : Int) ∧ q ≤ j3 ∧ Hid (Mix a b X Y ∧ PartE v Y a b (i) q ∧ URow wx g Y ∧ Chg (fun k => k = g) w wx) ∧ Hid (i ≤ q → ix Y q ≤ ix Y a))
        case first =>
          go_wp2_with fail
          go_loopw [10] (fun vq wr => ∃ q : Nat, vq = .int .i64 (q : Int) ∧ q ≤ j3 ∧ Hid (Mix a b X Y ∧ PartE v Y a b (i) q ∧ URow wr g Y ∧ Chg (fun k => k = g) w wr)) (fun vq _ => (intOf vq).toNat)
          case atStart => exact ⟨j3, by go_num, Nat.le_refl _, HT⟩
          case round =>
            obtain ⟨q, rfl, hord, HR⟩ := hrel
            clear HT
            have hp1 := HR.out.2.1.lo
            have hp2 := HR.out.2.1.mid
            have hp3 := HR.out.2.1.hi
            by_cases hij : i ≤ q
            · have k1 : decide ((i : Int) ≤ (q : Int)) = true := decide_eq_true (by omega)
              have x0 : ∀ z : After wr, z.world.cell? ⟨g, a, none⟩ = some (.int .u64 (ix Y (a))) := fun z => (HR.out.2.2.1.after z).cell (a) (by omega)
              have x1 : ∀ z : After wr, z.world.cell? ⟨g, q, none⟩ = some (.int .u64 (ix Y (q))) := fun z => (HR.out.2.2.1.after z).cell (q) (by omega)
              go_wp2_with fail
              have hne := After.some wr
              refine wp_region_after (by kernel_rfl) (by kernel_rfl) ?_
              repeat (go_big_quiet_step (exact After.callE (lessE _ _) _))
              refine wpQuiet_nil ?_
              rintro _ ⟨z, rfl⟩
              have HT := Hid.mk (And.intro (HR.out.1) (And.intro (HR.out.2.1) (And.intro (HR.out.2.2.1.after z) (HR.out.2.2.2.trans z.chg (T := Nil) (fun _ _ h => h.elim)))))
              clear HR hne x0 x1
              generalize z.world = wz at *
              clear z
              generalize hdd : decide (ix Y a < ix Y q) = bb
              have HD := Hid.mk hdd
              clear hdd
              cases bb with
              | true =>
                go_wp2_with fail
                have hlt := of_decide_eq_true HD.out
                refine ⟨⟨q - 1, by go_num, by omega, Hid.mk ⟨HT.out.1, HT.out.2.1.dn hij (by omega), HT.out.2.2.1, HT.out.2.2.2⟩⟩, by simp [intOf]; omega⟩
              | false =>
                go_wp2_with fail
                go_meet
                exact ⟨q, rfl, hord, HT, Hid.mk (fun _ => by have := of_decide_eq_false HD.out; omega)⟩
            · have k1 : decide ((i : Int) ≤ (q : Int)) = false := decide_eq_false (by omega)
              go_wp2_with fail
              have hne := After.some wr
              refine wp_region_after (by kernel_rfl) (by kernel_rfl) ?_
              repeat (go_big_quiet_step (fail))
              refine wpQuiet_nil ?_
              rintro _ ⟨z, rfl⟩
              have HT := Hid.mk (And.intro (HR.out.1) (And.intro (HR.out.2.1) (And.intro (HR.out.2.2.1.after z) (HR.out.2.2.2.trans z.chg (T := Nil) (fun _ _ h => h.elim)))))
              clear HR hne
              generalize z.world = wz at *
              clear z
              go_wp2_with fail
              go_meet
              exact ⟨q, rfl, hord, HT, Hid.mk (fun h => absurd h hij)⟩
        case rest =>
          clear HT
          obtain ⟨j, rfl, hj0, HU, HX2⟩ := hcut
          have hp1 := HU.out.2.1.lo
          have hp2 := HU.out.2.1.mid
          have hp3 := HU.out.2.1.hi
          by_cases hgt : j < i
          · have k2 : decide ((j : Int) < (i : Int)) = true := decide_eq_true (by omega)
            have HE := Hid.mk (And.intro HU.out.1 (And.intro (HU.out.2.1.done (by omega)) HU.out.2.2))
            clear HU
            go_wp2_with fail
            go_ret
            exact ⟨i, _, rfl, HE.out⟩
          · have k2 : decide ((j : Int) < (i : Int)) = false := decide_eq_false (by omega)
            have hne : ¬ (i = j) := fun h => by
              subst h
              have h1 := HX.out
              have h2 := HX2.out
              have := h1 (by omega)
              have := h2 (by omega)
              omega
            have hne2 : ¬ (j = i) := fun h => hne h.symm
            have y0 := HU.out.2.2.1.cell (i) (by omega)
            have y1 := HU.out.2.2.1.cell (j) (by omega)
            have f0 := HU.out.2.2.1.free
            have l0 := HU.out.2.2.1.lt
            go_wp2_with fail
            go_region
            have e1 := (HU.out.2.2.1.sw (i := i) (j := j) (by omega) (by omega))
            have e2 := chg_sw HU.out.2.2.2 rfl (i) (j) (.int .u64 (ix Y (j))) (.int .u64 (ix Y (i)))
            clear y0 y1 f0 l0
            have HE := Hid.mk (And.intro (HU.out.1.sw i j (by omega) (by omega) (by omega) (by omega)) (And.intro (HU.out.2.1.swap (by have := HU.out.1.len; omega) (by omega) (HX.out (by omega)) (HX2.out (by omega))) (And.intro e1 e2)))
            clear e1 e2 HU HX HX2
            go_wp2_with fail
            refine ⟨⟨i + 1, j - 1, by go_num, by go_num, Hid.mk ⟨_, HE.out⟩⟩, ?_⟩
            simp only [intOf]
            omega

end Go.Proofs.YtkemmffdiclloaaGreatDoor
