/- Joined for this seat from: XSx XSy. -/
import Derived.Deep.CutBlock
import Derived.Deep.CutRange
import Derived.Test.YtkemmffdiclloaaGreatDoorBq
set_option linter.unusedVariables false
set_option linter.unusedSimpArgs false
namespace Go.Proofs.YtkemmffdiclloaaGreatDoor
open Go.RowKit
theorem equal_low {Y : List Int} {a b p : Nat} (h : Low Y a b) (ha : 0 < a) (hp : ¬ ix Y (a - 1) < ix Y p) : ∀ k, a ≤ k → k < b → ix Y p ≤ ix Y k := fun k h1 h2 => by
  have := h ha k h1 h2
  omega
set_option maxHeartbeats 16000000 in
set_option maxRecDepth 100000 in
theorem pdqsort_any (g n cap : Nat) (hnb : n ≤ 1000000) : ∀ (d a b lim : Nat) (X : List Int), b - a < d → a ≤ b → b ≤ n → X.length = n → lim ≤ 1000 → Low X a b → ∀ w : World, URow w g X →
    Calls Tryz.prog 83 #[.slice (some { block := g, off := 0 }) n cap, .int .i64 (a : Int), .int .i64 (b : Int), .int .i64 (lim : Int)] w fun e w' => e = .returned (.tuple #[]) ∧
      ∃ Y, Mix a b X Y ∧ Srt Y a b ∧ URow w' g Y ∧ Chg (fun k => k = g) w w' := by
  intro d
  induction d with
  | zero =>
    intro a b lim X hd hab hb hn hlim hlow w h
    omega
  | succ d ih =>
    intro a b lim X hd hab hb hn hlim hlow w h
    have H0 := Hid.mk h
    have HL := Hid.mk hlow
    have IH := Hid.mk ih
    clear h hlow ih
    go_enter Tryz.func83, Tryz.ntmps83
    go_wp2_with fail
    go_loopw [1, 2, 3, 8, 9] (fun v1 v2 v3 v8 v9 wr => ∃ a1 b1 lm : Nat, ∃ bal prt : Bool, a ≤ a1 ∧ a1 ≤ b1 ∧ b1 ≤ b ∧ lm ≤ 1000 ∧ v1 = .int .i64 (a1 : Int) ∧ v2 = .int .i64 (b1 : Int) ∧ v3 = .int .i64 (lm : Int) ∧ v8 = .bool bal ∧ v9 = .bool prt ∧ Hid (∃ Y, Quick X a b Y a1 b1 ∧ URow wr g Y ∧ Chg (fun k => k = g) w wr)) (fun v1 v2 _ _ _ _ => (intOf v2 - intOf v1).toNat)
    case atStart => exact ⟨a, b, lim, true, true, Nat.le_refl _, hab, Nat.le_refl _, hlim, rfl, rfl, rfl, rfl, rfl, Hid.mk ⟨X, .start HL.out hab (by omega), H0.out, Chg.refl _ _⟩⟩
    case round =>
      obtain ⟨a1, b1, lm, bal, prt, ha1, hab1, hb1, hlm, rfl, rfl, rfl, rfl, rfl, HR⟩ := hrel
      clear H0 HL
      obtain ⟨m, hm⟩ : ∃ m, b1 = a1 + m := ⟨b1 - a1, by omega⟩
      have km : (b1 : Int) - (a1 : Int) = (m : Int) := by omega
      have hm2 : a1 + m ≤ n := by omega
      have HM := Hid.mk hm
      clear hm
      obtain ⟨Y, HS⟩ : ∃ Y, Hid (Quick X a b Y a1 b1 ∧ URow wr g Y ∧ Chg (fun k => k = g) w wr) := by
        obtain ⟨Y, h⟩ := HR.out
        exact ⟨Y, Hid.mk h⟩
      clear HR
      have hl : Y.length = n := by rw [HS.out.1.mix.len.1, hn]
      have hb1n : b1 ≤ n := by omega
      by_cases h12 : m ≤ 12
      · have k1 : decide ((m : Int) ≤ 12) = true := decide_eq_true (by omega)
        have hi := insertion_any g n cap a1 b1 Y hl hnb hab1 hb1n _ HS.out.2.1
        go_wp2_with fail
        refine hi.mono ?_
        rintro e w1 ⟨rfl, Z, h1, h2, h3, h4⟩
        go_wp2_with fail
        refine bodyPost_ret (results_none rfl _ _ _) rfl ?_
        exact ⟨rfl, Z, (HS.out.1.mixed h1).mix, (HS.out.1.mixed h1).done h2, h3, HS.out.2.2.trans h4 (fun _ _ h => h)⟩
      · have k1 : decide ((m : Int) ≤ 12) = false := decide_eq_false (by omega)
        by_cases hl0 : lm = 0
        · have k2 : ((lm : Int) == (0 : Int)) = true := by rw [hl0]; rfl
          have hi := heapSort_any g n cap a1 b1 Y hl hnb (by have := HM.out; omega) hb1n _ HS.out.2.1
          go_wp2_with fail
          refine hi.mono ?_
          rintro e w1 ⟨rfl, Z, h1, h2, h3, h4⟩
          go_wp2_with fail
          refine bodyPost_ret (results_none rfl _ _ _) rfl ?_
          exact ⟨rfl, Z, (HS.out.1.mixed h1).mix, (HS.out.1.mixed h1).done h2, h3, HS.out.2.2.trans h4 (fun _ _ h => h)⟩
        · have k2 : ((lm : Int) == (0 : Int)) = false := by rw [beq_eq_false_iff_ne]; omega
          have hm12 : 12 < m := by omega
          have hab2 : a1 + 12 < b1 := by have := HM.out; omega
          obtain ⟨wo, hwo⟩ : ∃ wo, wo = wr := ⟨_, rfl⟩
          subst hwo
          go_upto_if 35 with fail
          go_cut [3] from 19 to 133 (fun v3 wx => ∃ lm : Nat, v3 = .int .i64 (lm : Int) ∧ lm ≤ 1000 ∧ Hid (∃ Y, Quick X a b Y a1 b1 ∧ URow wx g Y ∧ Chg (fun k => k = g) w wx))
          case first =>
            cases bal with
            | true =>
              go_wp2_with fail
              go_meet
              exact ⟨lm, rfl, hlm, Hid.mk ⟨Y, HS.out⟩⟩
            | false =>
              go_wp2_with fail
              refine (breakPatterns_any g n cap a1 b1 Y hl hnb (by omega) hb1n _ HS.out.2.1).mono ?_
              rintro e w1 ⟨rfl, Z, h1, h3, h4⟩
              have HT := Hid.mk (And.intro (HS.out.1.mixed h1) (And.intro h3 (HS.out.2.2.trans h4 (fun _ _ h => h))))
              clear h1 h3 h4 HS
              go_wp2_with fail
              go_meet
              exact ⟨lm - 1, by go_num, by omega, Hid.mk ⟨Z, HT.out⟩⟩
          case rest =>
            clear HS hlm hl0 k2 hl
            obtain ⟨lm2, rfl, hlm, HR⟩ := hcut
            obtain ⟨wo2, hwo⟩ : ∃ wo, wo = wc := ⟨_, rfl⟩
            subst hwo
            obtain ⟨Y, HS⟩ : ∃ Y, Hid (Quick X a b Y a1 b1 ∧ URow wo2 g Y ∧ Chg (fun k => k = g) w wo2) := by
              obtain ⟨Y, h⟩ := HR.out
              exact ⟨Y, Hid.mk h⟩
            clear HR
            have hl : Y.length = n := by rw [HS.out.1.mix.len.1, hn]
            go_wp2_with fail
            refine (choosePivot_any g n cap a1 b1 Y hl hnb (by omega) hb1n _ HS.out.2.1).mono ?_
            rintro e w1 ⟨p, hint, rfl, hp, hh, h4⟩
            have HT := Hid.mk (And.intro HS.out.1 (And.intro (HS.out.2.1.keep h4 (fun h => h)) (HS.out.2.2.trans (T := Nil) h4 (fun _ _ h => h.elim))))
            clear h4 HS
            go_upto_if 50 with fail
            go_cut [11, 12] from 19 to 133 (fun v11 v12 wx => ∃ p : Nat, ∃ hint : Int, v11 = .int .i64 (p : Int) ∧ v12 = .int .i64 hint ∧ (a1 ≤ p ∧ p < b1) ∧ Hid (∃ Y, Quick X a b Y a1 b1 ∧ URow wx g Y ∧ Chg (fun k => k = g) w wx))
            case first =>
              by_cases h2 : hint = 2
              · have t2 : (hint == (2 : Int)) = true := by rw [h2]; rfl
                go_wp2_with fail
                refine (reverseRange_any g n cap a1 b1 Y hl hnb (by omega) hb1n _ HT.out.2.1).mono ?_
                rintro e w2 ⟨rfl, Z, h1, h3, h4⟩
                have HU := Hid.mk (And.intro (HT.out.1.mixed h1) (And.intro h3 (HT.out.2.2.trans h4 (fun _ _ h => h))))
                clear h1 h3 h4 HT
                go_wp2_with fail
                go_meet
                exact ⟨b1 - 1 - (p - a1), 1, by go_num, rfl, by omega, Hid.mk ⟨Z, HU.out⟩⟩
              · have t2 : (hint == (2 : Int)) = false := beq_eq_false_iff_ne.2 h2
                go_wp2_with fail
                go_meet
                exact ⟨p, hint, rfl, rfl, hp, Hid.mk ⟨Y, HT.out⟩⟩
            case rest =>
              clear HT hl hp hh
              obtain ⟨p, hint, rfl, rfl, hp, HR⟩ := hcut
              obtain ⟨wo3, hwo⟩ : ∃ wo, wo = wc := ⟨_, rfl⟩
              subst hwo
              obtain ⟨Y, HS⟩ : ∃ Y, Hid (Quick X a b Y a1 b1 ∧ URow wo3 g Y ∧ Chg (fun k => k = g) w wo3) := by
                obtain ⟨Y, h⟩ := HR.out
                exact ⟨Y, Hid.mk h⟩
              clear HR
              have hl : Y.length = n := by rw [HS.out.1.mix.len.1, hn]
              go_upto_region 15 with fail
              go_cut [68] from 19 to 133 (fun v wx => ∃ bb : Bool, v = .bool bb ∧ wx = wo3)
              case first =>
                by_cases h1 : hint = 1
                · have t1 : (hint == (1 : Int)) = true := by rw [h1]; rfl
                  cases bal <;> cases prt <;> (go_wp2_with fail; go_meet; exact ⟨_, rfl, rfl⟩)
                · have t1 : (hint == (1 : Int)) = false := beq_eq_false_iff_ne.2 h1
                  cases bal <;> cases prt <;> (go_wp2_with fail; go_meet; exact ⟨_, rfl, rfl⟩)
              case rest =>
                obtain ⟨bb, rfl, rfl⟩ := hcut
                go_upto_if 68 with fail
                go_cut [] from 19 to 133 (fun wx => Hid (∃ Y, Quick X a b Y a1 b1 ∧ URow wx g Y ∧ Chg (fun k => k = g) w wx))
                case first =>
                  cases bb with
                  | false =>
                    go_wp2_with fail
                    go_meet
                    exact Hid.mk ⟨Y, HS.out⟩
                  | true =>
                    go_wp2_with fail
                    refine (partialInsertion_any g n cap a1 b1 Y hl hnb (by omega) hb1n HS.out.1.low _ HS.out.2.1).mono ?_
                    rintro e w4 ⟨ok, Z, rfl, h1, h2, h3, h4⟩
                    have HT := Hid.mk (And.intro (HS.out.1.mixed h1) (And.intro h2 (And.intro h3 (HS.out.2.2.trans h4 (fun _ _ h => h)))))
                    clear h1 h2 h3 h4 HS
                    cases ok with
                    | true =>
                      go_wp2_with fail
                      refine bodyPost_ret (results_none rfl _ _ _) rfl ?_
                      exact ⟨rfl, Z, HT.out.1.mix, HT.out.1.done (HT.out.2.1 (by simp)), HT.out.2.2⟩
                    | false =>
                      go_wp2_with fail
                      go_meet
                      exact Hid.mk ⟨Z, HT.out.1, HT.out.2.2⟩
                case rest =>
                  clear HS hl
                  obtain ⟨wo4, hwo⟩ : ∃ wo, wo = wc := ⟨_, rfl⟩
                  subst hwo
                  obtain ⟨Y, HS⟩ : ∃ Y, Hid (Quick X a b Y a1 b1 ∧ URow wo4 g Y ∧ Chg (fun k => k = g) w wo4) := by
                    obtain ⟨Y, h⟩ := hcut.out
                    exact ⟨Y, Hid.mk h⟩
                  clear hcut
                  have hl : Y.length = n := by rw [HS.out.1.mix.len.1, hn]
                  go_upto_region 17 with fail
                  go_cut [87] from 19 to 133 (fun v wx => ∃ bb : Bool, v = .bool bb ∧ Hid (bb = true → 0 < a1 ∧ ∀ k, a1 ≤ k → k < b1 → ix Y p ≤ ix Y k) ∧ Hid (Quick X a b Y a1 b1 ∧ URow wx g Y ∧ Chg (fun k => k = g) w wx))
                  case first =>
                    by_cases hpos : 0 < a1
                    · have k3 : decide (0 < (a1 : Int)) = true := decide_eq_true (by omega)
                      have x0 : ∀ z : After wo4, z.world.cell? ⟨g, a1 - 1, none⟩ = some (.int .u64 (ix Y (a1 - 1))) := fun z => (HS.out.2.1.after z).cell (a1 - 1) (by omega)
                      have x1 : ∀ z : After wo4, z.world.cell? ⟨g, p, none⟩ = some (.int .u64 (ix Y (p))) := fun z => (HS.out.2.1.after z).cell (p) (by omega)
                      go_wp2_with fail
                      have hne := After.some wo4
                      refine wp_region_after (by kernel_rfl) (by kernel_rfl) ?_
                      repeat (go_big_quiet_step (exact After.callE (lessE _ _) _))
                      refine wpQuiet_nil ?_
                      rintro _ ⟨z, rfl⟩
                      have HT := Hid.mk (And.intro (HS.out.1) (And.intro (HS.out.2.1.after z) (HS.out.2.2.trans z.chg (T := Nil) (fun _ _ h => h.elim))))
                      clear HS hne x0 x1
                      generalize z.world = wz at *
                      clear z
                      generalize hdd : decide (ix Y (a1 - 1) < ix Y p) = bb
                      have HD := Hid.mk hdd
                      clear hdd
                      go_wp2_with fail
                      go_meet
                      refine ⟨!bb, rfl, Hid.mk (fun h => ⟨hpos, equal_low HT.out.1.low hpos ?_⟩), HT⟩
                      have := HD.out
                      cases bb with
                      | true => cases h
                      | false => exact of_decide_eq_false this
                    · have k3 : decide (0 < (a1 : Int)) = false := decide_eq_false (by omega)
                      go_wp2_with fail
                      have hne := After.some wo4
                      refine wp_region_after (by kernel_rfl) (by kernel_rfl) ?_
                      repeat (go_big_quiet_step (fail))
                      refine wpQuiet_nil ?_
                      rintro _ ⟨z, rfl⟩
                      have HT := Hid.mk (And.intro (HS.out.1) (And.intro (HS.out.2.1.after z) (HS.out.2.2.trans z.chg (T := Nil) (fun _ _ h => h.elim))))
                      clear HS hne
                      generalize z.world = wz at *
                      clear z
                      go_wp2_with fail
                      go_meet
                      exact ⟨false, rfl, Hid.mk (fun h => by cases h), HT⟩
                  case rest =>
                    clear HS
                    obtain ⟨bb, rfl, HX, HT⟩ := hcut
                    cases bb with
                    | true =>
                      go_wp2_with fail
                      refine (partitionEqual_any g n cap a1 b1 p Y hl hnb hp.1 hp.2 hb1n _ HT.out.2.1).mono ?_
                      rintro e w5 ⟨mid, Z, rfl, h1, h2, h3, h4⟩
                      have hq := (HT.out.1.mixed h1).equal (fun k k1 k2 => by rw [h2.1]; exact h1.all (p := fun x => ix Y p ≤ x) (HX.out (by simp)).2 k k1 k2) h2.2.1 h2.2.2.1 h2.2.2.2.1 h2.2.2.2.2
                      have hmid := h2.2.1
                      have hmid2 := h2.2.2.1
                      have HU := Hid.mk (And.intro hq (And.intro h3 (HT.out.2.2.trans h4 (fun _ _ h => h))))
                      clear hq h1 h2 h3 h4 HT HX
                      go_wp2_with fail
                      refine ⟨⟨mid, b1, lm2, bal, prt, by omega, by omega, hb1, hlm, rfl, rfl, rfl, rfl, rfl, Hid.mk ⟨Z, HU.out⟩⟩, ?_⟩
                      simp only [intOf]
                      omega
                    | false =>
                      clear HX
                      go_wp2_with fail
                      refine (partition_any g n cap a1 b1 p Y hl hnb hp.1 hp.2 hb1n _ HT.out.2.1).mono ?_
                      rintro e w5 ⟨mid, ok, Z, rfl, h1, h2, h3, h4⟩
                      have hmid := h2.1
                      have hmid2 := h2.2.1
                      have HU := Hid.mk (And.intro (HT.out.1.mixed h1) (And.intro h2 (And.intro h3 (HT.out.2.2.trans h4 (fun _ _ h => h)))))
                      clear h1 h2 h3 h4 HT
                      have hlz : Z.length = n := by rw [HU.out.1.mix.len.1, hn]
                      obtain ⟨q8, hq8⟩ : ∃ q8 : Nat, m / 8 = q8 := ⟨_, rfl⟩
                      have kq8 : Int.tdiv (m : Int) 8 = (q8 : Int) := by rw [Int.tdiv_eq_ediv_of_nonneg (by omega)]; omega
                      clear hq8
                      by_cases hlr : (mid : Int) - (a1 : Int) < (b1 : Int) - (mid : Int)
                      · have k4 : decide ((mid : Int) - (a1 : Int) < (b1 : Int) - (mid : Int)) = true := decide_eq_true hlr
                        go_wp2_with fail
                        refine (IH.out a1 mid lm2 Z (by omega) hmid (by omega) hlz hlm (HU.out.1.low.less (by omega)) _ HU.out.2.2.1).mono ?_
                        rintro e w6 ⟨rfl, V, h1, h2, h3, h4⟩
                        have hq := HU.out.1.partLeft hmid hmid2 HU.out.2.1.2.2.1 HU.out.2.1.2.2.2 h1 h2
                        have HV := Hid.mk (And.intro hq (And.intro h3 (HU.out.2.2.2.trans h4 (fun _ _ h => h))))
                        clear hq h1 h2 h3 h4 HU
                        go_wp2_with fail
                        refine ⟨⟨mid + 1, b1, lm2, _, ok, by omega, by omega, hb1, hlm, by go_num, rfl, rfl, rfl, rfl, Hid.mk ⟨V, HV.out⟩⟩, ?_⟩
                        simp only [intOf]
                        omega
                      · have k4 : decide ((mid : Int) - (a1 : Int) < (b1 : Int) - (mid : Int)) = false := decide_eq_false hlr
                        go_wp2_with fail
                        refine (IH.out (mid + 1) b1 lm2 Z (by omega) (by omega) hb1n hlz hlm (low_right HU.out.2.1.2.2.2) _ HU.out.2.2.1).mono ?_
                        rintro e w6 ⟨rfl, V, h1, h2, h3, h4⟩
                        have hq := HU.out.1.partRight hmid hmid2 HU.out.2.1.2.2.1 HU.out.2.1.2.2.2 h1 h2
                        have HV := Hid.mk (And.intro hq (And.intro h3 (HU.out.2.2.2.trans h4 (fun _ _ h => h))))
                        clear hq h1 h2 h3 h4 HU
                        go_wp2_with fail
                        refine ⟨⟨a1, mid, lm2, _, ok, ha1, hmid, by omega, hlm, rfl, rfl, rfl, rfl, rfl, Hid.mk ⟨V, HV.out⟩⟩, ?_⟩
                        simp only [intOf]
                        omega

end Go.Proofs.YtkemmffdiclloaaGreatDoor
namespace Go.Proofs.YtkemmffdiclloaaGreatDoor
open Go.RowKit
theorem sort_any (g n cap : Nat) (X : List Int) (hn : X.length = n) (hnb : n ≤ 1000000) (w : World) (h : URow w g X) :
    Calls Tryz.prog 45 #[.slice (some { block := g, off := 0 }) n cap] w fun e w' => e = .returned (.tuple #[]) ∧
      ∃ Y, Y.Perm X ∧ Srt Y 0 n ∧ URow w' g Y ∧ Chg (fun k => k = g) w w' := by
  have HS := Hid.mk h
  clear h
  have hk : Go.Sort.bitsLen n ≤ 62 := (Go.Sort.bitsLen_le_iff n 62).2 (by omega)
  have hL := fun W => bits_Len_nat n (by omega) W
  generalize Go.Sort.bitsLen n = L at *
  go_enter Tryz.func45, Tryz.ntmps45
  go_wp2_with fail
  refine (hL _).mono ?_
  rintro e w1 ⟨rfl, rfl⟩
  clear hL
  go_wp2_with fail
  refine (pdqsort_any g n cap hnb (n + 1) 0 n L X (by omega) (by omega) (Nat.le_refl _) hn (by omega) (fun h => absurd h (by omega)) _ HS.out).mono ?_
  rintro e w2 ⟨rfl, Y, h1, h2, h3, h4⟩
  go_wp2_with fail
  refine bodyPost_end (results_none rfl _ _ _) rfl ?_
  exact ⟨rfl, Y, h1.perm, h2, h3, h4⟩

end Go.Proofs.YtkemmffdiclloaaGreatDoor
