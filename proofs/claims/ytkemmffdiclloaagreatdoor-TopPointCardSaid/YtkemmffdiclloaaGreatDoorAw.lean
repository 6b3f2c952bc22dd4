/- Joined for this seat from: XEt. -/
import Derived.Test.YtkemmffdiclloaaGreatDoorAv
set_option linter.unusedVariables false
set_option linter.unusedSimpArgs false
namespace Go.Proofs.YtkemmffdiclloaaGreatDoor
open Go.RowKit
/-- A ring of points, whole in a block. -/
def Ring (w : World) (g : Nat) (L : List (Int × Int)) : Prop := g < w.heap.size ∧ ∀ j p, L[j]? = some p → w.cell? { block := g, off := j * 2 } = some (.int .i64 p.1) ∧ w.cell? { block := g, off := j * 2 + 1 } = some (.int .i64 p.2)
theorem Ring.keep {w w' : World} {g : Nat} {L : List (Int × Int)} {T : Nat → Prop} (h : Ring w g L) (hc : Chg T w w') (hd : ¬ T g) : Ring w' g L :=
  ⟨Nat.lt_of_lt_of_le h.1 hc.size, fun j p hp => ⟨hc.cell (h.2 j p hp).1 hd, hc.cell (h.2 j p hp).2 hd⟩⟩
def lowN (f : Int × Int → Int) (L : List (Int × Int)) (j : Nat) : Int := (L.take j).foldl (fun a p => min a (f p)) (f (L.getD 0 (0, 0)))
def highN (f : Int × Int → Int) (L : List (Int × Int)) (j : Nat) : Int := (L.take j).foldl (fun a p => max a (f p)) (f (L.getD 0 (0, 0)))
theorem lowN_next (f : Int × Int → Int) (L : List (Int × Int)) (j : Nat) (p : Int × Int) (h : L[j]? = some p) : lowN f L (j + 1) = min (lowN f L j) (f p) := by
  unfold lowN
  rw [List.take_add_one, h, List.foldl_append]
  rfl
theorem highN_next (f : Int × Int → Int) (L : List (Int × Int)) (j : Nat) (p : Int × Int) (h : L[j]? = some p) : highN f L (j + 1) = max (highN f L j) (f p) := by
  unfold highN
  rw [List.take_add_one, h, List.foldl_append]
  rfl
theorem lowN_all (f : Int × Int → Int) (L : List (Int × Int)) : lowN f L L.length = lowR f L := by unfold lowN lowR; rw [List.take_length]
theorem highN_all (f : Int × Int → Int) (L : List (Int × Int)) : highN f L L.length = highR f L := by unfold highN highR; rw [List.take_length]
def ax (i : Nat) (p : Int × Int) : Int := if i = 0 then p.1 else p.2
set_option maxHeartbeats 4000000 in
theorem beside_any (l h : Int × Int) (g : Nat) (L : List (Int × Int)) (hL : L.length = 6) (c : Nat) (w : World) (hr : Ring w g L) :
    Calls Tryz.prog 79 #[bxV l h, .slice (some { block := g, off := 0 }) 6 c] w fun e w' => e = .returned (.bool (besideP l h L)) ∧ Chg Nil w w' := by
  obtain ⟨p0, hp0⟩ : ∃ p, L[0]? = some p := ⟨_, List.getElem?_eq_getElem (by omega)⟩
  have hbs := Hid.mk (show besideP l h L = ((decide (highR (ax 0) L < l.1) || decide (h.1 < lowR (ax 0) L)) || (decide (highR (ax 1) L < l.2) || decide (h.2 < lowR (ax 1) L))) from rfl)
  generalize besideP l h L = BB at *
  unfold bxV boxV
  go_enter Tryz.func79, Tryz.ntmps79
  go_wp2_with fail
  have HB := Hid.mk (And.intro (Bk.new w 92 #[.int .i64 l.1, .int .i64 l.2, .int .i64 h.1, .int .i64 h.2]) (And.intro (hr.keep ((Chg.refl Nil w).alloc (.cells #[.int .i64 l.1, .int .i64 l.2, .int .i64 h.1, .int .i64 h.2] 92)) (fun h => h)) ((Chg.refl Nil w).alloc (.cells #[.int .i64 l.1, .int .i64 l.2, .int .i64 h.1, .int .i64 h.2] 92))))
  clear hr
  go_loopw [10] (fun v10 wr => ∃ i : Nat, i ≤ 2 ∧ v10 = .int .i64 (i : Int) ∧ Hid (∀ k, k < i → (decide (highR (ax k) L < ax k l) || decide (ax k h < lowR (ax k) L)) = false) ∧ Hid (Bk wr w.heap.size 92 #[.int .i64 l.1, .int .i64 l.2, .int .i64 h.1, .int .i64 h.2] ∧ Ring wr g L ∧ Chg Nil w wr)) (fun v10 _ => 2 - (intOf v10).toNat)
  case atStart => exact ⟨0, by omega, rfl, Hid.mk (fun i hi => absurd hi (by omega)), HB⟩
  case round =>
    obtain ⟨i, hi, rfl, HA, HR⟩ := hrel
    clear HB
    have h3 : i = 0 ∨ i = 1 ∨ i = 2 := by omega
    rcases h3 with rfl | rfl | rfl
    · have r0 := (HR.out.2.1.2 0 p0 hp0).1
      have rz := HR.out.2.1.1
      have hl0 : lowN (ax 0) L 0 = p0.1 := by unfold lowN; rw [List.getD_eq_getElem?_getD, hp0]; rfl
      have hh0 : highN (ax 0) L 0 = p0.1 := by unfold highN; rw [List.getD_eq_getElem?_getD, hp0]; rfl
      go_wp2_with fail
      go_region
      go_wp2_with fail
      have HB := Hid.mk (And.intro HR.out.1.drew (And.intro (HR.out.2.1.keep (Chg.refl Nil wr).drew (fun h => h)) HR.out.2.2.drew))
      clear HR r0 rz
      generalize wr.drew = wo at *
      go_loopw [6, 7, 25] (fun v6 v7 v25 wr => ∃ j : Nat, j ≤ 6 ∧ v25 = .int .i64 (j : Int) ∧ v6 = .int .i64 (lowN (ax 0) L j) ∧ v7 = .int .i64 (highN (ax 0) L j) ∧ Hid (Bk wr w.heap.size 92 #[.int .i64 l.1, .int .i64 l.2, .int .i64 h.1, .int .i64 h.2] ∧ Ring wr g L ∧ Chg Nil w wr)) (fun _ _ v25 _ => 6 - (intOf v25).toNat)
      case atStart => exact ⟨0, by omega, rfl, by rw [hl0], by rw [hh0], HB⟩
      case round =>
        obtain ⟨j, hj, rfl, rfl, rfl, HR⟩ := hrel
        clear HB
        by_cases hj6 : j < 6
        · obtain ⟨p, hp⟩ : ∃ p, L[j]? = some p := ⟨_, List.getElem?_eq_getElem (by omega)⟩
          have y0 := (HR.out.2.1.2 j p hp).1
          have y1 := (HR.out.2.1.2 j p hp).2
          have rz := HR.out.2.1.1
          have bz := HR.out.1.lt
          have hln := lowN_next (ax 0) L j p hp
          have hhn := highN_next (ax 0) L j p hp
          go_wp2_with fail
          go_region
          go_wp2_with fail
          refine ⟨⟨j + 1, by omega, by go_num, ?_, ?_, Hid.mk ⟨(HR.out.1.alloc _).drew, (HR.out.2.1.keep ((Chg.refl Nil wr).alloc _).drew (fun h => h)), (HR.out.2.2.alloc _).drew⟩⟩, by simp [intOf]; omega⟩
          · rw [hln]; congr 1; show _ = min _ p.1; split <;> omega
          · rw [hhn]; congr 1; show _ = max _ p.1; split <;> omega
        · obtain rfl : j = 6 := by omega
          have e1 : lowN (ax 0) L 6 = lowR (ax 0) L := by rw [← hL, lowN_all]
          have e2 : highN (ax 0) L 6 = highR (ax 0) L := by rw [← hL, highN_all]
          rw [e1, e2]
          have b0 := HR.out.1.cell 0 rfl
          have b2 := HR.out.1.cell 2 rfl
          have bz := HR.out.1.lt
          clear e1 e2 hl0 hh0
          generalize hA1 : lowR (ax 0) L = A1 at *
          generalize hA2 : highR (ax 0) L = A2 at *
          by_cases t1 : A2 < l.1
          · have k1 : decide (A2 < l.1) = true := decide_eq_true t1
            have hf : BB = true := by rw [hbs.out, k1]; simp
            subst hf
            have H2 := Hid.mk HR.out.2.2
            clear HR
            go_wp2_with fail
            go_ret
            exact ⟨rfl, H2.out⟩
          · have k1 : decide (A2 < l.1) = false := decide_eq_false t1
            by_cases t2 : h.1 < A1
            · have k2 : decide (h.1 < A1) = true := decide_eq_true t2
              have hf : BB = true := by rw [hbs.out, k2]; simp
              subst hf
              have H2 := Hid.mk HR.out.2.2
              clear HR
              go_wp2_with fail
              go_ret
              exact ⟨rfl, H2.out⟩
            · have k2 : decide (h.1 < A1) = false := decide_eq_false t2
              have HK : Hid ((decide (highR (ax 0) L < ax 0 l) || decide (ax 0 h < lowR (ax 0) L)) = false) := Hid.mk (by rw [hA1, hA2]; show (decide (A2 < l.1) || decide (h.1 < A1)) = false; rw [k1, k2]; rfl)
              clear hA1 hA2
              go_wp2_with fail
              refine ⟨⟨1, by omega, rfl, Hid.mk (fun k hk => ?_), HR⟩, by simp [intOf]⟩
              rcases Nat.lt_or_ge k 0 with h1 | h1
              · exact HA.out k h1
              · obtain rfl : k = 0 := by omega
                exact HK.out
    · have r0 := (HR.out.2.1.2 0 p0 hp0).2
      have rz := HR.out.2.1.1
      have hl0 : lowN (ax 1) L 0 = p0.2 := by unfold lowN; rw [List.getD_eq_getElem?_getD, hp0]; rfl
      have hh0 : highN (ax 1) L 0 = p0.2 := by unfold highN; rw [List.getD_eq_getElem?_getD, hp0]; rfl
      go_wp2_with fail
      go_region
      go_wp2_with fail
      have HB := Hid.mk (And.intro HR.out.1.drew (And.intro (HR.out.2.1.keep (Chg.refl Nil wr).drew (fun h => h)) HR.out.2.2.drew))
      clear HR r0 rz
      generalize wr.drew = wo at *
      go_loopw [6, 7, 25] (fun v6 v7 v25 wr => ∃ j : Nat, j ≤ 6 ∧ v25 = .int .i64 (j : Int) ∧ v6 = .int .i64 (lowN (ax 1) L j) ∧ v7 = .int .i64 (highN (ax 1) L j) ∧ Hid (Bk wr w.heap.size 92 #[.int .i64 l.1, .int .i64 l.2, .int .i64 h.1, .int .i64 h.2] ∧ Ring wr g L ∧ Chg Nil w wr)) (fun _ _ v25 _ => 6 - (intOf v25).toNat)
      case atStart => exact ⟨0, by omega, rfl, by rw [hl0], by rw [hh0], HB⟩
      case round =>
        obtain ⟨j, hj, rfl, rfl, rfl, HR⟩ := hrel
        clear HB
        by_cases hj6 : j < 6
        · obtain ⟨p, hp⟩ : ∃ p, L[j]? = some p := ⟨_, List.getElem?_eq_getElem (by omega)⟩
          have y0 := (HR.out.2.1.2 j p hp).1
          have y1 := (HR.out.2.1.2 j p hp).2
          have rz := HR.out.2.1.1
          have bz := HR.out.1.lt
          have hln := lowN_next (ax 1) L j p hp
          have hhn := highN_next (ax 1) L j p hp
          go_wp2_with fail
          go_region
          go_wp2_with fail
          refine ⟨⟨j + 1, by omega, by go_num, ?_, ?_, Hid.mk ⟨(HR.out.1.alloc _).drew, (HR.out.2.1.keep ((Chg.refl Nil wr).alloc _).drew (fun h => h)), (HR.out.2.2.alloc _).drew⟩⟩, by simp [intOf]; omega⟩
          · rw [hln]; congr 1; show _ = min _ p.2; split <;> omega
          · rw [hhn]; congr 1; show _ = max _ p.2; split <;> omega
        · obtain rfl : j = 6 := by omega
          have e1 : lowN (ax 1) L 6 = lowR (ax 1) L := by rw [← hL, lowN_all]
          have e2 : highN (ax 1) L 6 = highR (ax 1) L := by rw [← hL, highN_all]
          rw [e1, e2]
          have b0 := HR.out.1.cell 1 rfl
          have b2 := HR.out.1.cell 3 rfl
          have bz := HR.out.1.lt
          clear e1 e2 hl0 hh0
          generalize hA1 : lowR (ax 1) L = A1 at *
          generalize hA2 : highR (ax 1) L = A2 at *
          by_cases t1 : A2 < l.2
          · have k1 : decide (A2 < l.2) = true := decide_eq_true t1
            have hf : BB = true := by rw [hbs.out, k1]; simp
            subst hf
            have H2 := Hid.mk HR.out.2.2
            clear HR
            go_wp2_with fail
            go_ret
            exact ⟨rfl, H2.out⟩
          · have k1 : decide (A2 < l.2) = false := decide_eq_false t1
            by_cases t2 : h.2 < A1
            · have k2 : decide (h.2 < A1) = true := decide_eq_true t2
              have hf : BB = true := by rw [hbs.out, k2]; simp
              subst hf
              have H2 := Hid.mk HR.out.2.2
              clear HR
              go_wp2_with fail
              go_ret
              exact ⟨rfl, H2.out⟩
            · have k2 : decide (h.2 < A1) = false := decide_eq_false t2
              have HK : Hid ((decide (highR (ax 1) L < ax 1 l) || decide (ax 1 h < lowR (ax 1) L)) = false) := Hid.mk (by rw [hA1, hA2]; show (decide (A2 < l.2) || decide (h.2 < A1)) = false; rw [k1, k2]; rfl)
              clear hA1 hA2
              go_wp2_with fail
              refine ⟨⟨2, by omega, rfl, Hid.mk (fun k hk => ?_), HR⟩, by simp [intOf]⟩
              rcases Nat.lt_or_ge k 1 with h1 | h1
              · exact HA.out k h1
              · obtain rfl : k = 1 := by omega
                exact HK.out
    · have hf : BB = false := by
        rw [hbs.out]
        have h0 : (decide (highR (ax 0) L < l.1) || decide (h.1 < lowR (ax 0) L)) = false := HA.out 0 (by decide)
        have h1 : (decide (highR (ax 1) L < l.2) || decide (h.2 < lowR (ax 1) L)) = false := HA.out 1 (by decide)
        rw [h0, h1]
        rfl
      subst hf
      have H2 := Hid.mk HR.out.2.2
      clear HR
      go_wp2_with fail
      go_ret
      exact ⟨rfl, H2.out⟩

end Go.Proofs.YtkemmffdiclloaaGreatDoor
