/- Joined for this seat from: XSo XSp XSq XSr. -/
import Derived.Test.YtkemmffdiclloaaGreatDoorBm
set_option linter.unusedVariables false
set_option linter.unusedSimpArgs false
namespace Go.Proofs.YtkemmffdiclloaaGreatDoor
open Go.RowKit
/-- A row of numbers at the head of a block. -/
structure URow (w : World) (g : Nat) (X : List Int) : Prop where
  lt : g < w.heap.size
  cell : ∀ j, j < X.length → w.cell? { block := g, off := j } = some (.int .u64 (ix X j))
  free : ∀ j, w.frozen? { block := g, off := j } = false
theorem URow.keep {S : Nat → Prop} {w w' : World} {g : Nat} {X : List Int} (h : URow w g X) (hc : Chg S w w') (hn : ¬ S g) : URow w' g X := by
  have hb : w'.heap[g]? = w.heap[g]? := hc.old g h.lt hn
  refine ⟨Nat.lt_of_lt_of_le h.lt hc.size, fun j hj => ?_, fun j => ?_⟩
  · rw [World.cell?_of_block (a := { block := g, off := j }) hb]; exact h.cell j hj
  · have := h.free j
    unfold World.frozen? at this ⊢
    simp only [hb]
    exact this
theorem URow.drew {w : World} {g : Nat} {X : List Int} (h : URow w g X) : URow w.drew g X := ⟨h.lt, h.cell, h.free⟩
theorem URow.after {w : World} {g : Nat} {X : List Int} (h : URow w g X) (x : After w) : URow x.world g X := h.keep x.chg (fun h => h)
theorem URow.set {w : World} {g : Nat} {X : List Int} (h : URow w g X) {i : Nat} (hi : i < X.length) (v : Int) : URow (w.setCell { block := g, off := i } (.int .u64 v)) g (X.set i v) := by
  refine ⟨by simpa [World.setCell] using h.lt, fun j hj => ?_, fun j => by rw [World.frozen?_setCell]; exact h.free j⟩
  rw [List.length_set] at hj
  by_cases e : i = j
  · subst e
    rw [World.cell?_setCell_same _ _ _ (h.cell i hj)]
    simp [ix, hi]
  · rw [World.cell?_setCell_other _ _ _ _ (fun k => e (by injection k))]
    rw [h.cell j hj]
    simp [ix, List.getElem?_set, e]
theorem URow.sw {w : World} {g : Nat} {X : List Int} (h : URow w g X) {i j : Nat} (hi : i < X.length) (hj : j < X.length) :
    URow ((w.setCell { block := g, off := i } (.int .u64 (ix X j))).setCell { block := g, off := j } (.int .u64 (ix X i))).drew g (Go.Proofs.YtkemmffdiclloaaGreatDoor.sw X i j) :=
  ((h.set hi (ix X j)).set (by rw [List.length_set]; exact hj) (ix X i)).drew
theorem chg_sw {S : Nat → Prop} {w0 w : World} {g : Nat} (h : Chg S w0 w) (hs : S g) (i j : Nat) (u v : Value) : Chg S w0 ((w.setCell { block := g, off := i } u).setCell { block := g, off := j } v).drew :=
  ((h.setCell (p := { block := g, off := i }) (fun _ => hs) u).setCell (p := { block := g, off := j }) (fun _ => hs) v).drew
theorem isNaN_any (x : Int) (w : World) : Calls Tryz.prog 215 #[.int .u64 x] w fun e w' => e = .returned (.bool false) ∧ w' = w := by
  have k : (x != x) = false := by simp
  go_enter Tryz.func215, Tryz.ntmps215
  go_wp2_with fail
  go_ret
  exact ⟨rfl, rfl⟩
theorem less_any (x y : Int) (w : World) : Calls Tryz.prog 140 #[.int .u64 x, .int .u64 y] w fun e w' => e = .returned (.bool (decide (x < y))) ∧ w' = w := by
  go_enter Tryz.func140, Tryz.ntmps140
  go_wp2_with fail
  refine (isNaN_any x _).mono ?_
  rintro e w1 ⟨rfl, rfl⟩
  go_wp2_with fail
  go_ret
  exact ⟨rfl, rfl⟩
theorem lessE (x y : Int) (W : World) : Calls Tryz.prog 140 #[.int .u64 x, .int .u64 y] W fun e w' => e = .returned (.bool (decide (x < y))) ∧ Chg Nil W w' :=
  (less_any x y W).mono fun e w' ⟨h1, h2⟩ => ⟨h1, by rw [h2]; exact Chg.refl _ _⟩

end Go.Proofs.YtkemmffdiclloaaGreatDoor
namespace Go.Proofs.YtkemmffdiclloaaGreatDoor
open Go.RowKit
set_option maxHeartbeats 4000000 in
set_option maxRecDepth 100000 in
theorem insertion_any (g n cap a b : Nat) (X : List Int) (hn : X.length = n) (hnb : n ≤ 1000000) (hab : a ≤ b) (hb : b ≤ n) (w : World) (h : URow w g X) :
    Calls Tryz.prog 134 #[.slice (some { block := g, off := 0 }) n cap, .int .i64 (a : Int), .int .i64 (b : Int)] w fun e w' => e = .returned (.tuple #[]) ∧
      ∃ Y, Mix a b X Y ∧ Srt Y a b ∧ URow w' g Y ∧ Chg (fun k => k = g) w w' := by
  have H0 := Hid.mk h
  clear h
  go_enter Tryz.func134, Tryz.ntmps134
  go_wp2_with fail
  go_loopw [6] (fun v6 wr => ∃ i : Nat, a + 1 ≤ i ∧ (i ≤ b ∨ i = a + 1) ∧ v6 = .int .i64 (i : Int) ∧ Hid (∃ Y, Mix a b X Y ∧ Srt Y a i ∧ URow wr g Y ∧ Chg (fun k => k = g) w wr)) (fun v6 _ => b + 1 - (intOf v6).toNat)
  case atStart => exact ⟨a + 1, by omega, .inr rfl, by go_num, Hid.mk ⟨X, .refl (by omega), srt_one _ _ _ (by omega), H0.out, Chg.refl _ _⟩⟩
  case round =>
    obtain ⟨i, hi1, hi2, rfl, HR⟩ := hrel
    clear H0
    by_cases hib : i < b
    · have k1 : decide ((i : Int) < (b : Int)) = true := decide_eq_true (by omega)
      obtain ⟨wo, hwo⟩ : ∃ wo, wo = wr := ⟨_, rfl⟩
      subst hwo
      go_wp2_with fail
      go_loopw [7] (fun v7 wr => ∃ j : Nat, a ≤ j ∧ j ≤ i ∧ v7 = .int .i64 (j : Int) ∧ Hid (∃ Y, Mix a b X Y ∧ Ins Y a i j ∧ URow wr g Y ∧ Chg (fun k => k = g) w wr)) (fun v7 _ => (intOf v7).toNat)
      case atStart =>
        refine ⟨i, by omega, Nat.le_refl _, rfl, Hid.mk ?_⟩
        obtain ⟨Y, h1, h2, h3, h4⟩ := HR.out
        exact ⟨Y, h1, .start h2 (by omega), h3, h4⟩
      case round =>
        obtain ⟨j, hj1, hj2, rfl, HI⟩ := hrel
        clear HR
        obtain ⟨Y, m1, m2, m3, m4⟩ := HI.out
        have hl : Y.length = n := by rw [m1.len.1, hn]
        by_cases haj : a < j
        · have k2 : decide ((a : Int) < (j : Int)) = true := decide_eq_true (by omega)
          have x0 : ∀ z : After wr, z.world.cell? ⟨g, j, none⟩ = some (.int .u64 (ix Y j)) := fun z => (m3.after z).cell j (by omega)
          have x1 : ∀ z : After wr, z.world.cell? ⟨g, j - 1, none⟩ = some (.int .u64 (ix Y (j - 1))) := fun z => (m3.after z).cell (j - 1) (by omega)
          have H2 := Hid.mk (And.intro m1 (And.intro m2 (And.intro m3 m4)))
          clear m1 m2 m3 m4 HI
          go_wp2_with fail
          have hne := After.some wr
          refine wp_region_after (by kernel_rfl) (by kernel_rfl) ?_
          repeat (go_big_quiet_step (exact After.callE (lessE _ _) _))
          refine wpQuiet_nil ?_
          rintro _ ⟨z, rfl⟩
          have m3 := H2.out.2.2.1.after z
          have m4 := H2.out.2.2.2.trans z.chg (T := Nil) (fun _ _ h => h.elim)
          have y0 := m3.cell j (by omega)
          have y1 := m3.cell (j - 1) (by omega)
          have f0 := m3.free
          have l0 := m3.lt
          have H3 := Hid.mk (And.intro H2.out.1 (And.intro H2.out.2.1 (And.intro m3 m4)))
          clear m3 m4 H2 x0 x1 hne
          generalize z.world = wz at *
          clear z
          by_cases hlt : ix Y j < ix Y (j - 1)
          · have k3 : decide (ix Y j < ix Y (j - 1)) = true := decide_eq_true hlt
            go_wp2_with fail
            go_region
            go_wp2_with fail
            have e1 := (H3.out.2.2.1.sw (i := j) (j := j - 1) (by omega) (by omega))
            have e2 := chg_sw H3.out.2.2.2 rfl j (j - 1) (.int .u64 (ix Y (j - 1))) (.int .u64 (ix Y j))
            refine ⟨⟨j - 1, by omega, by omega, by go_num, Hid.mk ⟨_, H3.out.1.sw j (j - 1) (by omega) (by omega) (by omega) (by omega), H3.out.2.1.step (by omega) haj hlt, e1, e2⟩⟩, by simp [intOf]; omega⟩
          · have k3 : decide (ix Y j < ix Y (j - 1)) = false := decide_eq_false hlt
            go_wp2_with fail
            refine ⟨⟨i + 1, by omega, .inl (by omega), by go_num, Hid.mk ⟨Y, H3.out.1, H3.out.2.1.done (.inr (by omega)), H3.out.2.2.1, H3.out.2.2.2⟩⟩, by simp [intOf]; omega⟩
        · have k2 : decide ((a : Int) < (j : Int)) = false := decide_eq_false (by omega)
          have H2 := Hid.mk (And.intro m1 (And.intro m2 (And.intro m3 m4)))
          clear m1 m2 m3 m4 HI
          go_wp2_with fail
          have hne := After.some wr
          refine wp_region_after (by kernel_rfl) (by kernel_rfl) ?_
          repeat (go_big_quiet_step (fail))
          refine wpQuiet_nil ?_
          rintro _ ⟨z, rfl⟩
          have m3 := H2.out.2.2.1.after z
          have m4 := H2.out.2.2.2.trans z.chg (T := Nil) (fun _ _ h => h.elim)
          have H3 := Hid.mk (And.intro H2.out.1 (And.intro H2.out.2.1 (And.intro m3 m4)))
          clear m3 m4 H2 hne
          go_wp2_with fail
          refine ⟨⟨i + 1, by omega, .inl (by omega), by go_num, Hid.mk ⟨Y, H3.out.1, H3.out.2.1.done (.inl (by omega)), H3.out.2.2.1, H3.out.2.2.2⟩⟩, by simp [intOf]; omega⟩
    · have k1 : decide ((i : Int) < (b : Int)) = false := decide_eq_false (by omega)
      obtain ⟨Y, m1, m2, m3, m4⟩ := HR.out
      have H2 := Hid.mk (And.intro m1 (And.intro m2 (And.intro m3 m4)))
      clear m1 m2 m3 m4 HR
      go_wp2_with fail
      refine bodyPost_end (results_none rfl _ _ _) rfl ?_
      exact ⟨rfl, Y, H2.out.1, H2.out.2.1.less (Nat.le_refl _) (by omega), H2.out.2.2.1, H2.out.2.2.2⟩

end Go.Proofs.YtkemmffdiclloaaGreatDoor
namespace Go.Proofs.YtkemmffdiclloaaGreatDoor
open Go.RowKit
set_option maxHeartbeats 4000000 in
set_option maxRecDepth 100000 in
theorem siftDown_any (g n cap lo hi f : Nat) (X : List Int) (hn : X.length = n) (hnb : n ≤ 1000000) (hlo : lo ≤ 1000000) (hb : f + hi ≤ n) (w : World) (h : URow w g X) (hs : Heap X f (lo + 1) hi) :
    Calls Tryz.prog 210 #[.slice (some { block := g, off := 0 }) n cap, .int .i64 (lo : Int), .int .i64 (hi : Int), .int .i64 (f : Int)] w fun e w' => e = .returned (.tuple #[]) ∧
      ∃ Y, Mix (f + lo) (f + hi) X Y ∧ Heap Y f lo hi ∧ URow w' g Y ∧ Chg (fun k => k = g) w w' := by
  have H0 := Hid.mk (And.intro h hs)
  clear h hs
  go_enter Tryz.func210, Tryz.ntmps210
  go_wp2_with fail
  go_loopw [8] (fun v8 wr => ∃ r : Nat, lo ≤ r ∧ r ≤ 1000000 ∧ v8 = .int .i64 (r : Int) ∧ Hid (∃ Y, Mix (f + lo) (f + hi) X Y ∧ Sift Y f lo hi r ∧ URow wr g Y ∧ Chg (fun k => k = g) w wr)) (fun v8 _ => 1000000 - (intOf v8).toNat)
  case atStart => exact ⟨lo, Nat.le_refl _, hlo, rfl, Hid.mk ⟨X, .refl (by omega), .start H0.out.2, H0.out.1, Chg.refl _ _⟩⟩
  case round =>
    obtain ⟨r, hr1, hr2, rfl, HR⟩ := hrel
    clear H0
    obtain ⟨Y, HS⟩ : ∃ Y, Hid (Mix (f + lo) (f + hi) X Y ∧ Sift Y f lo hi r ∧ URow wr g Y ∧ Chg (fun k => k = g) w wr) := by
      obtain ⟨Y, h⟩ := HR.out
      exact ⟨Y, Hid.mk h⟩
    clear HR
    have hl : Y.length = n := by rw [HS.out.1.len.1, hn]
    by_cases hc : hi ≤ 2 * r + 1
    · have k1 : decide ((hi : Int) ≤ 2 * (r : Int) + 1) = true := decide_eq_true (by omega)
      go_wp2_with fail
      refine bodyPost_end (results_none rfl _ _ _) rfl ?_
      exact ⟨rfl, Y, HS.out.1, HS.out.2.1.leaf (by omega), HS.out.2.2.1, HS.out.2.2.2⟩
    · have k1 : decide ((hi : Int) ≤ 2 * (r : Int) + 1) = false := decide_eq_false (by omega)
      by_cases hd : 2 * r + 2 < hi
      · have k2 : decide (2 * (r : Int) + 1 + 1 < (hi : Int)) = true := decide_eq_true (by omega)
        have x0 : ∀ z : After wr, z.world.cell? ⟨g, f + (2 * r + 1), none⟩ = some (.int .u64 (ix Y (f + (2 * r + 1)))) := fun z => (HS.out.2.2.1.after z).cell (f + (2 * r + 1)) (by omega)
        have x1 : ∀ z : After wr, z.world.cell? ⟨g, f + (2 * r + 1) + 1, none⟩ = some (.int .u64 (ix Y (f + (2 * r + 1) + 1))) := fun z => (HS.out.2.2.1.after z).cell (f + (2 * r + 1) + 1) (by omega)
        go_wp2_with fail
        have hne := After.some wr
        refine wp_region_after (by kernel_rfl) (by kernel_rfl) ?_
        repeat (go_big_quiet_step (exact After.callE (lessE _ _) _))
        refine wpQuiet_nil ?_
        rintro _ ⟨z, rfl⟩
        have HT := Hid.mk (And.intro (HS.out.1) (And.intro (HS.out.2.1) (And.intro (HS.out.2.2.1.after z) (HS.out.2.2.2.trans z.chg (T := Nil) (fun _ _ h => h.elim)))))
        clear HS hne x0 x1
        generalize z.world = wz at *
        clear z
        generalize hdd : decide (ix Y (f + (2 * r + 1)) < ix Y (f + (2 * r + 1) + 1)) = bb
        have HX := Hid.mk hdd
        clear hdd
        cases bb with
        | true =>
          have hx2 : ix Y (f + (2 * r + 1)) < ix Y (f + (2 * r + 2)) := of_decide_eq_true HX.out
          clear HX
          go_wp2_with fail
          have hch : 2 * r + 1 + 1 < hi := by omega
          have hbd : ∀ d, (d = 2 * r + 1 ∨ d = 2 * r + 2) → d < hi → ix Y (f + d) ≤ ix Y (f + (2 * r + 1 + 1)) := by
            intro d hd1 hd2
            rcases hd1 with rfl | rfl
            · exact Int.le_of_lt hx2
            · exact Int.le_refl _
          have HB := Hid.mk hbd
          clear hbd
          have x0 : ∀ z : After wz, z.world.cell? ⟨g, f + r, none⟩ = some (.int .u64 (ix Y (f + r))) := fun z => (HT.out.2.2.1.after z).cell (f + r) (by omega)
          have x1 : ∀ z : After wz, z.world.cell? ⟨g, f + (2 * r + 1 + 1), none⟩ = some (.int .u64 (ix Y (f + (2 * r + 1 + 1)))) := fun z => (HT.out.2.2.1.after z).cell (f + (2 * r + 1 + 1)) (by omega)
          go_wp2_with fail
          have hne := After.some wz
          refine wp_region_after (by kernel_rfl) (by kernel_rfl) ?_
          repeat (go_big_quiet_step (exact After.callE (lessE _ _) _))
          refine wpQuiet_nil ?_
          rintro _ ⟨z, rfl⟩
          have HU := Hid.mk (And.intro (HT.out.1) (And.intro (HT.out.2.1) (And.intro (HT.out.2.2.1.after z) (HT.out.2.2.2.trans z.chg (T := Nil) (fun _ _ h => h.elim)))))
          clear HT hne x0 x1
          generalize z.world = wy at *
          clear z
          generalize hdd : decide (ix Y (f + r) < ix Y (f + (2 * r + 1 + 1))) = bb
          have HD := Hid.mk hdd
          clear hdd
          cases bb with
          | true =>
            have hlt := of_decide_eq_true HD.out
            have y0 := HU.out.2.2.1.cell (f + r) (by omega)
            have y1 := HU.out.2.2.1.cell (f + (2 * r + 1 + 1)) (by omega)
            have f0 := HU.out.2.2.1.free
            have l0 := HU.out.2.2.1.lt
            go_wp2_with fail
            go_region
            have e1 := (HU.out.2.2.1.sw (i := f + r) (j := f + (2 * r + 1 + 1)) (by omega) (by omega))
            have e2 := chg_sw HU.out.2.2.2 rfl (f + r) (f + (2 * r + 1 + 1)) (.int .u64 (ix Y (f + (2 * r + 1 + 1)))) (.int .u64 (ix Y (f + r)))
            clear y0 y1 f0 l0
            go_wp2_with fail
            refine ⟨⟨2 * r + 1 + 1, by omega, by omega, by go_num, Hid.mk ⟨_, HU.out.1.sw (f + r) (f + (2 * r + 1 + 1)) (by omega) (by omega) (by omega) (by omega), HU.out.2.1.down (by omega) (by omega) hch HB.out hlt, e1, e2⟩⟩, by simp [intOf]; omega⟩
          | false =>
            have hlt := of_decide_eq_false HD.out
            go_wp2_with fail
            refine bodyPost_ret (results_none rfl _ _ _) rfl ?_
            exact ⟨rfl, Y, HU.out.1, HU.out.2.1.stop (fun d h1 h2 => Int.le_trans (HB.out d h1 h2) (by omega)), HU.out.2.2.1, HU.out.2.2.2⟩
        | false =>
          have hx2 : ¬ ix Y (f + (2 * r + 1)) < ix Y (f + (2 * r + 2)) := of_decide_eq_false HX.out
          clear HX
          go_wp2_with fail
          have hch : 2 * r + 1 < hi := by omega
          have hbd : ∀ d, (d = 2 * r + 1 ∨ d = 2 * r + 2) → d < hi → ix Y (f + d) ≤ ix Y (f + (2 * r + 1)) := by
            intro d hd1 hd2
            rcases hd1 with rfl | rfl
            · exact Int.le_refl _
            · omega
          have HB := Hid.mk hbd
          clear hbd
          have x0 : ∀ z : After wz, z.world.cell? ⟨g, f + r, none⟩ = some (.int .u64 (ix Y (f + r))) := fun z => (HT.out.2.2.1.after z).cell (f + r) (by omega)
          have x1 : ∀ z : After wz, z.world.cell? ⟨g, f + (2 * r + 1), none⟩ = some (.int .u64 (ix Y (f + (2 * r + 1)))) := fun z => (HT.out.2.2.1.after z).cell (f + (2 * r + 1)) (by omega)
          go_wp2_with fail
          have hne := After.some wz
          refine wp_region_after (by kernel_rfl) (by kernel_rfl) ?_
          repeat (go_big_quiet_step (exact After.callE (lessE _ _) _))
          refine wpQuiet_nil ?_
          rintro _ ⟨z, rfl⟩
          have HU := Hid.mk (And.intro (HT.out.1) (And.intro (HT.out.2.1) (And.intro (HT.out.2.2.1.after z) (HT.out.2.2.2.trans z.chg (T := Nil) (fun _ _ h => h.elim)))))
          clear HT hne x0 x1
          generalize z.world = wy at *
          clear z
          generalize hdd : decide (ix Y (f + r) < ix Y (f + (2 * r + 1))) = bb
          have HD := Hid.mk hdd
          clear hdd
          cases bb with
          | true =>
            have hlt := of_decide_eq_true HD.out
            have y0 := HU.out.2.2.1.cell (f + r) (by omega)
            have y1 := HU.out.2.2.1.cell (f + (2 * r + 1)) (by omega)
            have f0 := HU.out.2.2.1.free
            have l0 := HU.out.2.2.1.lt
            go_wp2_with fail
            go_region
            have e1 := (HU.out.2.2.1.sw (i := f + r) (j := f + (2 * r + 1)) (by omega) (by omega))
            have e2 := chg_sw HU.out.2.2.2 rfl (f + r) (f + (2 * r + 1)) (.int .u64 (ix Y (f + (2 * r + 1)))) (.int .u64 (ix Y (f + r)))
            clear y0 y1 f0 l0
            go_wp2_with fail
            refine ⟨⟨2 * r + 1, by omega, by omega, by go_num, Hid.mk ⟨_, HU.out.1.sw (f + r) (f + (2 * r + 1)) (by omega) (by omega) (by omega) (by omega), HU.out.2.1.down (by omega) (by omega) hch HB.out hlt, e1, e2⟩⟩, by simp [intOf]; omega⟩
          | false =>
            have hlt := of_decide_eq_false HD.out
            go_wp2_with fail
            refine bodyPost_ret (results_none rfl _ _ _) rfl ?_
            exact ⟨rfl, Y, HU.out.1, HU.out.2.1.stop (fun d h1 h2 => Int.le_trans (HB.out d h1 h2) (by omega)), HU.out.2.2.1, HU.out.2.2.2⟩
      · have k2 : decide (2 * (r : Int) + 1 + 1 < (hi : Int)) = false := decide_eq_false (by omega)
        go_wp2_with fail
        have hne := After.some wr
        refine wp_region_after (by kernel_rfl) (by kernel_rfl) ?_
        repeat (go_big_quiet_step (fail))
        refine wpQuiet_nil ?_
        rintro _ ⟨z, rfl⟩
        have HT := Hid.mk (And.intro (HS.out.1) (And.intro (HS.out.2.1) (And.intro (HS.out.2.2.1.after z) (HS.out.2.2.2.trans z.chg (T := Nil) (fun _ _ h => h.elim)))))
        clear HS hne
        generalize z.world = wz at *
        clear z
        go_wp2_with fail
        have hch : 2 * r + 1 < hi := by omega
        have hbd : ∀ d, (d = 2 * r + 1 ∨ d = 2 * r + 2) → d < hi → ix Y (f + d) ≤ ix Y (f + (2 * r + 1)) := by
          intro d hd1 hd2
          rcases hd1 with rfl | rfl
          · exact Int.le_refl _
          · omega
        have HB := Hid.mk hbd
        clear hbd
        have x0 : ∀ z : After wz, z.world.cell? ⟨g, f + r, none⟩ = some (.int .u64 (ix Y (f + r))) := fun z => (HT.out.2.2.1.after z).cell (f + r) (by omega)
        have x1 : ∀ z : After wz, z.world.cell? ⟨g, f + (2 * r + 1), none⟩ = some (.int .u64 (ix Y (f + (2 * r + 1)))) := fun z => (HT.out.2.2.1.after z).cell (f + (2 * r + 1)) (by omega)
        go_wp2_with fail
        have hne := After.some wz
        refine wp_region_after (by kernel_rfl) (by kernel_rfl) ?_
        repeat (go_big_quiet_step (exact After.callE (lessE _ _) _))
        refine wpQuiet_nil ?_
        rintro _ ⟨z, rfl⟩
        have HU := Hid.mk (And.intro (HT.out.1) (And.intro (HT.out.2.1) (And.intro (HT.out.2.2.1.after z) (HT.out.2.2.2.trans z.chg (T := Nil) (fun _ _ h => h.elim)))))
        clear HT hne x0 x1
        generalize z.world = wy at *
        clear z
        generalize hdd : decide (ix Y (f + r) < ix Y (f + (2 * r + 1))) = bb
        have HD := Hid.mk hdd
        clear hdd
        cases bb with
        | true =>
          have hlt := of_decide_eq_true HD.out
          have y0 := HU.out.2.2.1.cell (f + r) (by omega)
          have y1 := HU.out.2.2.1.cell (f + (2 * r + 1)) (by omega)
          have f0 := HU.out.2.2.1.free
          have l0 := HU.out.2.2.1.lt
          go_wp2_with fail
          go_region
          have e1 := (HU.out.2.2.1.sw (i := f + r) (j := f + (2 * r + 1)) (by omega) (by omega))
          have e2 := chg_sw HU.out.2.2.2 rfl (f + r) (f + (2 * r + 1)) (.int .u64 (ix Y (f + (2 * r + 1)))) (.int .u64 (ix Y (f + r)))
          clear y0 y1 f0 l0
          go_wp2_with fail
          refine ⟨⟨2 * r + 1, by omega, by omega, by go_num, Hid.mk ⟨_, HU.out.1.sw (f + r) (f + (2 * r + 1)) (by omega) (by omega) (by omega) (by omega), HU.out.2.1.down (by omega) (by omega) hch HB.out hlt, e1, e2⟩⟩, by simp [intOf]; omega⟩
        | false =>
          have hlt := of_decide_eq_false HD.out
          go_wp2_with fail
          refine bodyPost_ret (results_none rfl _ _ _) rfl ?_
          exact ⟨rfl, Y, HU.out.1, HU.out.2.1.stop (fun d h1 h2 => Int.le_trans (HB.out d h1 h2) (by omega)), HU.out.2.2.1, HU.out.2.2.2⟩

end Go.Proofs.YtkemmffdiclloaaGreatDoor
namespace Go.Proofs.YtkemmffdiclloaaGreatDoor
open Go.RowKit
set_option maxHeartbeats 4000000 in
set_option maxRecDepth 100000 in
theorem heapSort_any (g n cap a b : Nat) (X : List Int) (hn : X.length = n) (hnb : n ≤ 1000000) (hab : a < b) (hb : b ≤ n) (w : World) (h : URow w g X) :
    Calls Tryz.prog 135 #[.slice (some { block := g, off := 0 }) n cap, .int .i64 (a : Int), .int .i64 (b : Int)] w fun e w' => e = .returned (.tuple #[]) ∧
      ∃ Y, Mix a b X Y ∧ Srt Y a b ∧ URow w' g Y ∧ Chg (fun k => k = g) w w' := by
  have H0 := Hid.mk h
  clear h
  obtain ⟨m, hm⟩ : ∃ m, b = a + m := ⟨b - a, by omega⟩
  have km : (b : Int) - (a : Int) = (m : Int) := by omega
  have kq : Int.tdiv ((m : Int) - 1) 2 = (((m - 1) / 2 : Nat) : Int) := by rw [Int.tdiv_eq_ediv_of_nonneg (by omega)]; omega
  have HM := Hid.mk hm
  have hm0 : m ≤ n := by omega
  have ham : a + m ≤ n := by omega
  have hm1 : 0 < m := by omega
  clear hm
  go_enter Tryz.func135, Tryz.ntmps135
  go_wp2_with fail
  go_loopw [9] (fun v9 wr => ∃ k : Nat, k ≤ (m - 1) / 2 + 1 ∧ v9 = .int .i64 ((k : Int) - 1) ∧ Hid (∃ Y, Mix a b X Y ∧ Heap Y a k m ∧ URow wr g Y ∧ Chg (fun k => k = g) w wr)) (fun v9 _ => (intOf v9 + 1).toNat)
  case atStart => exact ⟨(m - 1) / 2 + 1, Nat.le_refl _, by go_num, Hid.mk ⟨X, .refl (by omega), heap_leaves _ _ _, H0.out, Chg.refl _ _⟩⟩
  case round =>
    obtain ⟨k, hk, rfl, HR⟩ := hrel
    clear H0
    obtain ⟨Y, HS⟩ : ∃ Y, Hid (Mix a b X Y ∧ Heap Y a k m ∧ URow wr g Y ∧ Chg (fun k => k = g) w wr) := by
      obtain ⟨Y, h⟩ := HR.out
      exact ⟨Y, Hid.mk h⟩
    clear HR
    have hl : Y.length = n := by rw [HS.out.1.len.1, hn]
    rcases k with _ | k
    · have e0 : ((0 : Nat) : Int) - 1 = -1 := rfl
      rw [e0]
      obtain ⟨wo, hwo⟩ : ∃ wo, wo = wr := ⟨_, rfl⟩
      subst hwo
      go_wp2_with fail
      go_loopw [10] (fun v10 wr => ∃ k : Nat, k ≤ m ∧ v10 = .int .i64 ((k : Int) - 1) ∧ Hid (∃ Y, Mix a b X Y ∧ Pops Y a k m ∧ URow wr g Y ∧ Chg (fun k => k = g) w wr)) (fun v10 _ => (intOf v10 + 1).toNat)
      case atStart => exact ⟨m, Nat.le_refl _, rfl, Hid.mk ⟨Y, HS.out.1, .start HS.out.2.1, HS.out.2.2.1, HS.out.2.2.2⟩⟩
      case round =>
        obtain ⟨k, hk, rfl, HR⟩ := hrel
        clear HS hl
        obtain ⟨Y, HS⟩ : ∃ Y, Hid (Mix a b X Y ∧ Pops Y a k m ∧ URow wr g Y ∧ Chg (fun k => k = g) w wr) := by
          obtain ⟨Y, h⟩ := HR.out
          exact ⟨Y, Hid.mk h⟩
        clear HR
        have hl : Y.length = n := by rw [HS.out.1.len.1, hn]
        rcases k with _ | k
        · have e0 : ((0 : Nat) : Int) - 1 = -1 := rfl
          rw [e0]
          go_wp2_with fail
          refine bodyPost_end (results_none rfl _ _ _) rfl ?_
          refine ⟨rfl, Y, HS.out.1, ?_, HS.out.2.2.1, HS.out.2.2.2⟩
          have := HS.out.2.1.done
          rw [HM.out]
          exact this
        · have e0 : ((k + 1 : Nat) : Int) - 1 = (k : Int) := by omega
          rw [e0]
          by_cases hk0 : k = 0
          · subst hk0
            have y0 := HS.out.2.2.1.cell (a) (by omega)
            have y1 := HS.out.2.2.1.cell (a) (by omega)
            have f0 := HS.out.2.2.1.free
            have l0 := HS.out.2.2.1.lt
            go_wp2_with fail
            go_region
            have e1 := (HS.out.2.2.1.sw (i := a) (j := a) (by omega) (by omega))
            have e2 := chg_sw HS.out.2.2.2 rfl (a) (a) (.int .u64 (ix Y (a))) (.int .u64 (ix Y (a)))
            clear y0 y1 f0 l0
            go_wp2_with fail
            have hlz : (sw Y a (a)).length = n := by rw [sw_len, hl]
            have HE := Hid.mk (And.intro e1 e2)
            clear e1 e2
            refine (siftDown_any g n cap 0 0 a (sw Y a (a)) hlz hnb (by omega) (by omega) _ HE.out.1 (Pops.swap (i := 0) HS.out.2.1 (by omega) (by omega))).mono ?_
            rintro e w3 ⟨rfl, Z, m1, m2, m3, m4⟩
            have H3 := Hid.mk (And.intro ((HS.out.1.sw a (a) (Nat.le_refl _) hab (by omega) (by have := HM.out; omega)).trans (m1.wide (by omega) (by have := HM.out; omega) (by rw [hlz]; omega))) (And.intro (Pops.step (i := 0) HS.out.2.1 (by omega) (by omega) m1 m2) (And.intro m3 (HE.out.2.trans m4 (fun _ _ h => h)))))
            clear m1 m2 m3 m4 HE HS
            go_wp2_with fail
            refine ⟨⟨0, by omega, by go_num, Hid.mk ⟨Z, H3.out⟩⟩, by simp [intOf] <;> omega⟩
          · have hka : ¬ (a + k = a) := by omega
            have hka2 : ¬ (a = a + k) := by omega
            have y0 := HS.out.2.2.1.cell (a) (by omega)
            have y1 := HS.out.2.2.1.cell (a + k) (by omega)
            have f0 := HS.out.2.2.1.free
            have l0 := HS.out.2.2.1.lt
            go_wp2_with fail
            go_region
            have e1 := (HS.out.2.2.1.sw (i := a) (j := a + k) (by omega) (by omega))
            have e2 := chg_sw HS.out.2.2.2 rfl (a) (a + k) (.int .u64 (ix Y (a + k))) (.int .u64 (ix Y (a)))
            clear y0 y1 f0 l0
            go_wp2_with fail
            have hlz : (sw Y a (a + k)).length = n := by rw [sw_len, hl]
            have HE := Hid.mk (And.intro e1 e2)
            clear e1 e2
            refine (siftDown_any g n cap 0 k a (sw Y a (a + k)) hlz hnb (by omega) (by omega) _ HE.out.1 (Pops.swap (i := k) HS.out.2.1 (by omega) (by omega))).mono ?_
            rintro e w3 ⟨rfl, Z, m1, m2, m3, m4⟩
            have H3 := Hid.mk (And.intro ((HS.out.1.sw a (a + k) (Nat.le_refl _) hab (by omega) (by have := HM.out; omega)).trans (m1.wide (by omega) (by have := HM.out; omega) (by rw [hlz]; omega))) (And.intro (Pops.step (i := k) HS.out.2.1 (by omega) (by omega) m1 m2) (And.intro m3 (HE.out.2.trans m4 (fun _ _ h => h)))))
            clear m1 m2 m3 m4 HE HS
            go_wp2_with fail
            refine ⟨⟨k, by omega, by go_num, Hid.mk ⟨Z, H3.out⟩⟩, by simp [intOf] <;> omega⟩
    · have e0 : ((k + 1 : Nat) : Int) - 1 = (k : Int) := by omega
      rw [e0]
      go_wp2_with fail
      refine (siftDown_any g n cap k m a Y hl hnb (by omega) (by omega) _ HS.out.2.2.1 HS.out.2.1).mono ?_
      rintro e w3 ⟨rfl, Z, m1, m2, m3, m4⟩
      have H3 := Hid.mk (And.intro (HS.out.1.trans (m1.wide (by omega) (by have := HM.out; omega) (by rw [hl]; omega))) (And.intro m2 (And.intro m3 (HS.out.2.2.2.trans m4 (fun _ _ h => h)))))
      clear m1 m2 m3 m4 HS
      go_wp2_with fail
      refine ⟨⟨k, by omega, by go_num, Hid.mk ⟨Z, H3.out⟩⟩, by simp [intOf] <;> omega⟩

end Go.Proofs.YtkemmffdiclloaaGreatDoor
