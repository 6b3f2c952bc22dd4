/- Joined for this seat from: XSu XSh. -/
import Derived.Deep.CutBlock
import Derived.Deep.CutRange
import Derived.Shelf.Small.Bits
import Derived.Test.YtkemmffdiclloaaGreatDoorBo
set_option linter.unusedVariables false
set_option linter.unusedSimpArgs false
namespace Go.Proofs.YtkemmffdiclloaaGreatDoor
open Go.RowKit
set_option maxHeartbeats 4000000 in
set_option maxRecDepth 100000 in
theorem reverseRange_any (g n cap a b : Nat) (X : List Int) (hn : X.length = n) (hnb : n ≤ 1000000) (hab : a < b) (hb : b ≤ n) (w : World) (h : URow w g X) :
    Calls Tryz.prog 138 #[.slice (some { block := g, off := 0 }) n cap, .int .i64 (a : Int), .int .i64 (b : Int)] w fun e w' => e = .returned (.tuple #[]) ∧
      ∃ Y, Mix a b X Y ∧ URow w' g Y ∧ Chg (fun k => k = g) w w' := by
  have H0 := Hid.mk h
  clear h
  go_enter Tryz.func138, Tryz.ntmps138
  go_wp2_with fail
  go_loopw [6, 7] (fun v6 v7 wr => ∃ i j : Nat, a ≤ i ∧ j < b ∧ v6 = .int .i64 (i : Int) ∧ v7 = .int .i64 (j : Int) ∧ Hid (∃ Y, Mix a b X Y ∧ URow wr g Y ∧ Chg (fun k => k = g) w wr)) (fun v6 v7 _ => (intOf v7 + 1 - intOf v6).toNat)
  case atStart => exact ⟨a, b - 1, Nat.le_refl _, by omega, rfl, by go_num, Hid.mk ⟨X, .refl (by omega), H0.out, Chg.refl _ _⟩⟩
  case round =>
    obtain ⟨i, j, hi, hj, rfl, rfl, HR⟩ := hrel
    clear H0
    obtain ⟨Y, HS⟩ : ∃ Y, Hid (Mix a b X Y ∧ URow wr g Y ∧ Chg (fun k => k = g) w wr) := by
      obtain ⟨Y, h⟩ := HR.out
      exact ⟨Y, Hid.mk h⟩
    clear HR
    have hl : Y.length = n := by rw [HS.out.1.len.1, hn]
    by_cases hij : i < j
    · have k1 : decide ((i : Int) < (j : Int)) = true := decide_eq_true (by omega)
      have hne : ¬ (i = j) := by omega
      have hne2 : ¬ (j = i) := by omega
      have y0 := HS.out.2.1.cell (i) (by omega)
      have y1 := HS.out.2.1.cell (j) (by omega)
      have f0 := HS.out.2.1.free
      have l0 := HS.out.2.1.lt
      go_wp2_with fail
      go_region
      have e1 := (HS.out.2.1.sw (i := i) (j := j) (by omega) (by omega))
      have e2 := chg_sw HS.out.2.2 rfl (i) (j) (.int .u64 (ix Y (j))) (.int .u64 (ix Y (i)))
      clear y0 y1 f0 l0
      go_wp2_with fail
      refine ⟨⟨i + 1, j - 1, by omega, by omega, by go_num, by go_num, Hid.mk ⟨_, HS.out.1.sw i j (by omega) (by omega) (by omega) (by omega), e1, e2⟩⟩, ?_⟩
      simp only [intOf]
      omega
    · have k1 : decide ((i : Int) < (j : Int)) = false := decide_eq_false (by omega)
      go_wp2_with fail
      refine bodyPost_end (results_none rfl _ _ _) rfl ?_
      exact ⟨rfl, Y, HS.out⟩
set_option maxHeartbeats 4000000 in
set_option maxRecDepth 100000 in
theorem order2_any (g n cap s x y : Nat) (c : Int) (X : List Int) (hn : X.length = n) (hnb : n ≤ 1000000) (hx : x < n) (hy : y < n) (hc : 0 ≤ c ∧ c ≤ 1000) (w : World) (h : URow w g X) (hs : Bk w s 3 #[.int .i64 c]) :
    Calls Tryz.prog 293 #[.slice (some { block := g, off := 0 }) n cap, .int .i64 (x : Int), .int .i64 (y : Int), .pointer (some { block := s, off := 0 })] w fun e w' => ∃ u v : Nat, ∃ d : Int, e = .returned (.tuple #[.int .i64 (u : Int), .int .i64 (v : Int)]) ∧
      ((u = x ∧ v = y) ∨ (u = y ∧ v = x)) ∧ c ≤ d ∧ d ≤ c + 1 ∧ Bk w' s 3 #[.int .i64 d] ∧ Chg (fun k => k = s) w w' := by
  have HS := Hid.mk (And.intro h hs)
  clear h hs
  have x0 : ∀ z : After w, z.world.cell? ⟨g, x, none⟩ = some (.int .u64 (ix X x)) := fun z => (HS.out.1.after z).cell x (by omega)
  have x1 : ∀ z : After w, z.world.cell? ⟨g, y, none⟩ = some (.int .u64 (ix X y)) := fun z => (HS.out.1.after z).cell y (by omega)
  go_enter Tryz.func293, Tryz.ntmps293
  go_wp2_with fail
  have hne := After.some w
  refine wp_region_after (by kernel_rfl) (by kernel_rfl) ?_
  repeat (go_big_quiet_step (exact After.callE (lessE _ _) _))
  refine wpQuiet_nil ?_
  rintro _ ⟨z, rfl⟩
  have HT := Hid.mk (And.intro (HS.out.2.after z) z.chg)
  clear HS x0 x1 hne
  generalize z.world = wz at *
  clear z
  generalize hdd : decide (ix X y < ix X x) = bb
  clear hdd
  cases bb with
  | true =>
    have y0 := HT.out.1.cell 0 rfl
    have f0 := HT.out.1.free 0
    have l0 := HT.out.1.lt
    go_wp2_with fail
    go_ret2
    exact ⟨y, x, c + 1, rfl, .inr ⟨rfl, rfl⟩, by omega, by omega, HT.out.1.set 0 (.int .i64 (c + 1)), ((HT.out.2.wider (T := fun k => k = s) (fun _ _ h => h.elim)).setCell (p := { block := s, off := 0 }) (fun _ => rfl) _)⟩
  | false =>
    go_wp2_with fail
    go_ret2
    exact ⟨x, y, c, rfl, .inl ⟨rfl, rfl⟩, by omega, by omega, HT.out.1, HT.out.2.wider (T := fun k => k = s) (fun _ _ h => h.elim)⟩
theorem median_any (g n cap s x y z : Nat) (c : Int) (X : List Int) (hn : X.length = n) (hnb : n ≤ 1000000) (hx : x < n) (hy : y < n) (hz : z < n) (hc : 0 ≤ c ∧ c ≤ 900) (hgs : g ≠ s) (w : World) (h : URow w g X) (hs : Bk w s 3 #[.int .i64 c]) :
    Calls Tryz.prog 214 #[.slice (some { block := g, off := 0 }) n cap, .int .i64 (x : Int), .int .i64 (y : Int), .int .i64 (z : Int), .pointer (some { block := s, off := 0 })] w fun e w' => ∃ u : Nat, ∃ d : Int, e = .returned (.int .i64 (u : Int)) ∧
      (u = x ∨ u = y ∨ u = z) ∧ c ≤ d ∧ d ≤ c + 3 ∧ Bk w' s 3 #[.int .i64 d] ∧ Chg (fun k => k = s) w w' := by
  have HS := Hid.mk (And.intro h hs)
  clear h hs
  go_enter Tryz.func214, Tryz.ntmps214
  go_wp2_with fail
  refine (order2_any g n cap s x y c X hn hnb hx hy (by omega) _ HS.out.1 HS.out.2).mono ?_
  rintro e w1 ⟨u1, v1, d1, rfl, h1, h2, h3, h4, h5⟩
  have H1 := Hid.mk (And.intro (HS.out.1.keep h5 hgs) (And.intro h4 h5))
  clear h4 h5 HS
  go_wp2_with fail
  refine (order2_any g n cap s v1 z d1 X hn hnb (by omega) hz (by omega) _ H1.out.1 H1.out.2.1).mono ?_
  rintro e w2 ⟨u2, v2, d2, rfl, k1, k2, k3, k4, k5⟩
  have H2 := Hid.mk (And.intro (H1.out.1.keep k5 hgs) (And.intro k4 (H1.out.2.2.trans k5 (fun _ _ h => h))))
  clear k4 k5 H1
  go_wp2_with fail
  refine (order2_any g n cap s u1 u2 d2 X hn hnb (by omega) (by omega) (by omega) _ H2.out.1 H2.out.2.1).mono ?_
  rintro e w3 ⟨u3, v3, d3, rfl, m1, m2, m3, m4, m5⟩
  have H3 := Hid.mk (And.intro m4 (H2.out.2.2.trans m5 (fun _ _ h => h)))
  clear m4 m5 H2
  go_wp2_with fail
  go_ret
  exact ⟨v3, d3, rfl, by omega, by omega, by omega, H3.out⟩
theorem medianAdjacent_any (g n cap s x : Nat) (c : Int) (X : List Int) (hn : X.length = n) (hnb : n ≤ 1000000) (hx0 : 0 < x) (hx : x + 1 < n) (hc : 0 ≤ c ∧ c ≤ 900) (hgs : g ≠ s) (w : World) (h : URow w g X) (hs : Bk w s 3 #[.int .i64 c]) :
    Calls Tryz.prog 213 #[.slice (some { block := g, off := 0 }) n cap, .int .i64 (x : Int), .pointer (some { block := s, off := 0 })] w fun e w' => ∃ u : Nat, ∃ d : Int, e = .returned (.int .i64 (u : Int)) ∧
      (x ≤ u + 1 ∧ u ≤ x + 1) ∧ c ≤ d ∧ d ≤ c + 3 ∧ Bk w' s 3 #[.int .i64 d] ∧ Chg (fun k => k = s) w w' := by
  have HS := Hid.mk (And.intro h hs)
  clear h hs
  obtain ⟨q, hq⟩ : ∃ q, x = q + 1 := ⟨x - 1, by omega⟩
  have e1 : (x : Int) - 1 = (q : Int) := by omega
  have HQ := Hid.mk hq
  have hq2 : q < n := by omega
  have hx2 : x < n := by omega
  clear hq
  go_enter Tryz.func213, Tryz.ntmps213
  go_wp2_with fail
  refine (median_any g n cap s q x (x + 1) c X hn hnb hq2 hx2 hx hc hgs _ HS.out.1 HS.out.2).mono ?_
  rintro e w1 ⟨u, d, rfl, h1, h2, h3, h4⟩
  go_wp2_with fail
  go_ret
  exact ⟨u, d, rfl, by have := HQ.out; omega, h2, h3, h4⟩
set_option maxHeartbeats 4000000 in
set_option maxRecDepth 100000 in
theorem choosePivot_any (g n cap a b : Nat) (X : List Int) (hn : X.length = n) (hnb : n ≤ 1000000) (hab : a + 8 ≤ b) (hb : b ≤ n) (w : World) (h : URow w g X) :
    Calls Tryz.prog 137 #[.slice (some { block := g, off := 0 }) n cap, .int .i64 (a : Int), .int .i64 (b : Int)] w fun e w' => ∃ p : Nat, ∃ d : Int, e = .returned (.tuple #[.int .i64 (p : Int), .int .i64 d]) ∧
      (a ≤ p ∧ p < b) ∧ (d = 0 ∨ d = 1 ∨ d = 2) ∧ Chg Nil w w' := by
  have HS := Hid.mk h
  have hgs : g ≠ w.heap.size := by have := h.lt; omega
  clear h
  obtain ⟨m, hm⟩ : ∃ m, b = a + m := ⟨b - a, by omega⟩
  obtain ⟨q, hq⟩ : ∃ q, m / 4 = q := ⟨_, rfl⟩
  have km : (b : Int) - (a : Int) = (m : Int) := by omega
  have kq : Int.tdiv (m : Int) 4 = (q : Int) := by rw [Int.tdiv_eq_ediv_of_nonneg (by omega)]; omega
  have hq1 : 2 ≤ q := by omega
  have hq2 : 4 * q ≤ m := by omega
  have hm1 : 8 ≤ m := by omega
  have hm2 : a + m ≤ n := by omega
  have k8 : decide (8 ≤ (m : Int)) = true := decide_eq_true (by omega)
  have HM := Hid.mk hm
  clear hm hq
  go_enter Tryz.func137, Tryz.ntmps137
  have hr0 : URow (w.alloc (.cells #[.int .i64 0] 3)) g X := HS.out.keep ((Chg.refl Nil w).alloc _) (fun h => h)
  have hb0 := Bk.new w 3 #[.int .i64 0]
  have hc0 : Chg Nil w (w.alloc (.cells #[.int .i64 0] 3)) := (Chg.refl Nil w).alloc _
  have H0 := Hid.mk (And.intro hr0 (And.intro hb0 hc0))
  clear hr0 hb0 hc0
  by_cases h50 : 50 ≤ m
  · have k50 : decide (50 ≤ (m : Int)) = true := decide_eq_true (by omega)
    go_wp2_with fail
    refine (medianAdjacent_any g n cap w.heap.size (a + q) 0 X hn hnb (by omega) (by omega) (by omega) hgs _ H0.out.1 H0.out.2.1).mono ?_
    rintro e w1 ⟨p1, d1, rfl, h1, g1, f1, c1, c1'⟩
    have H1 := Hid.mk (And.intro (H0.out.1.keep c1' hgs) (And.intro c1 (H0.out.2.2.trans (T := fun k => k = w.heap.size) c1' (fun i hi h => by omega))))
    clear c1 c1' H0
    go_wp2_with fail
    refine (medianAdjacent_any g n cap w.heap.size (a + q * 2) d1 X hn hnb (by omega) (by omega) (by omega) hgs _ H1.out.1 H1.out.2.1).mono ?_
    rintro e w2 ⟨p2, d2, rfl, h2, g2, f2, c2, c2'⟩
    have H2 := Hid.mk (And.intro (H1.out.1.keep c2' hgs) (And.intro c2 (H1.out.2.2.trans (T := fun k => k = w.heap.size) c2' (fun i hi h => by omega))))
    clear c2 c2' H1
    go_wp2_with fail
    refine (medianAdjacent_any g n cap w.heap.size (a + q * 3) d2 X hn hnb (by omega) (by omega) (by omega) hgs _ H2.out.1 H2.out.2.1).mono ?_
    rintro e w3 ⟨p3, d3, rfl, h3, g3, f3, c3, c3'⟩
    have H3 := Hid.mk (And.intro (H2.out.1.keep c3' hgs) (And.intro c3 (H2.out.2.2.trans (T := fun k => k = w.heap.size) c3' (fun i hi h => by omega))))
    clear c3 c3' H2
    go_wp2_with fail
    refine (median_any g n cap w.heap.size (p1) (p2) (p3) d3 X hn hnb (by omega) (by omega) (by omega) (by omega) hgs _ H3.out.1 H3.out.2.1).mono ?_
    rintro e w9 ⟨p, d9, rfl, h9, g9, f9, c9, c9'⟩
    have H9 := Hid.mk (And.intro c9 (H3.out.2.2.trans (T := fun k => k = w.heap.size) c9' (fun i hi h => by omega)))
    clear c9 c9' H3
    have y0 := H9.out.1.cell 0 rfl
    by_cases hd0 : d9 = 0
    · have t0 : (d9 == (0 : Int)) = true := by rw [hd0]; rfl
      go_wp2_with fail
      go_ret2
      exact ⟨p, 1, rfl, by have := HM.out; omega, by omega, H9.out.2⟩
    · have t0 : (d9 == (0 : Int)) = false := beq_eq_false_iff_ne.2 hd0
      by_cases hd1 : d9 = 12
      · have t1 : (d9 == (12 : Int)) = true := by rw [hd1]; rfl
        go_wp2_with fail
        go_ret2
        exact ⟨p, 2, rfl, by have := HM.out; omega, by omega, H9.out.2⟩
      · have t1 : (d9 == (12 : Int)) = false := beq_eq_false_iff_ne.2 hd1
        go_wp2_with fail
        go_ret2
        exact ⟨p, 0, rfl, by have := HM.out; omega, by omega, H9.out.2⟩
  · have k50 : decide (50 ≤ (m : Int)) = false := decide_eq_false (by omega)
    go_wp2_with fail
    refine (median_any g n cap w.heap.size (a + q) (a + q * 2) (a + q * 3) 0 X hn hnb (by omega) (by omega) (by omega) (by omega) hgs _ H0.out.1 H0.out.2.1).mono ?_
    rintro e w9 ⟨p, d9, rfl, h9, g9, f9, c9, c9'⟩
    have H9 := Hid.mk (And.intro c9 (H0.out.2.2.trans (T := fun k => k = w.heap.size) c9' (fun i hi h => by omega)))
    clear c9 c9' H0
    have y0 := H9.out.1.cell 0 rfl
    by_cases hd0 : d9 = 0
    · have t0 : (d9 == (0 : Int)) = true := by rw [hd0]; rfl
      go_wp2_with fail
      go_ret2
      exact ⟨p, 1, rfl, by have := HM.out; omega, by omega, H9.out.2⟩
    · have t0 : (d9 == (0 : Int)) = false := beq_eq_false_iff_ne.2 hd0
      by_cases hd1 : d9 = 12
      · have t1 : (d9 == (12 : Int)) = true := by rw [hd1]; rfl
        go_wp2_with fail
        go_ret2
        exact ⟨p, 2, rfl, by have := HM.out; omega, by omega, H9.out.2⟩
      · have t1 : (d9 == (12 : Int)) = false := beq_eq_false_iff_ne.2 hd1
        go_wp2_with fail
        go_ret2
        exact ⟨p, 0, rfl, by have := HM.out; omega, by omega, H9.out.2⟩

end Go.Proofs.YtkemmffdiclloaaGreatDoor
namespace Go.Proofs.YtkemmffdiclloaaGreatDoor
open Go.Shelf
def laysBl_ren : Go.Shelf.Ren := ⟨fun | 125 => 84 | 128 => 143 | 129 => 144 | n => n, fun | 46 => 57 | 3 => 3 | 51 => 249 | 53 => 31 | 4 => 4 | 5 => 5 | 9 => 9 | n => n, fun | n => n⟩
theorem laysBl : Go.Proofs.Lays.n125 Tryz.prog laysBl_ren := {
  mixed := by kernel_rfl
  f125 := Tryz.func84.trans (congrArg some (by kernel_rfl))
  f128 := Tryz.func143.trans (congrArg some (by kernel_rfl))
  f129 := Tryz.func144.trans (congrArg some (by kernel_rfl))
  t3 := Tryz.underlying3
  a3 := Tryz.isAgg3
  z3 := Tryz.sizeOf3
  v3 := Tryz.zeroValue3
  t4 := Tryz.underlying4
  a4 := Tryz.isAgg4
  z4 := Tryz.sizeOf4
  v4 := Tryz.zeroValue4
  t5 := Tryz.underlying5
  a5 := Tryz.isAgg5
  z5 := Tryz.sizeOf5
  v5 := Tryz.zeroValue5
  t9 := Tryz.underlying9
  a9 := Tryz.isAgg9
  z9 := Tryz.sizeOf9
  v9 := Tryz.zeroValue9
  t46 := Tryz.underlying57
  a46 := Tryz.isAgg57
  z46 := Tryz.sizeOf57
  v46 := Tryz.zeroValue57
  t51 := Tryz.underlying249
  a51 := Tryz.isAgg249
  z51 := Tryz.sizeOf249
  v51 := Tryz.zeroValue249
  t53 := Tryz.underlying31
  a53 := Tryz.isAgg31
  z53 := Tryz.sizeOf31
  v53 := Tryz.zeroValue31 }
/-- bits.Len: "Len returns the minimum number of bits required to represent x; the result is 0 for x == 0.": IT RETURNS 'Lib.bitLen x'; the world is as it was. (A uint has 64 bits in the model.) ITS CALLEE bits.Len64 IS MET BY ITS OWN CONTRACT OFF THE SHELF (lay that first). (LAID: no walk: one application.) -/
theorem bits_Len (x : Int) (w : World) (h0 : 0 ≤ x) (h1 : x ≤ 18446744073709551615) :
    Calls Tryz.prog 84 #[.int .u64 x] w fun e w' => e = .returned (.int .i64 (Lib.bitLen x.toNat)) ∧ w' = w := Any.bits_Len laysBl x w h0 h1

end Go.Proofs.YtkemmffdiclloaaGreatDoor
