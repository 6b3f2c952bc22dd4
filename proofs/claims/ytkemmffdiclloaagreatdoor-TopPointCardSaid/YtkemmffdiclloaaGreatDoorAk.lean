/- Joined for this seat from: XEj. -/
import Derived.Test.YtkemmffdiclloaaGreatDoorAj
set_option linter.unusedVariables false
set_option linter.unusedSimpArgs false
namespace Go.Proofs.YtkemmffdiclloaaGreatDoor
open Go.RowKit
/-- The cells of points, one behind the other. -/
def pC (p : Int × Int) : List Value := [iv p.1, iv p.2]
def ringC (l : List (Int × Int)) : List Value := l.flatMap pC
theorem ringC_append (l m : List (Int × Int)) : ringC (l ++ m) = ringC l ++ ringC m := by unfold ringC; rw [List.flatMap_append]
theorem ringC_len (l : List (Int × Int)) : (ringC l).length = l.length * 2 := by
  induction l with
  | nil => rfl
  | cons p l ih =>
    have e : ringC (p :: l) = pC p ++ ringC l := by unfold ringC; rw [List.flatMap_cons]
    rw [e, List.length_append, ih, List.length_cons]
    unfold pC
    simp only [List.length_cons, List.length_nil]
    omega
theorem ringC_one (l : List (Int × Int)) : ∀ u ∈ ringC l, u.oneCell' = true := by
  intro u hu
  unfold ringC at hu
  obtain ⟨p, _, hp⟩ := List.mem_flatMap.1 hu
  unfold pC at hp
  simp only [List.mem_cons, List.not_mem_nil, or_false] at hp
  rcases hp with rfl | rfl <;> rfl
theorem hex_take (z : Int × Int) (k j : Nat) (hj : j < 6) : (hexL z k).take (j + 1) = (hexL z k).take j ++ [cornerZ z k j] := by
  unfold hexL
  rcases six hj with rfl | rfl | rfl | rfl | rfl | rfl <;> rfl
theorem Tryz.infoP : (Tryz.prog.info? 37).map (fun i => (i.zero, i.size, i.bytes)) = some (some (.agg #[.int .i64 0, .int .i64 0]), 2, 16) := by kernel_rfl
/-- The one pair that 'append(s, p)' lays. -/
theorem rds_pair (w : World) (u v : Value) (t : TypeId) : Rds (w.alloc (.cells #[u, v] t)) (fun k => k = w.heap.size) 2 (some ⟨w.heap.size, 0, none⟩) 1 [u, v] :=
  ⟨rfl, fun _ => ⟨_, rfl, rfl, fun j x hx => by
    have h := Bk.new w t #[u, v]
    match j with
    | 0 => exact h.cell 0 (by simpa using hx)
    | 1 => exact h.cell 1 (by simpa using hx)
    | j + 2 => simp at hx⟩⟩
theorem kap_bd (j : Nat) : (kap j).1.natAbs ≤ 2 ∧ (kap j).2.natAbs ≤ 2 := by unfold kap; split <;> decide
def kapC : Array Value := #[.int .i64 1, .int .i64 1, .int .i64 (-1), .int .i64 2, .int .i64 (-2), .int .i64 1, .int .i64 (-1), .int .i64 (-1), .int .i64 1, .int .i64 (-2), .int .i64 2, .int .i64 (-1)]
theorem kapC_at (j : Nat) (hj : j < 6) : kapC[j * 2]? = some (.int .i64 (kap j).1) ∧ kapC[j * 2 + 1]? = some (.int .i64 (kap j).2) := by
  rcases six hj with rfl | rfl | rfl | rfl | rfl | rfl <;> exact ⟨rfl, rfl⟩
set_option maxHeartbeats 4000000 in
theorem hex_any (a b : Int) (r : Nat) (hr : r ≤ 12) (ha : -1073741824 ≤ a ∧ a ≤ 1073741824) (hb : -1073741824 ≤ b ∧ b ≤ 1073741824) (w : World) :
    Calls Tryz.prog 47 #[eV a b, .int .i64 (r : Int)] w fun e w' => ∃ A c, e = .returned (.tuple #[.slice A 6 c, .bool true]) ∧ w'.ownsRow w.heap.size 37 2 (.slice A 6 c) 6 (ringC (hexL (a, b) (12 - r))) ∧ Chg Nil w w' := by
  have h1 := fun W => place_any a b r hr ha hb W
  have h2 := fun W => beta_any (12 - r) (by omega) W
  have hm := betaMul_bd (12 - r) (by omega) (3 * a) (3 * b) 3221225472 (by omega) (by omega)
  have h3 := fun (j : Nat) W => corner_any (mulZ (betaP (12 - r)) (3 * a, 3 * b)).1 (mulZ (betaP (12 - r)) (3 * a, 3 * b)).2 (12 - r) (by omega) (kap j).1 (kap j).2 (by omega) (by omega) (kap_bd j).1 (kap_bd j).2 (by
    have := betaMul_bd (12 - r) (by omega) (kap j).1 (kap j).2 2 (kap_bd j).1 (kap_bd j).2
    omega) W
  have e3 : ∀ j, spotZ ((mulZ (betaP (12 - r)) (3 * a, 3 * b)).1 + (mulZ (betaP (12 - r)) ((kap j).1, (kap j).2)).1, (mulZ (betaP (12 - r)) (3 * a, 3 * b)).2 + (mulZ (betaP (12 - r)) ((kap j).1, (kap j).2)).2) = cornerZ (a, b) (12 - r) j := fun j => rfl
  simp only [e3] at h3
  clear e3 hm
  have hs : ((12 - r : Nat) : Int) = 12 - (r : Int) := by omega
  rw [hs] at h2
  clear hs
  have hk : 12 - r ≤ 12 := by omega
  generalize 12 - r = k at *
  have H3 := Hid.mk h3
  clear h3
  obtain ⟨i0, hi, hz0, hz1, hz2⟩ := info_parts Tryz.infoP
  have hi0 := Hid.mk (And.intro hi (And.intro hz0 (And.intro hz1 hz2)))
  clear hi hz0 hz1 hz2
  unfold eV at *
  go_enter Tryz.func47, Tryz.ntmps47
  go_wp2_with fail
  refine (h1 _).mono ?_
  rintro e w1 ⟨rfl, c1⟩
  have K1 := ((Chg.refl Nil w).alloc _).then c1
  have b_z := (Bk.new w 25 #[.int .i64 a, .int .i64 b]).keep c1 (fun h => h)
  clear b_z
  have C1 := Hid.mk K1
  clear c1 K1
  clear h1
  go_wp2_with fail
  refine (h2 _).mono ?_
  rintro e w2 ⟨rfl, c2⟩
  have K2 := ((Chg.refl Nil w1).alloc _).then c2
  have b_m := (Bk.new w1 25 #[.int .i64 (mulZ (betaP k) (3 * a, 3 * b)).1, .int .i64 (mulZ (betaP k) (3 * a, 3 * b)).2]).keep c2 (fun h => h)
  have y_m0 := b_m.cell 0 rfl
  have y_m1 := b_m.cell 1 rfl
  have l_m := b_m.lt
  have H_m2 := Hid.mk b_m
  clear b_m
  have C2 := Hid.mk (C1.out.then K2)
  clear C1
  clear c2 K2
  clear h2
  go_wp2_with fail
  have n1 : w.heap.size ≤ w2.heap.size := C2.out.size
  have hB := box2 w2 25 25 #[.int .i64 (betaP k).1, .int .i64 (betaP k).2] kapC
  have HB := Hid.mk (And.intro hB.2.1 (C2.out.then hB.2.2))
  clear hB C2 H_m2 y_m0 y_m1 l_m
  go_loopw [11, 40] (fun v11 v40 wr => ∃ j : Nat, j ≤ 6 ∧ v40 = .int .i64 (j : Int) ∧ Hid (∃ A c, v11 = .slice A j c) ∧ Hid (wr.ownsRow w.heap.size 37 2 v11 j (ringC ((hexL (a, b) k).take j)) ∧ Bk wr (w2.heap.size + 1) 25 kapC ∧ Chg Nil w wr ∧ ∀ i, Own v11 i → w2.heap.size + 1 < i)) (fun _ v40 _ => 6 - (intOf v40).toNat)
  case atStart => exact ⟨0, by omega, rfl, Hid.mk ⟨none, 0, rfl⟩, Hid.mk ⟨⟨rfl, .inl ⟨rfl, rfl⟩⟩, HB.out.1, HB.out.2, fun i h => by simp [Own, Value.ownBlock] at h⟩⟩
  case round =>
    obtain ⟨j, hj, rfl, HV, HR⟩ := hrel
    obtain ⟨A, c, rfl⟩ := HV.out
    by_cases hj6 : j < 6
    · have hkk := kapC_at j hj6
      have y0 := HR.out.2.1.cell (j * 2) hkk.1
      have y1 := HR.out.2.1.cell (j * 2 + 1) hkk.2
      have hc := fun W => H3.out j W
      clear hkk HV
      go_wp2_with fail
      refine (hc _).mono ?_
      rintro e w3 ⟨rfl, c3⟩
      have K := ((Chg.refl Nil wr).alloc _).then c3
      have H1 := Hid.mk (And.intro (own_keep HR.out.1 K (fun _ _ h => h)) (And.intro (HR.out.2.1.keep K (fun h => h)) (And.intro (HR.out.2.2.1.then K) HR.out.2.2.2)))
      clear c3 K hc y0 y1 HR
      unfold pV
      obtain ⟨hi, hz0, hz1, hz2⟩ := hi0.out
      go_wp2_with (at_builtin; refine wpl_append rfl (.tmp 44) (.tmp 48) 66 rfl w.heap.size 37 i0 _ 2 16 Tryz.underlying66 hi hz0 hz1 hz2 rfl (by omega) _ j _ rfl (own_keep H1.out.1 ((Chg.refl Nil w3).alloc _) (fun _ _ h => h)) _ (some ⟨w3.heap.size, 0, none⟩) 1 1 _ rfl (rds_pair w3 _ _ _) (by intro u hu; simp at hu; rcases hu with rfl | rfl <;> rfl) (by simp only [maxLen]; omega) (by omega) (by have := H1.out.2.2.1.size; simp; omega) ?_; intro v2 w4 o2 g2; have H2 := Hid.mk (And.intro o2 g2); clear o2 g2)
      go_roundw
      case rel =>
        obtain ⟨A2, c2, rfl, _, _⟩ := own_form H2.out.1
        have lw := H1.out.2.1.lt
        refine ⟨j + 1, by omega, by go_num, Hid.mk ⟨A2, c2, rfl⟩, Hid.mk ⟨?_, ?_, ?_, ?_⟩⟩
        · rw [hex_take _ _ _ hj6, ringC_append]
          exact H2.out.1
        · exact (H1.out.2.1.alloc _).keep H2.out.2.chg (fun h => by have := H1.out.2.2.2 _ h; omega)
        · exact (H1.out.2.2.1.then ((Chg.refl Nil w3).alloc _)).trans H2.out.2.chg (fun i hi h => by have := H1.out.2.2.2 _ h; have := H1.out.2.1.lt; omega)
        · intro i h
          rcases Nat.lt_or_ge i (w3.heap.size + 1) with hl | hl
          · exact H1.out.2.2.2 _ (H2.out.2.lies i (by simpa using hl) h)
          · omega
      case measure => simp [intOf]; omega
    · obtain rfl : j = 6 := by omega
      have H1 := Hid.mk (And.intro HR.out.1 HR.out.2.2.1)
      clear HR
      go_wp2_with fail
      go_ret2
      exact ⟨A, c, rfl, H1.out.1, H1.out.2⟩

end Go.Proofs.YtkemmffdiclloaaGreatDoor
