/- Joined for this seat from: XEv. -/
import Derived.Test.YtkemmffdiclloaaGreatDoorAy
set_option linter.unusedVariables false
set_option linter.unusedSimpArgs false
namespace Go.Proofs.YtkemmffdiclloaaGreatDoor
open Go.RowKit
theorem ringC_at : ∀ (L : List (Int × Int)) (j : Nat) (p : Int × Int), L[j]? = some p → (ringC L)[j * 2]? = some (.int .i64 p.1) ∧ (ringC L)[j * 2 + 1]? = some (.int .i64 p.2)
  | [], _, _, h => by simp at h
  | a :: L, 0, p, h => by
    obtain rfl : a = p := by simpa using h
    exact ⟨rfl, rfl⟩
  | a :: L, j + 1, p, h => by
    have e : ringC (a :: L) = iv a.1 :: iv a.2 :: ringC L := rfl
    have h1 := ringC_at L j p (by simpa using h)
    rw [e, show (j + 1) * 2 = j * 2 + 1 + 1 by omega]
    simpa using h1
theorem ring_of {w : World} {base : Nat} {e : TypeId} {A : Option Addr} {c : Nat} {L : List (Int × Int)} (h : w.ownsRow base e 2 (.slice A 6 c) 6 (ringC L)) : ∃ g, A = some { block := g, off := 0 } ∧ Ring w g L := by
  obtain ⟨g, cap, hv, _, hlt⟩ := h.form (by decide)
  have hA : A = some ⟨g, 0, none⟩ := by injection hv
  subst hA
  obtain ⟨b, off, e1, _, _, hx⟩ := (Rds.of_own h).plain (by decide) (by decide)
  injection e1 with e1
  injection e1 with e2 e3
  subst e2
  subst e3
  exact ⟨g, rfl, hlt, fun j p hp => ⟨by simpa using hx (j * 2) _ (ringC_at L j p hp).1, by simpa using hx (j * 2 + 1) _ (ringC_at L j p hp).2⟩⟩
theorem hexRing_any (z : Int × Int) (r : Nat) (hr : r ≤ 12) (ha : -1073741824 ≤ z.1 ∧ z.1 ≤ 1073741824) (hb : -1073741824 ≤ z.2 ∧ z.2 ≤ 1073741824) (w : World) :
    Calls Tryz.prog 47 #[eV z.1 z.2, .int .i64 (r : Int)] w fun e w' => ∃ g c, e = .returned (.tuple #[.slice (some { block := g, off := 0 }) 6 c, .bool true]) ∧ Ring w' g (hexL z (12 - r)) ∧ Chg Nil w w' := by
  refine (hex_any z.1 z.2 r hr ha hb w).mono ?_
  rintro e w' ⟨A, c, rfl, h1, h2⟩
  obtain ⟨g, rfl, hg⟩ := ring_of h1
  exact ⟨g, c, rfl, hg, h2⟩
set_option maxHeartbeats 1000000 in
theorem check_any (l0 l1 h0 h1 : Int) (r : Nat) (hr : r ≤ 12) (hl : World_ l0 l1) (hh : World_ h0 h1) (hb0 : l0 ≤ h0) (hb1 : l1 ≤ h1) (w : World) :
    Calls Tryz.prog 39 #[pV (l0, l1), pV (h0, h1), .int .i64 (r : Int)] w fun e w' => e = .returned (.int .i64 0) ∧ Chg Nil w w' := by
  have q1 := fun W => planeOk_any l0 l1 hl W
  have q2 := fun W => planeOk_any h0 h1 hh W
  have k0 : decide ((r : Int) < 0) = false := decide_eq_false (by omega)
  have k1 : decide ((12 : Int) < (r : Int)) = false := decide_eq_false (by omega)
  have k2 : decide (h0 < l0) = false := decide_eq_false (by omega)
  have k3 : decide (h1 < l1) = false := decide_eq_false (by omega)
  clear hl hh
  unfold pV
  go_enter Tryz.func39, Tryz.ntmps39
  go_wp2_with fail
  refine (q1 _).mono ?_
  rintro e w1 ⟨rfl, rfl⟩
  clear q1
  go_wp2_with fail
  refine (q2 _).mono ?_
  rintro e w1 ⟨rfl, rfl⟩
  clear q2
  go_wp2_with fail
  go_ret
  exact ⟨rfl, ((Chg.refl Nil w).alloc _).alloc _⟩
set_option maxHeartbeats 2000000 in
theorem coverTouches_any (z : Int × Int) (R : Nat) (l0 l1 h0 h1 : Int) (hR : R ≤ 12) (ha : -1073741824 ≤ z.1 ∧ z.1 ≤ 1073741824) (hb : -1073741824 ≤ z.2 ∧ z.2 ≤ 1073741824) (hbase : Based z R) (hx : Boxed l0 l1 h0 h1) (hx2 : l0 ≤ 2147483648 ∧ l1 ≤ 2147483648 ∧ -2147483648 ≤ h0 ∧ -2147483648 ≤ h1)
    (hok : RingOk (hexL z (12 - R))) (w : World) :
    Calls Tryz.prog 13 #[cV R z, pV (l0, l1), pV (h0, h1)] w fun e w' => e = .returned (.bool (touchP (3 * l0, 3 * l1) (3 * h0, 3 * h1) (hexL z (12 - R)))) ∧ Chg Nil w w' := by
  have q1 := fun W => inThirds_any l0 l1 h0 h1 hx W
  have q2 := fun W => cellOk_any R z hR ha hb hbase W
  have q3 := fun W => hexRing_any z R hR ha hb W
  have q4 := fun g c (W : World) hW => touches_any (3 * l0, 3 * l1) (3 * h0, 3 * h1) (by unfold Boxed at hx; unfold Small34; simp only; omega) (by unfold Boxed at hx; unfold Small34; simp only; omega) g (hexL z (12 - R)) hok c W hW
  have hbx : bxV (3 * l0, 3 * l1) (3 * h0, 3 * h1) = .agg #[.int .i64 (3 * l0), .int .i64 (3 * l1), .int .i64 (3 * h0), .int .i64 (3 * h1)] := rfl
  rw [hbx] at q4
  clear hbx hx hx2 hbase hok
  generalize touchP (3 * l0, 3 * l1) (3 * h0, 3 * h1) (hexL z (12 - R)) = TT at *
  generalize hexL z (12 - R) = LL at *
  generalize 3 * l0 = b0 at *
  generalize 3 * l1 = b1 at *
  generalize 3 * h0 = b2 at *
  generalize 3 * h1 = b3 at *
  unfold boxV cV pV eV at *
  go_enter Tryz.func13, Tryz.ntmps13
  go_wp2_with fail
  refine (q1 _).mono ?_
  rintro e w1 ⟨rfl, c1⟩
  have K1 := ((((Chg.refl Nil w).alloc _).alloc _).alloc _).then c1
  have hB := box3 w 27 37 37 #[.int .i64 (R : Int), .int .i64 z.1, .int .i64 z.2] #[.int .i64 l0, .int .i64 l1] #[.int .i64 h0, .int .i64 h1]
  have b_c := hB.1.keep c1 (fun h => h)
  have b_lo := hB.2.1.keep c1 (fun h => h)
  have b_hi := hB.2.2.1.keep c1 (fun h => h)
  clear hB
  clear b_lo
  clear b_hi
  have y_c0 := b_c.cell 0 rfl
  have y_c1 := b_c.cell 1 rfl
  have y_c2 := b_c.cell 2 rfl
  have l_c := b_c.lt
  have H_c1 := Hid.mk b_c
  clear b_c
  have C1 := Hid.mk K1
  clear c1 K1
  clear q1
  go_wp2_with fail
  refine (q2 _).mono ?_
  rintro e w2 ⟨rfl, c2⟩
  have K2 := ((Chg.refl Nil w1).alloc _).then c2
  have b_b := (Bk.new w1 92 #[.int .i64 b0, .int .i64 b1, .int .i64 b2, .int .i64 b3]).keep c2 (fun h => h)
  have b_c := H_c1.out.keep K2 (fun h => h)
  clear H_c1
  clear y_c0
  clear y_c1
  clear y_c2
  clear l_c
  have y_c0 := b_c.cell 0 rfl
  have y_c1 := b_c.cell 1 rfl
  have y_c2 := b_c.cell 2 rfl
  have l_c := b_c.lt
  have H_c2 := Hid.mk b_c
  clear b_c
  have H_b2 := Hid.mk b_b
  clear b_b
  have C2 := Hid.mk (C1.out.then K2)
  clear C1
  clear c2 K2
  clear q2
  go_wp2_with fail
  refine (q3 _).mono ?_
  rintro e w3 ⟨g, c, rfl, hg, c3⟩
  have y0 := (H_b2.out.keep c3 (fun h => h)).cell 0 rfl
  have y1 := (H_b2.out.keep c3 (fun h => h)).cell 1 rfl
  have y2 := (H_b2.out.keep c3 (fun h => h)).cell 2 rfl
  have y3 := (H_b2.out.keep c3 (fun h => h)).cell 3 rfl
  have C3 := Hid.mk (And.intro hg (C2.out.then c3))
  clear c3 C2 H_b2 H_c2 hg q3
  go_wp2_with fail
  refine (q4 g c _ C3.out.1).mono ?_
  rintro e w4 ⟨rfl, c4⟩
  have C4 := Hid.mk (C3.out.2.then c4)
  clear C3 c4 q4
  go_wp2_with fail
  go_ret
  exact ⟨rfl, C4.out⟩

end Go.Proofs.YtkemmffdiclloaaGreatDoor
