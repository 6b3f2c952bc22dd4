/- Joined for this seat from: XEs. -/
import Derived.Test.YtkemmffdiclloaaGreatDoorAu
set_option linter.unusedVariables false
set_option linter.unusedSimpArgs false
namespace Go.Proofs.YtkemmffdiclloaaGreatDoor
open Go.RowKit
def cornB (l h : Int × Int) : Nat → Int × Int
  | 0 => l
  | 1 => (h.1, l.2)
  | 2 => h
  | _ => (l.1, h.2)
def cornC (l h : Int × Int) : Array Value := #[.int .i64 l.1, .int .i64 l.2, .int .i64 h.1, .int .i64 l.2, .int .i64 h.1, .int .i64 h.2, .int .i64 l.1, .int .i64 h.2]
theorem cornC_at (l h : Int × Int) (j : Nat) (hj : j < 4) : (cornC l h)[j * 2]? = some (.int .i64 (cornB l h j).1) ∧ (cornC l h)[j * 2 + 1]? = some (.int .i64 (cornB l h j).2) := by
  have h4 : j = 0 ∨ j = 1 ∨ j = 2 ∨ j = 3 := by omega
  rcases h4 with rfl | rfl | rfl | rfl <;> exact ⟨rfl, rfl⟩
def bxV (l h : Int × Int) : Value := boxV l.1 l.2 h.1 h.2
set_option maxHeartbeats 1000000 in
theorem corners_any (l h : Int × Int) (w : World) :
    Calls Tryz.prog 132 #[bxV l h] w fun e w' => ∃ b, e = .returned (.slice (some { block := b, off := 0 }) 4 4) ∧ (∃ t, Bk w' b t (cornC l h)) ∧ Chg Nil w w' := by
  unfold bxV boxV
  go_enter Tryz.func132, Tryz.ntmps132
  go_wp2_with fail
  have hB := box2 w 92 37 #[.int .i64 l.1, .int .i64 l.2, .int .i64 h.1, .int .i64 h.2] (cornC l h)
  go_ret
  exact ⟨_, rfl, ⟨_, hB.2.1⟩, hB.2.2⟩
set_option maxHeartbeats 4000000 in
theorem outside_any (l h p q : Int × Int) (hc : ∀ j, j < 4 → (cornB l h j).1.natAbs ≤ 17179869184 ∧ (cornB l h j).2.natAbs ≤ 17179869184) (hp1 : p.1.natAbs ≤ 17179869184) (hp2 : p.2.natAbs ≤ 17179869184)
    (hd1 : (q.1 - p.1).natAbs ≤ 33554432) (hd2 : (q.2 - p.2).natAbs ≤ 33554432) (w : World) :
    Calls Tryz.prog 80 #[bxV l h, pV p, pV q] w fun e w' => e = .returned (.bool (outP l h p q)) ∧ Chg Nil w w' := by
  have hk := fun W => corners_any l h W
  have ho : outP l h p q = true ↔ ∀ j, j < 4 → crossZ p q (cornB l h j) < 0 := by
    unfold outP
    simp only [Bool.and_eq_true, decide_eq_true_eq]
    exact ⟨fun hx j hj => by
      have h4 : j = 0 ∨ j = 1 ∨ j = 2 ∨ j = 3 := by omega
      rcases h4 with rfl | rfl | rfl | rfl
      · exact hx.1.1.1
      · exact hx.1.1.2
      · exact hx.1.2
      · exact hx.2, fun hx => ⟨⟨⟨hx 0 (by decide), hx 1 (by decide)⟩, hx 2 (by decide)⟩, hx 3 (by decide)⟩⟩
  have hO := Hid.mk ho
  clear ho
  have hat := Hid.mk (And.intro (cornC_at l h) hc)
  clear hc
  unfold bxV boxV at *
  generalize cornC l h = CC at *
  generalize outP l h p q = OO at *
  have hX := Hid.mk (fun j : Nat => show crossZ p q (cornB l h j) = (q.1 - p.1) * ((cornB l h j).2 - p.2) - (q.2 - p.2) * ((cornB l h j).1 - p.1) from rfl)
  obtain ⟨p1, p2⟩ := p
  obtain ⟨q1, q2⟩ := q
  unfold pV
  go_enter Tryz.func80, Tryz.ntmps80
  go_wp2_with fail
  have hB := box3 w 92 37 37 #[.int .i64 l.1, .int .i64 l.2, .int .i64 h.1, .int .i64 h.2] #[.int .i64 p1, .int .i64 p2] #[.int .i64 q1, .int .i64 q2]
  refine (hk _).mono ?_
  rintro e w1 ⟨b, rfl, ⟨tb, bb⟩, c1⟩
  clear hk
  have H1 := Hid.mk (And.intro (hB.2.1.keep c1 (fun h => h)) (And.intro (hB.2.2.1.keep c1 (fun h => h)) (And.intro bb (hB.2.2.2.then c1))))
  clear hB bb c1
  go_wp2_with fail
  go_loopw [12] (fun v12 wr => ∃ j : Nat, j ≤ 4 ∧ v12 = .int .i64 (j : Int) ∧ Hid (∀ i, i < j → crossZ (p1, p2) (q1, q2) (cornB l h i) < 0) ∧ Hid (Bk wr (w.heap.size + 1) 37 #[.int .i64 p1, .int .i64 p2] ∧ Bk wr (w.heap.size + 1 + 1) 37 #[.int .i64 q1, .int .i64 q2] ∧ Bk wr b tb CC ∧ Chg Nil w wr)) (fun v12 _ => 4 - (intOf v12).toNat)
  case atStart => exact ⟨0, by omega, rfl, Hid.mk (fun i hi => absurd hi (by omega)), H1⟩
  case round =>
    obtain ⟨j, hj, rfl, HA, HR⟩ := hrel
    by_cases hj4 : j < 4
    · have hcc := hat.out.1 j hj4
      have hcb := hat.out.2 j hj4
      have y0 := HR.out.2.2.1.cell (j * 2) hcc.1
      have y1 := HR.out.2.2.1.cell (j * 2 + 1) hcc.2
      have x0 := HR.out.1.cell 0 rfl
      have x1 := HR.out.1.cell 1 rfl
      have z0 := HR.out.2.1.cell 0 rfl
      have z1 := HR.out.2.1.cell 1 rfl
      have xl := HR.out.1.lt
      have zl := HR.out.2.1.lt
      have yl := HR.out.2.2.1.lt
      have hx := hX.out j
      clear hcc
      generalize hcj : cornB l h j = cj at *
      obtain ⟨c1, c2⟩ := cj
      simp only at hx hcb hd1 hd2 hp1 hp2
      have m1 := mulbd (q1 - p1) (c2 - p2) 33554432 34359738368 hd1 (by omega)
      have m2 := mulbd (q2 - p2) (c1 - p1) 33554432 34359738368 hd2 (by omega)
      have w1 : IntKind.i64.wrap (q1 - p1) = q1 - p1 := by rw [IntKind.wrap_i64]; omega
      have w2 : IntKind.i64.wrap (c2 - p2) = c2 - p2 := by rw [IntKind.wrap_i64]; omega
      have w3 : IntKind.i64.wrap (q2 - p2) = q2 - p2 := by rw [IntKind.wrap_i64]; omega
      have w4 : IntKind.i64.wrap (c1 - p1) = c1 - p1 := by rw [IntKind.wrap_i64]; omega
      have w5 : IntKind.i64.wrap ((q1 - p1) * (c2 - p2)) = (q1 - p1) * (c2 - p2) := by rw [IntKind.wrap_i64]; omega
      have w6 : IntKind.i64.wrap ((q2 - p2) * (c1 - p1)) = (q2 - p2) * (c1 - p1) := by rw [IntKind.wrap_i64]; omega
      have w7 : IntKind.i64.wrap ((q1 - p1) * (c2 - p2) - (q2 - p2) * (c1 - p1)) = crossZ (p1, p2) (q1, q2) (c1, c2) := by rw [IntKind.wrap_i64, hx]; omega
      have HC := Hid.mk (And.intro hcj hx)
      clear hcj hx m1 m2 hcb hd1 hd2 hp1 hp2
      by_cases hneg : crossZ (p1, p2) (q1, q2) (c1, c2) < 0
      · have k1 : decide (0 ≤ crossZ (p1, p2) (q1, q2) (c1, c2)) = false := decide_eq_false (by omega)
        go_wp2_with fail
        go_roundw
        case rel =>
          refine ⟨j + 1, by omega, by go_num, Hid.mk (fun i hi => ?_), Hid.mk ⟨HR.out.1.alloc _, HR.out.2.1.alloc _, HR.out.2.2.1.alloc _, HR.out.2.2.2.alloc _⟩⟩
          rcases Nat.lt_or_ge i j with h1 | h1
          · exact HA.out i h1
          · obtain rfl : i = j := by omega
            rw [HC.out.1]; exact hneg
        case measure => simp [intOf]; omega
      · have k1 : decide (0 ≤ crossZ (p1, p2) (q1, q2) (c1, c2)) = true := decide_eq_true (by omega)
        have hf : OO = false := by
          cases hOO : OO with
          | false => rfl
          | true => exact absurd (by have := hO.out.1 hOO j hj4; rw [HC.out.1] at this; exact this) hneg
        subst hf
        have H2 := Hid.mk HR.out.2.2.2
        clear HR
        go_wp2_with fail
        go_ret
        exact ⟨rfl, H2.out.alloc _⟩
    · obtain rfl : j = 4 := by omega
      have hf : OO = true := hO.out.2 HA.out
      subst hf
      have H2 := Hid.mk HR.out.2.2.2
      clear HR
      go_wp2_with fail
      go_ret
      exact ⟨rfl, H2.out⟩

end Go.Proofs.YtkemmffdiclloaaGreatDoor
