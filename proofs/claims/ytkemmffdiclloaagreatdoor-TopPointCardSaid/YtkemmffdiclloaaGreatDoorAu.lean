/- Joined for this seat from: XEr. -/
import Derived.Test.YtkemmffdiclloaaGreatDoorAt
set_option linter.unusedVariables false
set_option linter.unusedSimpArgs false
namespace Go.Proofs.YtkemmffdiclloaaGreatDoor
open Go.RowKit
theorem box4 (w : World) (t0 t1 t2 t3 : TypeId) (c0 c1 c2 c3 : Array Value) : Bk ((((w.alloc (.cells c0 t0)).alloc (.cells c1 t1)).alloc (.cells c2 t2)).alloc (.cells c3 t3)) w.heap.size t0 c0 ∧
    Bk ((((w.alloc (.cells c0 t0)).alloc (.cells c1 t1)).alloc (.cells c2 t2)).alloc (.cells c3 t3)) (w.heap.size + 1) t1 c1 ∧ Bk ((((w.alloc (.cells c0 t0)).alloc (.cells c1 t1)).alloc (.cells c2 t2)).alloc (.cells c3 t3)) (w.heap.size + 1 + 1) t2 c2 ∧
    Bk ((((w.alloc (.cells c0 t0)).alloc (.cells c1 t1)).alloc (.cells c2 t2)).alloc (.cells c3 t3)) (w.heap.size + 1 + 1 + 1) t3 c3 ∧ Chg Nil w ((((w.alloc (.cells c0 t0)).alloc (.cells c1 t1)).alloc (.cells c2 t2)).alloc (.cells c3 t3)) := by
  have h := box3 w t0 t1 t2 c0 c1 c2
  refine ⟨h.1.alloc _, h.2.1.alloc _, h.2.2.1.alloc _, ?_, h.2.2.2.alloc _⟩
  have h2 := Bk.new (((w.alloc (.cells c0 t0)).alloc (.cells c1 t1)).alloc (.cells c2 t2)) t3 c3
  simpa using h2
def boxV (l0 l1 h0 h1 : Int) : Value := .agg #[.int .i64 l0, .int .i64 l1, .int .i64 h0, .int .i64 h1]
def Boxed (l0 l1 h0 h1 : Int) : Prop := -2147483648 ≤ l0 ∧ -2147483648 ≤ l1 ∧ h0 ≤ 2147483648 ∧ h1 ≤ 2147483648 ∧ l0 ≤ h0 ∧ l1 ≤ h1
/-- The cells behind j rounds. -/
def thC (l0 l1 h0 h1 : Int) : Nat → Array Value
  | 0 => #[.int .i64 0, .int .i64 0, .int .i64 0, .int .i64 0]
  | 1 => #[.int .i64 (3 * l0), .int .i64 0, .int .i64 (3 * h0), .int .i64 0]
  | _ => #[.int .i64 (3 * l0), .int .i64 (3 * l1), .int .i64 (3 * h0), .int .i64 (3 * h1)]
set_option maxHeartbeats 4000000 in
theorem inThirds_any (l0 l1 h0 h1 : Int) (h : Boxed l0 l1 h0 h1) (w : World) :
    Calls Tryz.prog 40 #[pV (l0, l1), pV (h0, h1)] w fun e w' => e = .returned (.tuple #[boxV (3 * l0) (3 * l1) (3 * h0) (3 * h1), .bool true]) ∧ Chg Nil w w' := by
  obtain ⟨a1, a2, a3, a4, a5, a6⟩ := h
  have d1 : decide (l0 < -2147483648) = false := decide_eq_false (by omega)
  have d2 : decide (l1 < -2147483648) = false := decide_eq_false (by omega)
  have d3 : decide (2147483648 < h0) = false := decide_eq_false (by omega)
  have d4 : decide (2147483648 < h1) = false := decide_eq_false (by omega)
  have d5 : decide (h0 < l0) = false := decide_eq_false (by omega)
  have d6 : decide (h1 < l1) = false := decide_eq_false (by omega)
  have m1 : IntKind.i64.wrap (3 * l0) = 3 * l0 := by rw [IntKind.wrap_i64]; omega
  have m2 : IntKind.i64.wrap (3 * l1) = 3 * l1 := by rw [IntKind.wrap_i64]; omega
  have m3 : IntKind.i64.wrap (3 * h0) = 3 * h0 := by rw [IntKind.wrap_i64]; omega
  have m4 : IntKind.i64.wrap (3 * h1) = 3 * h1 := by rw [IntKind.wrap_i64]; omega
  unfold pV boxV
  go_enter Tryz.func40, Tryz.ntmps40
  go_wp2_with fail
  have hB := box4 w 37 37 92 92 #[.int .i64 l0, .int .i64 l1] #[.int .i64 h0, .int .i64 h1] #[.int .i64 0, .int .i64 0, .int .i64 0, .int .i64 0] #[.int .i64 0, .int .i64 0, .int .i64 0, .int .i64 0]
  have HB := Hid.mk hB
  clear hB
  go_loopw [8] (fun v8 wr => ∃ j : Nat, j ≤ 2 ∧ v8 = .int .i64 (j : Int) ∧ Hid (Bk wr w.heap.size 37 #[.int .i64 l0, .int .i64 l1] ∧ Bk wr (w.heap.size + 1) 37 #[.int .i64 h0, .int .i64 h1] ∧ Bk wr (w.heap.size + 1 + 1) 92 #[.int .i64 0, .int .i64 0, .int .i64 0, .int .i64 0] ∧ Bk wr (w.heap.size + 1 + 1 + 1) 92 (thC l0 l1 h0 h1 j) ∧ Chg Nil w wr)) (fun v8 _ => 2 - (intOf v8).toNat)
  case atStart => exact ⟨0, by omega, rfl, HB⟩
  case round =>
    obtain ⟨j, hj, rfl, HR⟩ := hrel
    have h3 : j = 0 ∨ j = 1 ∨ j = 2 := by omega
    rcases h3 with rfl | rfl | rfl
    · have x0 := HR.out.1.cell 0 rfl
      have x1 := HR.out.2.1.cell 0 rfl
      have x2 := HR.out.2.2.2.1.cell 0 rfl
      have x3 := HR.out.2.2.2.1.cell 2 rfl
      have xf := fun i => HR.out.2.2.2.1.free i
      have xl := HR.out.2.2.2.1.lt
      go_wp2_with fail
      go_quiet (fail)
      go_wp2_with fail
      go_region
      go_wp2_with fail
      go_roundw
      case rel =>
        refine ⟨1, by omega, rfl, Hid.mk ⟨?_, ?_, ?_, ?_, ?_⟩⟩
        · exact (((HR.out.1.drewN _).far (by simp; try omega) _).far (by simp; try omega) _)
        · exact (((HR.out.2.1.drewN _).far (by simp; try omega) _).far (by simp; try omega) _)
        · exact (((HR.out.2.2.1.drewN _).far (by simp; try omega) _).far (by simp; try omega) _)
        · exact (((HR.out.2.2.2.1.drewN _).set 0 (.int .i64 (3 * l0))).set 2 (.int .i64 (3 * h0)))
        · exact (((HR.out.2.2.2.2.drewN _).setCell (fun h => by simp at h; try omega) _).setCell (fun h => by simp at h; try omega) _)
      case measure => simp [intOf]
    · have x0 := HR.out.1.cell 1 rfl
      have x1 := HR.out.2.1.cell 1 rfl
      have x2 := HR.out.2.2.2.1.cell 1 rfl
      have x3 := HR.out.2.2.2.1.cell 3 rfl
      have xf := fun i => HR.out.2.2.2.1.free i
      have xl := HR.out.2.2.2.1.lt
      go_wp2_with fail
      go_quiet (fail)
      go_wp2_with fail
      go_region
      go_wp2_with fail
      go_roundw
      case rel =>
        refine ⟨2, by omega, rfl, Hid.mk ⟨?_, ?_, ?_, ?_, ?_⟩⟩
        · exact (((HR.out.1.drewN _).far (by simp; try omega) _).far (by simp; try omega) _)
        · exact (((HR.out.2.1.drewN _).far (by simp; try omega) _).far (by simp; try omega) _)
        · exact (((HR.out.2.2.1.drewN _).far (by simp; try omega) _).far (by simp; try omega) _)
        · exact (((HR.out.2.2.2.1.drewN _).set 1 (.int .i64 (3 * l1))).set 3 (.int .i64 (3 * h1)))
        · exact (((HR.out.2.2.2.2.drewN _).setCell (fun h => by simp at h; try omega) _).setCell (fun h => by simp at h; try omega) _)
      case measure => simp [intOf]
    · have x0 : wr.cell? { block := w.heap.size + 1 + 1 + 1, off := 0 } = some (.int .i64 (3 * l0)) := HR.out.2.2.2.1.cell 0 rfl
      have x1 : wr.cell? { block := w.heap.size + 1 + 1 + 1, off := 1 } = some (.int .i64 (3 * l1)) := HR.out.2.2.2.1.cell 1 rfl
      have x2 : wr.cell? { block := w.heap.size + 1 + 1 + 1, off := 2 } = some (.int .i64 (3 * h0)) := HR.out.2.2.2.1.cell 2 rfl
      have x3 : wr.cell? { block := w.heap.size + 1 + 1 + 1, off := 3 } = some (.int .i64 (3 * h1)) := HR.out.2.2.2.1.cell 3 rfl
      have v0 := HR.out.2.2.1.cell 0 rfl
      have v1 := HR.out.2.2.1.cell 1 rfl
      have v2 := HR.out.2.2.1.cell 2 rfl
      have v3 := HR.out.2.2.1.cell 3 rfl
      have vf := fun i => HR.out.2.2.1.free i
      have vl := HR.out.2.2.1.lt
      have H1 := Hid.mk HR.out.2.2.2.2
      clear HR
      go_wp2_with fail
      exact bodyPost_ret (v := .tuple #[.agg #[.int .i64 (3 * l0), .int .i64 (3 * l1), .int .i64 (3 * h0), .int .i64 (3 * h1)], .bool true]) (by simp [results, Tryz.results40, go_sem, v0, v1, v2, v3]) rfl ⟨rfl, (((H1.out.setCell (fun h => by simp at h; try omega) _).setCell (fun h => by simp at h; try omega) _).setCell (fun h => by simp at h; try omega) _).setCell (fun h => by simp at h; try omega) _⟩

end Go.Proofs.YtkemmffdiclloaaGreatDoor
