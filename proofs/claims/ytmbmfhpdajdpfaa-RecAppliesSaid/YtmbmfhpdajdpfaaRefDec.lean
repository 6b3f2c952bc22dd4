/- The document's unpoint and Ops. -/
import Derived.Test.YtmbmfhpdajdpfaaTakePt
import Derived.Test.YtmbmfhpdajdpfaaRefScan
import Derived.Test.YtmbmfhpdajdpfaaTail
import Derived.Deep.DeepCutAuto
namespace Go.Proofs.Ytmbmfhpdajdpfaa
open Go.RowKit

theorem run_str_front {P : Program} (t : TypeId) (ht : P.underlying t = some .string) (l : List UInt8) (b : Nat) (kd' : IntKind) (hb : b ≤ l.length) (w : World) :
    (Instr.slice t (.string ⟨l.toArray⟩) none (some (.int kd' (b : Int))) none).run P w = .ok (.string ⟨(l.take b).toArray⟩) w := by
  have hs : (ByteArray.mk l.toArray).size = l.length := by simp [ByteArray.size]
  simp [Instr.slice, Instr.sliceBounds, run_underlying ht, hs, run_bound_in w kd' b l.length _ hb]
  apply ByteArray.ext
  simp [ByteArray.data_extract]
theorem unn_any (l : List UInt8) (hl : l.length ≤ 8) (w : World) : Calls Try.prog 38 #[.string ⟨l.toArray⟩] w fun e w' => e = .returned (.int .u64 (unB l : Nat)) ∧ w' = w :=
  (unnumber_any l w hl).mono fun _ _ ⟨h1, h2⟩ => ⟨h1, h2.symm⟩

set_option maxHeartbeats 2000000 in
set_option maxRecDepth 100000 in
theorem unpoint_any (bs : List UInt8) (w : World) (hl : bs.length = 16) :
    Calls Try.prog 47 #[.string ⟨bs.toArray⟩] w fun e w' => e = .returned (.agg (unPt bs).cs.toArray) ∧ Chg Nil w w' := by
  have b1 := unB4 bs
  have b2 := unB4 (bs.drop 4)
  have b3 := unB4 (bs.drop 8)
  have b4 := unB4 (bs.drop 12)
  have s1 : ∀ W, (Instr.slice 9 (.string ⟨bs.toArray⟩) none (some (.int .i64 4)) none).run Try.prog W = .ok (.string ⟨(bs.take 4).toArray⟩) W := fun W => run_str_front (P := Try.prog) 9 Try.underlying9 bs 4 .i64 (by omega) W
  have s2 : ∀ W, (Instr.slice 9 (.string ⟨bs.toArray⟩) (some (.int .i64 4)) (some (.int .i64 8)) none).run Try.prog W = .ok (.string ⟨((bs.drop 4).take 4).toArray⟩) W := fun W => run_str_part (P := Try.prog) 9 Try.underlying9 bs 4 8 .i64 .i64 (by omega) (by omega) W
  have s3 : ∀ W, (Instr.slice 9 (.string ⟨bs.toArray⟩) (some (.int .i64 8)) (some (.int .i64 12)) none).run Try.prog W = .ok (.string ⟨((bs.drop 8).take 4).toArray⟩) W := fun W => run_str_part (P := Try.prog) 9 Try.underlying9 bs 8 12 .i64 .i64 (by omega) (by omega) W
  have s4 : ∀ W, (Instr.slice 9 (.string ⟨bs.toArray⟩) (some (.int .i64 12)) (some (.int .i64 16)) none).run Try.prog W = .ok (.string ⟨((bs.drop 12).take 4).toArray⟩) W := fun W => run_str_part (P := Try.prog) 9 Try.underlying9 bs 12 16 .i64 .i64 (by omega) (by omega) W
  have r1 := Hid.mk (unn_any (bs.take 4) (by rw [List.length_take]; omega))
  have r2 := Hid.mk (unn_any ((bs.drop 4).take 4) (by rw [List.length_take]; omega))
  have r3 := Hid.mk (unn_any ((bs.drop 8).take 4) (by rw [List.length_take]; omega))
  have r4 := Hid.mk (unn_any ((bs.drop 12).take 4) (by rw [List.length_take]; omega))
  simp only [unPt, Pt.cs]
  generalize unB (bs.take 4) = N1 at *
  generalize unB ((bs.drop 4).take 4) = N2 at *
  generalize unB ((bs.drop 8).take 4) = N3 at *
  generalize unB ((bs.drop 12).take 4) = N4 at *
  have hw4 := w3264 (N4 : Int)
  generalize IntKind.i32.wrap (N4 : Int) = V4 at *
  generalize bs.take 4 = p1 at *
  generalize (bs.drop 4).take 4 = p2 at *
  generalize (bs.drop 8).take 4 = p3 at *
  generalize (bs.drop 12).take 4 = p4 at *
  clear hl
  go_enter Try.func47, Try.ntmps47
  go_upto_region 1 with fail
  have hB := Bk.new w 44 #[.int .i64 0, .int .i64 0, .int .i64 0, .int .i64 0]
  generalize hwb : w.alloc (.cells #[.int .i64 0, .int .i64 0, .int .i64 0, .int .i64 0] 44) = wb at *
  have hA : Chg Nil w wb := by rw [← hwb]; exact (Chg.refl _ _).alloc _
  have H := Hid.mk (And.intro hA hB)
  clear hB hA hwb
  refine wp_region_tail 19 (by kernel_rfl) (by kernel_rfl) ?_
  intro W hW
  have hc : Chg Nil w W := by rw [hW]; exact H.out.1.drew
  have hB : Bk W w.heap.size 44 #[.int .i64 0, .int .i64 0, .int .i64 0, .int .i64 0] := by rw [hW]; exact H.out.2
  have f0 := hB.free 0
  have f1 := hB.free 1
  have f2 := hB.free 2
  have f3 := hB.free 3
  have c0 := hB.cell 0 rfl
  have c1 := hB.cell 1 rfl
  have c2 := hB.cell 2 rfl
  have c3 := hB.cell 3 rfl
  have HW := Hid.mk (And.intro hc hB)
  clear hW hc hB
  simp only [List.take_succ_cons, List.take_zero, List.drop_succ_cons, List.drop_zero]
  repeat (first | go_big_quiet_skip | (go_big_quiet_want; go_big_quiet_op; go_big_quiet_on) | (go_big_quiet_want; go_big_quiet_op; apply Exists.intro; refine ⟨by first | (with_reducible exact r1.out _) | (with_reducible exact r2.out _) | (with_reducible exact r3.out _) | (with_reducible exact r4.out _), ?_⟩; go_big_quiet_on))
  refine wpQuiet_nil ?_
  go_wp2_with fail
  have hE : Bk ((((W.setCell ⟨w.heap.size, 0, none⟩ (.int .i64 N1)).setCell ⟨w.heap.size, 1, none⟩ (.int .i64 N2)).setCell ⟨w.heap.size, 2, none⟩ (.int .i64 N3)).setCell ⟨w.heap.size, 3, none⟩ (.int .i64 V4)) w.heap.size 44 #[.int .i64 N1, .int .i64 N2, .int .i64 N3, .int .i64 V4] := (((HW.out.2.set 0 _).set 1 _).set 2 _).set 3 _
  have hch : Chg Nil w ((((W.setCell ⟨w.heap.size, 0, none⟩ (.int .i64 N1)).setCell ⟨w.heap.size, 1, none⟩ (.int .i64 N2)).setCell ⟨w.heap.size, 2, none⟩ (.int .i64 N3)).setCell ⟨w.heap.size, 3, none⟩ (.int .i64 V4)) :=
    (((HW.out.1.setCell (fun h => absurd h (Nat.lt_irrefl _)) _).setCell (fun h => absurd h (Nat.lt_irrefl _)) _).setCell (fun h => absurd h (Nat.lt_irrefl _)) _).setCell (fun h => absurd h (Nat.lt_irrefl _)) _
  exact bodyPost_ret (results_cell_row rfl _ _ w.heap.size 44 _ (0, 0) _ rfl hE Try.underlying44 rfl (by kernel_rfl)) rfl ⟨rfl, hch⟩
end Go.Proofs.Ytmbmfhpdajdpfaa
