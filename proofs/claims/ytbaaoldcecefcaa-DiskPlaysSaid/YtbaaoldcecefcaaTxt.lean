/- The contract of the statements' Text of layer 12. -/
import Derived.Test.YtbaaoldcecefcaaAwakeD
import Derived.Test.YtbaaoldcecefcaaCells
namespace Go.Proofs.Ytbaaoldcecefcaa
open Go.RowKit

def txtB (n : Int) (i : Nat) : UInt8 := UInt8.ofNat ((n + 7 * i + 1) % 256).toNat
/-- So many bytes of a number. -/
def txt (n : Int) (long : Nat) : List UInt8 := (List.range long).map (txtB n)
theorem txt_len (n : Int) (long : Nat) : (txt n long).length = long := by simp [txt]
def txtK (n : Int) (long k : Nat) : List UInt8 := (List.range k).map (txtB n) ++ List.replicate (long - k) 0
theorem txtK_len (n : Int) (long k : Nat) (h : k ≤ long) : (txtK n long k).length = long := by simp [txtK]; omega
theorem txtK_zero (n : Int) (long : Nat) : txtK n long 0 = List.replicate long 0 := by simp [txtK]
theorem txtK_all (n : Int) (long : Nat) : txtK n long long = txt n long := by simp [txtK, txt]
theorem txtK_set (n : Int) (long k : Nat) (h : k < long) : (txtK n long k).set k (txtB n k) = txtK n long (k + 1) := by
  unfold txtK
  rw [List.set_append_right _ _ (by simp), List.range_succ, List.map_append, List.append_assoc]
  congr 1
  simp only [List.length_map, List.length_range, Nat.sub_self]
  rw [show long - k = (long - (k + 1)) + 1 by omega, List.replicate_succ]
  rfl
theorem txtB_val (n : Int) (k : Nat) (x : Int) (h : x % 256 = (n + 7 * k + 1) % 256) : Value.int .u8 (x % 256) = bv (txtB n k) := by
  rw [bv, txtB]
  congr 1
  rw [h, UInt8.toNat_ofNat']
  omega

set_option maxHeartbeats 1000000 in
set_option maxRecDepth 100000 in
theorem text12_any (n : Int) (long : Nat) (w : World) (hl : long ≤ 1000) :
    Calls Try.prog 15 #[.int .i64 n, .int .i64 (long : Int)] w fun e w' => e = .returned (.string ⟨(txt n long).toArray⟩) ∧ Chg Nil w w' := by
  obtain ⟨i0, hi, hz0, hz1, hz2⟩ := info_parts Try.infoU8
  go_enter Try.func15, Try.ntmps15
  go_wp2_with (at_make; refine wpl_make rfl (.tmp 7) (.tmp 7) 22 rfl 5 i0 _ 1 Try.underlying22 hi hz0 hz1 hz2 rfl long rfl rfl (by omega) (by simp only [maxLen]; omega) ?_; intro w2 o2 ch2 l2; have hr2 := Row.of_own o2; have H2 := Hid.mk (And.intro hr2 ch2); clear o2 hr2 ch2)
  go_loopw [11] (fun i wr => ∃ k : Nat, k ≤ long ∧ i = .int .i64 (k : Int) ∧ Row wr 5 1 (.slice (some ⟨w.heap.size, 0, none⟩) long long) long ((txtK n long k).map bv) ∧ Chg (· = w.heap.size) w wr) (fun i _ => long - (intOf i).toNat)
  case atStart => exact ⟨0, Nat.zero_le _, rfl, by rw [txtK_zero]; have := H2.out.1; simpa [bv] using this, H2.out.2.wider (fun _ _ h => h.elim)⟩
  case round =>
    obtain ⟨k, hk, rfl, hrow, hch⟩ := hrel
    by_cases hlt : k < long
    · have hce := hrow.cellAt hlt
      have hfr := hrow.freeAt hlt
      rw [List.getElem?_map, List.getElem?_eq_getElem (by rw [txtK_len n long k hk]; exact hlt), Option.map_some, bv] at hce
      have HK := Hid.mk (And.intro hrow hch)
      clear hrow hch
      have hv : Value.int .u8 (wrap64 (wrap64 (n + 7 * (k : Int)) + 1) % 256) = bv (txtB n k) := txtB_val n k _ (by unfold wrap64; omega)
      have HV := Hid.mk hv
      clear hv
      go_wp2_with fail
      go_roundw
      case rel =>
        rw [HV.out]
        refine ⟨k + 1, by omega, by go_num, ?_, HK.out.2.setCell (p := ⟨w.heap.size, k, none⟩) (fun _ => rfl) _⟩
        have := HK.out.1.stored k (bv (txtB n k))
        rwa [set_map_bv, txtK_set _ _ _ hlt] at this
      case measure => simp [intOf]; omega
    · have : k = long := by omega
      subst this
      rw [txtK_all] at hrow
      have hcv := run_bytes_str (P := Try.prog) (c := k) (hrow.rd : RdB wr _ (some ⟨w.heap.size, 0, none⟩) k (txt n k)) 22 9 5 Try.underlying22 Try.underlying5 Try.underlying9
      have HK := Hid.mk (hch.trans (Chg.refl Nil wr) (fun _ _ h => h.elim))
      clear hrow hch
      go_wp2
      go_ret
      exact ⟨rfl, ⟨HK.out.os, HK.out.tape, HK.out.output, HK.out.size, fun i hi _ => HK.out.old i hi (by omega)⟩⟩
end Go.Proofs.Ytbaaoldcecefcaa
