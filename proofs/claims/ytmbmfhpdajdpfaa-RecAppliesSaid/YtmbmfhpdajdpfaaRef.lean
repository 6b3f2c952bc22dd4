/- The contracts of the document's Number, Record and RecMay, over any memory. -/
import Derived.Test.YtmbmfhpdajdpfaaMake
import Derived.Test.YtmbmfhpdajdpfaaPut
namespace Go.Proofs.Ytmbmfhpdajdpfaa
open Go.RowKit

/-- The bytes that the loop has written so far. -/
def numPre (N long k : Nat) : List Value := ((numB N long).take k).map bv ++ List.replicate (long - k) (.int .u8 0)
theorem numPre_len (N long k : Nat) (h : k ≤ long) : (numPre N long k).length = long := by
  simp [numPre, numB_len]
  omega
theorem numPre_get (N long k : Nat) (h : k < long) : (numPre N long k)[k]? = some (.int .u8 0) := by
  have hl : (((numB N long).take k).map bv).length = k := by simp [numB_len]; omega
  rw [numPre, List.getElem?_append_right (by omega), hl, Nat.sub_self]
  have : long - k = (long - k - 1) + 1 := by omega
  rw [this, List.replicate_succ]
  rfl
theorem numPre_set (N long k : Nat) (h : k < long) : (numPre N long k).set k (bv (UInt8.ofNat (N / 256 ^ (long - 1 - k)))) = numPre N long (k + 1) := by
  have hl : (((numB N long).take k).map bv).length = k := by simp [numB_len]; omega
  rw [numPre, List.set_append_right _ _ (by omega), hl, Nat.sub_self, numPre, numB_take _ _ _ h, List.map_append]
  have : long - k = (long - (k + 1)) + 1 := by omega
  rw [this, List.replicate_succ, List.set_cons_zero]
  simp

set_option maxHeartbeats 400000 in
set_option maxRecDepth 100000 in
theorem rnumber_any (N long : Nat) (w : World) (hl : long ≤ 8) :
    Calls Try.prog 37 #[.int .u64 N, .int .i64 long] w fun e w' => e = .returned (.string ⟨(numB N long).toArray⟩) ∧ Below w.heap.size w w' := by
  obtain ⟨i0, hi, hz0, hz1, hz2⟩ := info_parts Try.infoByte
  go_enter Try.func37, Try.ntmps37
  go_wp2_with (at_make; refine wpl_make rfl (.tmp 7) (.tmp 7) 30 rfl 5 i0 _ 1 Try.underlying30 hi hz0 hz1 hz2 rfl long rfl rfl (by omega) (by simp only [maxLen]; omega) ?_; intro w1 o1 c1 l1; have H1 := Hid.mk (And.intro o1 c1); clear o1 c1)
  go_loopw [6] (fun i wr => ∃ k : Nat, k ≤ long ∧ i = .int .i64 k ∧ wr.ownsRow w.heap.size 5 1 (.slice (some ⟨w.heap.size, 0, none⟩) long long) long (numPre N long k) ∧ Below w.heap.size w wr) (fun i _ => long - (intOf i).toNat)
  case atStart => exact ⟨0, Nat.zero_le _, rfl, by simpa [numPre] using H1.out.1, H1.out.2.below_nil⟩
  case round =>
    obtain ⟨k, hk, rfl, hown, hbel⟩ := hrel
    by_cases hlt : k < long
    · have hcell : wr.cell? ⟨w.heap.size, k, none⟩ = some (.int .u8 0) := (hown.cellAt k (by omega)).trans (numPre_get N long k hlt)
      have hfr := hown.frozenAt k
      have H2 := Hid.mk (And.intro hown hbel)
      clear hown hbel
      go_wp2_with fail
      go_roundw
      case rel =>
        refine ⟨k + 1, by omega, by go_num, ?_, H2.out.2.setCell (p := ⟨w.heap.size, k, none⟩) (Nat.le_refl _) _⟩
        have h := (H2.out.1.stored k (bv (UInt8.ofNat (N / 256 ^ (long - 1 - k))))).1
        rw [numPre_set N long k hlt] at h
        rw [numB_val]
        exact h
      case measure => simp [intOf]; omega
    · have : k = long := by omega
      subst this
      have hr : RdB wr (Own (.slice (some ⟨w.heap.size, 0, none⟩) k k)) (some ⟨w.heap.size, 0, none⟩) k (numB N k) := by
        have h := Rds.of_own hown
        unfold RdB
        simpa [numPre, List.take_of_length_le (show (numB N k).length ≤ k by rw [numB_len]; exact Nat.le_refl _)] using h
      have hconv := run_bytes_str (P := Try.prog) (c := k) hr 30 9 5 Try.underlying30 Try.underlying5 Try.underlying9
      have H2 := Hid.mk hbel
      clear hown hbel hr
      go_wp2_with fail
      go_ret
      exact ⟨rfl, H2.out⟩

set_option maxHeartbeats 400000 in
set_option maxRecDepth 100000 in
theorem record_any (gen : Nat) (body : List UInt8) (w : World) (hl : body.length ≤ 400000) :
    Calls Try.prog 17 #[.int .u64 gen, .string ⟨body.toArray⟩] w fun e w' => e = .returned (.string ⟨(recB gen body).toArray⟩) ∧ Below w.heap.size w w' := by
  have hrec : (⟨(recB gen body).toArray⟩ : ByteArray) = ⟨#[165]⟩ ++ ⟨(numB gen 8).toArray⟩ ++ ⟨(numB body.length 3).toArray⟩ ++ ⟨body.toArray⟩ ++ ⟨#[90]⟩ := by
    apply ByteArray.ext
    simp [recB, ByteArray.data_append]
  have e1 : (numB gen 8).length ≤ 8 := by rw [numB_len]; exact Nat.le_refl _
  have e2 : (numB body.length 3).length ≤ 3 := by rw [numB_len]; exact Nat.le_refl _
  have c1 := rnumber_any gen 8 w (by omega)
  have c2 := fun W => rnumber_any body.length 3 W (by omega)
  generalize numB gen 8 = n8 at *
  generalize numB body.length 3 = n3 at *
  generalize recB gen body = r at *
  have HH := Hid.mk hrec
  have C1 := Hid.mk c1
  have C2 := Hid.mk c2
  clear hrec c1 c2
  go_enter Try.func17, Try.ntmps17
  go_wp2_with fail
  refine (Calls.mono C1.out ?_)
  rintro e w1 ⟨rfl, b1⟩
  have B1 := Hid.mk b1
  clear b1
  go_wp2_with fail
  refine (Calls.mono (C2.out w1) ?_)
  rintro e w2 ⟨rfl, b2⟩
  have B2 := Hid.mk (B1.out.trans (b2.mono B1.out.size))
  clear b2
  go_wp2_with fail
  go_ret
  rw [HH.out]
  exact ⟨rfl, B2.out⟩
end Go.Proofs.Ytmbmfhpdajdpfaa
