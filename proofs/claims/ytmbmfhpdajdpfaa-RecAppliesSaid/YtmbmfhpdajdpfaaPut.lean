/- The contract of rec.Put: a record's bytes in new memory; an error where the body is too long, or the generation may not be. -/
import Derived.Test.YtmbmfhpdajdpfaaPlain
namespace Go.Proofs.Ytmbmfhpdajdpfaa
open Go.RowKit

set_option maxHeartbeats 400000 in
set_option maxRecDepth 100000 in
theorem put_ok (gen : Nat) (A : Option Addr) (c n : Nat) (body : List UInt8) (S : Nat → Prop) (w : World) (hr : RdB w S A n body) (hg1 : 1 ≤ gen) (hg2 : gen ≤ 4611686018427387904) (hl : n ≤ 400000) :
    Calls Try.prog 15 #[.int .u64 gen, .slice A n c] w fun e w' => ∃ v, e = .returned (.tuple #[v, .int .i64 0]) ∧ w'.ownsRow w.heap.size 5 1 v (body.length + 13) ((recB gen body).map bv) ∧ Below w.heap.size w w' := by
  obtain rfl := hr.len
  obtain ⟨i0, hi, hz0, hz1, hz2⟩ := info_parts Try.infoByte
  have h2 : decide ((4611686018427387904 : Int) < gen) = false := by simp; omega
  have HG := Hid.mk hg2
  have HR := Hid.mk hr.here
  clear hg2 hr
  go_enter Try.func15, Try.ntmps15
  go_wp2_with fail
  have o0 : (w.alloc (.cells #[.int .u8 165] 5)).ownsRow w.heap.size 5 1 (.slice (some ⟨w.heap.size, 0, none⟩) 1 1) 1 [.int .u8 165] := World.ownsRow_lit w _ _ (Nat.le_refl _) (by simp [maxLen]) rfl
  refine (number_any w.heap.size _ 1 _ gen 8 _ (by omega) (by have := HG.out; omega) (by omega) o0 (by simp)).mono ?_
  rintro e w1 ⟨v1, rfl, o1, g1⟩
  have O0 := Hid.mk o0
  have O1 := Hid.mk (And.intro o1 g1)
  clear o0 o1 g1
  go_wp2_with fail
  refine (number_any w.heap.size _ (1 + 8) _ body.length 3 w1 (by omega) (by omega) (by omega) O1.out.1 (by have := O1.out.2.chg.size; simp at this; omega)).mono ?_
  rintro e w2 ⟨v2, rfl, o2, g2⟩
  have O2 := Hid.mk (And.intro o2 (O1.out.2.trans g2))
  clear o2 g2
  have hz2' : w.heap.size + 1 ≤ w2.heap.size := by have := O2.out.2.chg.size; simpa using this
  have R2 := Hid.mk (HR.out.keep O2.out.2.alloc_left.chg (fun k hk ho => by have := own_at ho; omega))
  go_wp2_with (first
    | (at_builtin; refine wpl_append rfl (.tmp 26) (.tmp 27) 30 rfl w.heap.size 5 i0 _ 1 1 Try.underlying30 hi hz0 hz1 hz2 rfl (by omega) _ _ _ rfl O2.out.1 _ _ _ _ _ rfl R2.out (bv_one _) (by simp only [maxLen]; omega) (by omega) (by omega) ?_; intro v3 w3 o3 g3; have O3 := Hid.mk (And.intro o3 (O2.out.2.trans g3)); clear o3 g3; have hz3 : w.heap.size ≤ w3.heap.size := (by have := O3.out.2.chg.size; simp at this; omega))
    | (at_builtin; refine wpl_append rfl (.tmp 28) (.tmp 29) 30 rfl w.heap.size 5 i0 _ 1 1 Try.underlying30 hi hz0 hz1 hz2 rfl (by omega) _ _ _ rfl (O3.out.1.alloc _) _ _ _ _ _ rfl (rds_one _ _ _) (by intro u hu; simp at hu; subst hu; rfl) (by simp only [maxLen]; omega) (by omega) (by simp; omega) ?_; intro v4 w4 o4 g4; have O4 := Hid.mk (And.intro o4 (O3.out.2.trans g4.alloc_left)); clear o4 g4))
  go_ret2
  refine ⟨v4, rfl, ?_, ?_⟩
  · have h := O4.out.1
    rw [show body.length + 13 = 1 + 8 + 3 + body.length + 1 by omega]
    simpa [recB, bv] using h
  · exact O4.out.2.alloc_left.below (Below.refl _ _) (Nat.le_refl _) (fun k hk => by have := own_at hk; omega)

set_option maxHeartbeats 400000 in
set_option maxRecDepth 100000 in
theorem put_long (gen : Nat) (A : Option Addr) (c n : Nat) (w : World) (hl : 400000 < n) :
    Calls Try.prog 15 #[.int .u64 gen, .slice A n c] w fun e w' => e = .returned (.tuple #[.slice none 0 0, .int .i64 11]) ∧ w = w' := by
  go_enter Try.func15, Try.ntmps15
  go_wp2
  go_ret2
  exact ⟨rfl, rfl⟩

set_option maxHeartbeats 400000 in
set_option maxRecDepth 100000 in
theorem put_arg (gen : Nat) (A : Option Addr) (c n : Nat) (w : World) (hl : n ≤ 400000) (hg : gen < 1 ∨ 4611686018427387904 < gen) :
    Calls Try.prog 15 #[.int .u64 gen, .slice A n c] w fun e w' => e = .returned (.tuple #[.slice none 0 0, .int .i64 1]) ∧ w = w' := by
  by_cases h1 : gen < 1
  · obtain rfl : gen = 0 := by omega
    clear hg h1
    go_enter Try.func15, Try.ntmps15
    go_wp2
    go_ret2
    exact ⟨rfl, rfl⟩
  · have h2 : decide ((4611686018427387904 : Int) < gen) = true := by simp; omega
    clear hg
    go_enter Try.func15, Try.ntmps15
    go_wp2
    go_ret2
    exact ⟨rfl, rfl⟩
end Go.Proofs.Ytmbmfhpdajdpfaa
