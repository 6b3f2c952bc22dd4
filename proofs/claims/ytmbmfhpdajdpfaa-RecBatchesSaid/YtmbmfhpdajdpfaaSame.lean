/- SameOps of rows that are the same. -/
import Derived.Test.YtmbmfhpdajdpfaaGood
import Derived.BigQuiet
import Derived.Deep.QuietTactic
namespace Go.Proofs.Ytmbmfhpdajdpfaa
open Go.RowKit

set_option maxHeartbeats 1000000 in
set_option maxRecDepth 100000 in
theorem same_any (A1 A2 : Option Addr) (n c1 c2 : Nat) (l : List Oq) (S1 S2 : Nat → Prop) (w : World) (h1 : RdO w S1 A1 n l) (h2 : RdO w S2 A2 n l) (hn : n ≤ 9223372036854775807) :
    Calls Try.prog 25 #[.slice A1 n c1, .slice A2 n c2] w fun e w' => e = .returned (.bool true) ∧ Chg Nil w w' := by
  have hl := h1.len
  have HR := Hid.mk (And.intro h1 h2)
  clear h1 h2
  go_enter Try.func25, Try.ntmps25
  go_wp2_with fail
  go_loopw [5] (fun i wr => ∃ k : Nat, k ≤ n ∧ i = .int .i64 (k : Int) ∧ Chg Nil w wr) (fun i _ => n - (intOf i).toNat)
  case atStart => exact ⟨0, Nat.zero_le _, rfl, Chg.refl _ _⟩
  case round =>
    obtain ⟨k, hk, rfl, hch⟩ := hrel
    by_cases hlt : k < n
    · obtain ⟨b, off, rfl, _, hat⟩ := HR.out.1.at5 (by omega)
      obtain ⟨b', off', rfl, _, hat'⟩ := HR.out.2.at5 (by omega)
      have ho : l[k]? = some (l[k]'(by omega)) := List.getElem?_eq_getElem (by omega)
      generalize l[k]'(by omega) = o at ho
      obtain ⟨kd, ky, x, y, v⟩ := o
      have x0 := fun nq => (hat (wr.drewN nq) (hch.drewN nq) k kd ky x y v ho).1
      have x1 := fun nq => (hat (wr.drewN nq) (hch.drewN nq) k kd ky x y v ho).2.1
      have x2 := fun nq => (hat (wr.drewN nq) (hch.drewN nq) k kd ky x y v ho).2.2.1
      have x3 := fun nq => (hat (wr.drewN nq) (hch.drewN nq) k kd ky x y v ho).2.2.2.1
      have x4 := fun nq => (hat (wr.drewN nq) (hch.drewN nq) k kd ky x y v ho).2.2.2.2
      have y0 := fun nq => (hat' (wr.drewN nq) (hch.drewN nq) k kd ky x y v ho).1
      have y1 := fun nq => (hat' (wr.drewN nq) (hch.drewN nq) k kd ky x y v ho).2.1
      have y2 := fun nq => (hat' (wr.drewN nq) (hch.drewN nq) k kd ky x y v ho).2.2.1
      have y3 := fun nq => (hat' (wr.drewN nq) (hch.drewN nq) k kd ky x y v ho).2.2.2.1
      have y4 := fun nq => (hat' (wr.drewN nq) (hch.drewN nq) k kd ky x y v ho).2.2.2.2
      have HK := Hid.mk hch
      clear hch hat hat' ho
      go_wp2_with fail
      go_quiet (fail)
      go_wp2_with fail
      go_roundw
      case rel => exact ⟨k + 1, by omega, by go_num, HK.out.drewN _⟩
      case measure => simp [intOf]; omega
    · have hkn : k = n := by omega
      subst hkn
      have HK := Hid.mk hch
      clear hch
      go_wp2_with fail
      go_ret
      exact ⟨rfl, HK.out⟩
end Go.Proofs.Ytmbmfhpdajdpfaa
