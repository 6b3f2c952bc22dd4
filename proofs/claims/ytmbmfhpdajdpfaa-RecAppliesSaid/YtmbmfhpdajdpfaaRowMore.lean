/- One byte of a row read and stored. -/
import Derived.Test.YtmbmfhpdajdpfaaQuiet
import Derived.Test.YtmbmfhpdajdpfaaCells
namespace Go.Proofs.Ytmbmfhpdajdpfaa
open Go.RowKit
theorem xor_byte (x : UInt8) (y : Nat) (hy : y < 256) : Value.int .u8 (bits .xor .u8 (x.toNat : Int) (y : Int)) = bv (UInt8.ofNat (x.toNat ^^^ y)) := by
  have hx := x.toNat_lt
  have h := u8_xor_nat x.toNat y (by omega) hy
  have hl : x.toNat ^^^ y < 2 ^ 8 := Nat.xor_lt_two_pow (by omega) (by omega)
  rw [h, bv_ofNat, Nat.mod_eq_of_lt (by omega)]
/-- One of three. -/
def pickL {α : Type} (i : Nat) (a b c : α) : α := if i = 0 then a else if i = 1 then b else c
theorem pick3 {w : World} {i : Nat} (hi : i < 3) {A B D : Option Addr} {n m k c d e : Nat} {S T U : Nat → Prop} {l1 l2 l3 : List UInt8} (h1 : RdB w S A n l1) (hc1 : n ≤ c) (hm1 : c ≤ maxLen) (h2 : RdB w T B m l2) (hc2 : m ≤ d) (hm2 : d ≤ maxLen)
    (h3 : RdB w U D k l3) (hc3 : k ≤ e) (hm3 : e ≤ maxLen) :
    ∃ A' n' c', (∀ h, ([Value.slice A n c, Value.slice B m d, Value.slice D k e])[i]'h = Value.slice A' n' c') ∧ n' ≤ c' ∧ c' ≤ maxLen ∧ RdB w (fun _ => True) A' n' (pickL i l1 l2 l3) := by
  match i, hi with
  | 0, _ => exact ⟨A, n, c, fun _ => rfl, hc1, hm1, h1.wider (fun _ _ _ => trivial)⟩
  | 1, _ => exact ⟨B, m, d, fun _ => rfl, hc2, hm2, h2.wider (fun _ _ _ => trivial)⟩
  | 2, _ => exact ⟨D, k, e, fun _ => rfl, hc3, hm3, h3.wider (fun _ _ _ => trivial)⟩
theorem pickL_len {i n : Nat} {l1 l2 l3 : List UInt8} (h1 : l1.length ≤ n) (h2 : l2.length ≤ n) (h3 : l3.length ≤ n) : (pickL i l1 l2 l3).length ≤ n := by
  unfold pickL
  split
  · exact h1
  · split
    · exact h2
    · exact h3
end Go.Proofs.Ytmbmfhpdajdpfaa
