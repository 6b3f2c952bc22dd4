/- One byte of a row read and stored. -/
import Derived.Test.YtmbmfhpdajdpfaaQuiet
namespace Go.Proofs.Ytmbmfhpdajdpfaa
open Go.RowKit
section
variable {w : World} {e : TypeId} {g n C : Nat} {xs : List Value}
theorem Row.cellAt (h : Row w e 1 (.slice (some ⟨g, 0, none⟩) n C) n xs) {j : Nat} (hj : j < n) : w.cell? ⟨g, j, none⟩ = xs[j]? := by
  rcases h.2 with ⟨he, _⟩ | ⟨g', cap, cur, lo, hi, he, hg, hf, hc, hm, hs, ht⟩
  · cases he
  · injection he with h1 _ h3
    injection h1 with h1
    injection h1 with h1
    subst h1 h3
    rw [cell_of_list hg, ← ht, List.getElem?_take, if_pos (by omega)]
theorem Row.freeAt (h : Row w e 1 (.slice (some ⟨g, 0, none⟩) n C) n xs) {j : Nat} (hj : j < n) : w.frozen? ⟨g, j, none⟩ = false := by
  rcases h.2 with ⟨he, _⟩ | ⟨g', cap, cur, lo, hi, he, hg, hf, hc, hm, hs, ht⟩
  · cases he
  · injection he with h1 _ h3
    injection h1 with h1
    injection h1 with h1
    subst h1 h3
    exact free_of_list hg hf (by omega)
theorem Row.stored (h : Row w e 1 (.slice (some ⟨g, 0, none⟩) n C) n xs) (j : Nat) (u : Value) : Row (w.setCell ⟨g, j, none⟩ u) e 1 (.slice (some ⟨g, 0, none⟩) n C) n (xs.set j u) := by
  refine ⟨by simpa using h.1, ?_⟩
  rcases h.2 with ⟨he, _⟩ | ⟨g', cap, cur, lo, hi, he, hg, hf, hc, hm, hs, ht⟩
  · cases he
  · injection he with h1 _ h3
    injection h1 with h1
    injection h1 with h1
    subst h1 h3
    refine .inr ⟨g, C, cur.set j u, lo, hi, rfl, ?_, by simpa using hf, hc, hm, by simpa using hs, ?_⟩
    · simp [World.setCell, Array.getElem?_modify, hg]
    · rw [← ht, List.take_set]
end
theorem xor_byte (x : UInt8) (y : Nat) (hy : y < 256) : Value.int .u8 (bits .xor .u8 (x.toNat : Int) (y : Int)) = bv (UInt8.ofNat (x.toNat ^^^ y)) := by
  have hx := x.toNat_lt
  have h := u8_xor_nat x.toNat y (by omega) hy
  have hl : x.toNat ^^^ y < 2 ^ 8 := Nat.xor_lt_two_pow (by omega) (by omega)
  rw [h, bv_ofNat, Nat.mod_eq_of_lt (by omega)]
theorem set_map_bv (l : List UInt8) (i : Nat) (b : UInt8) : (l.map bv).set i (bv b) = (l.set i b).map bv := by
  rw [List.map_set]

/-- One of three. -/
def pickL {α : Type} (i : Nat) (a b c : α) : α := if i = 0 then a else if i = 1 then b else c
theorem pick3 {w : World} {i : Nat} (hi : i < 3) {A B D : Option Addr} {n m k c d e : Nat} {S T U : Nat → Prop} {l1 l2 l3 : List UInt8} (h1 : RdB w S A n l1) (hc1 : n ≤ c) (hm1 : c ≤ maxLen) (h2 : RdB w T B m l2) (hc2 : m ≤ d) (hm2 : d ≤ maxLen)
    (h3 : RdB w U D k l3) (hc3 : k ≤ e) (hm3 : e ≤ maxLen) :
    ∃ A' n' c', (∀ h, ([Value.slice A n c, Value.slice B m d, Value.slice D k e])[i]'h = Value.slice A' n' c') ∧ n' ≤ c' ∧ c' ≤ maxLen ∧ RdB w (fun _ => True) A' n' (pickL i l1 l2 l3) := by
  match i, hi with
  | 0, _ => exact ⟨A, n, c, fun _ => rfl, hc1, hm1, h1.wider (fun _ _ _ => trivial)⟩
  | 1, _ => exact ⟨B, m, d, fun _ => rfl, hc2, hm2, h2.wider (fun _ _ _ => trivial)⟩
  | 2, _ => exact ⟨D, k, e, fun _ => rfl, hc3, hm3, h3.wider (fun _ _ _ => trivial)⟩
theorem pickL_len {i n : Nat} {l1 l2 l3 : List UInt8} (h1 : l1.length ≤ n) (h2 : l2.length ≤ n) (h3 : l3.length ≤ n) : (pickL i l1 l2 l3).length ≤ n := by
  unfold pickL
  split
  · exact h1
  · split
    · exact h2
    · exact h3
end Go.Proofs.Ytmbmfhpdajdpfaa
