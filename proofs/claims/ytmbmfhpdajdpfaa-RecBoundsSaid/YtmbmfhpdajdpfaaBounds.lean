/- The walk of RecBounds: it returns true, whatever the input. -/
import Derived.Test.YtmbmfhpdajdpfaaBatchOk
import Derived.Test.YtmbmfhpdajdpfaaAwakeR
import Derived.Test.YtmbmfhpdajdpfaaCells
namespace Go.Proofs.Ytmbmfhpdajdpfaa
open Go.RowKit

theorem Try.infoOp : (Try.prog.info? 46).map (fun i => (i.zero, i.size, i.bytes)) = some (some (.agg #[.int .i64 0, .int .i64 0, .int .i64 0, .int .i64 0, .int .i64 0]), 5, 40) := by kernel_rfl
theorem made5 (z : Value) (m : Nat) : (madeCells #[z, z, z, z, z] m).toList = List.replicate m z := by
  apply List.ext_getElem?
  intro j
  by_cases hj : j < m
  · have h5 : j % 5 < 5 := Nat.mod_lt _ (by omega)
    have h6 : [z, z, z, z, z][j % 5]?.getD default = z := by
      rcases (show j % 5 = 0 ∨ j % 5 = 1 ∨ j % 5 = 2 ∨ j % 5 = 3 ∨ j % 5 = 4 by omega) with h | h | h | h | h <;> rw [h] <;> rfl
    simp [madeCells, hj, h6]
  · simp [madeCells, hj]
def delOp (i : Nat) : Oq := ⟨2, ⟨(i : Int) + 1, 0, 0, 0⟩⟩
def dels (n : Nat) : List Oq := (List.range n).map delOp
theorem dels_len (n : Nat) : (dels n).length = n := by simp [dels]
theorem RdO_len5 (k : Nat) : ((dels k).flatMap Oq.cs).length = (dels k).length * 5 := ops_len _
def fillC (n k : Nat) : List Value := (dels k).flatMap Oq.cs ++ List.replicate ((n - k) * 5) (.int .i64 0)
theorem fillC_all (n : Nat) : fillC n n = (dels n).flatMap Oq.cs := by simp [fillC]
theorem fillC_zero (n : Nat) : fillC n 0 = List.replicate (n * 5) (.int .i64 0) := by simp [fillC, dels]
theorem delOp_ok (i : Nat) (h : i < 600) : (delOp i).ok = true := by
  have h1 : decide ((i : Int) + 1 ≥ 1) = true := decide_eq_true (by omega)
  have h2 : decide ((i : Int) + 1 ≤ 2147483648) = true := decide_eq_true (by omega)
  show (if (2 : Int) = 1 then _ else if (2 : Int) = 2 then (keyOk ((i : Int) + 1) && true) else false) = true
  rw [if_neg (by decide), if_pos rfl, keyOk, h1, h2]
  rfl
theorem dels_good (n : Nat) (h0 : 0 < n) (h : n ≤ 500) : batE (dels n) = 0 := by
  unfold batE
  rw [dels_len, if_neg (by omega), if_neg]
  rintro (h1 | h1)
  · omega
  · obtain ⟨o, ho, hb⟩ := List.any_eq_true.1 h1
    obtain ⟨i, hi, rfl⟩ := List.mem_map.1 ho
    rw [delOp_ok i (by have := List.mem_range.1 hi; omega)] at hb
    cases hb
theorem dels_many (n : Nat) (h : 500 < n) : batE (dels n) = 11 := by
  unfold batE
  rw [dels_len, if_pos h]
theorem dels_bytes (n : Nat) : (batB (dels n)).length = 5 * n := by
  induction n with
  | zero => rfl
  | succ n ih =>
    have h : dels (n + 1) = dels n ++ [delOp n] := by simp [dels, List.range_succ]
    rw [h, batB, List.flatMap_append, List.length_append]
    have h2 : (List.flatMap Oq.bytes [delOp n]).length = 5 := by simp [Oq.bytes, delOp, numB_len]
    rw [h2]
    have := ih
    unfold batB at this
    omega
section
variable {w : World} {e : TypeId} {g n C sz : Nat} {xs : List Value}
theorem Row.cellG (h : Row w e sz (.slice (some ⟨g, 0, none⟩) n C) n xs) {j : Nat} (hj : j < n * sz) : w.cell? ⟨g, j, none⟩ = xs[j]? := by
  rcases h.2 with ⟨he, _⟩ | ⟨g', cap, cur, lo, hi, he, hg, hf, hc, hm, hs, ht⟩
  · cases he
  · injection he with h1 _ h3
    injection h1 with h1
    injection h1 with h1
    subst h1 h3
    rw [cell_of_list hg, ← ht, List.getElem?_take, if_pos hj]
theorem Row.freeG (h : Row w e sz (.slice (some ⟨g, 0, none⟩) n C) n xs) {j : Nat} (hj : j < n * sz) : w.frozen? ⟨g, j, none⟩ = false := by
  rcases h.2 with ⟨he, _⟩ | ⟨g', cap, cur, lo, hi, he, hg, hf, hc, hm, hs, ht⟩
  · cases he
  · injection he with h1 _ h3
    injection h1 with h1
    injection h1 with h1
    subst h1 h3
    exact free_of_list hg hf (by have := Nat.mul_le_mul_right sz hc; omega)
theorem Row.setG (h : Row w e sz (.slice (some ⟨g, 0, none⟩) n C) n xs) (j : Nat) (u : Value) : Row (w.setCell ⟨g, j, none⟩ u) e sz (.slice (some ⟨g, 0, none⟩) n C) n (xs.set j u) := by
  refine ⟨by simpa using h.1, ?_⟩
  rcases h.2 with ⟨he, _⟩ | ⟨g', cap, cur, lo, hi, he, hg, hf, hc, hm, hs, ht⟩
  · cases he
  · injection he with h1 _ h3
    injection h1 with h1
    injection h1 with h1
    subst h1 h3
    refine .inr ⟨g, C, cur.set j u, lo, hi, rfl, ?_, by simpa using hf, hc, hm, by simpa using hs, ?_⟩
    · simp [World.setCell, Array.getElem?_modify, hg]
    · rw [← ht, List.take_set]
end

theorem fill_step (n k : Nat) (h : k < n) :
    (((((fillC n k).set (k * 5) (.int .i64 2)).set (k * 5 + 1) (.int .i64 ((k : Int) + 1))).set (k * 5 + 2) (.int .i64 0)).set (k * 5 + 3) (.int .i64 0)).set (k * 5 + 4) (.int .i64 0) = fillC n (k + 1) := by
  have hA : ((dels k).flatMap Oq.cs).length = k * 5 := by rw [RdO_len5, dels_len]
  have hd : dels (k + 1) = dels k ++ [delOp k] := by simp [dels, List.range_succ]
  have hz : List.replicate ((n - k) * 5) (Value.int .i64 0) = .int .i64 0 :: .int .i64 0 :: .int .i64 0 :: .int .i64 0 :: .int .i64 0 :: List.replicate ((n - (k + 1)) * 5) (.int .i64 0) := by
    rw [show (n - k) * 5 = (n - (k + 1)) * 5 + 1 + 1 + 1 + 1 + 1 by omega]
    simp only [List.replicate_succ]
  unfold fillC
  rw [hd, List.flatMap_append, hz]
  generalize (dels k).flatMap Oq.cs = A at *
  rw [List.set_append_right _ _ (by omega), List.set_append_right _ _ (by omega), List.set_append_right _ _ (by omega), List.set_append_right _ _ (by omega), List.set_append_right _ _ (by omega), hA,
    show k * 5 - k * 5 = 0 by omega, show k * 5 + 1 - k * 5 = 1 by omega, show k * 5 + 2 - k * 5 = 2 by omega, show k * 5 + 3 - k * 5 = 3 by omega, show k * 5 + 4 - k * 5 = 4 by omega, List.append_assoc]
  rfl
/-- Batch of one op that lies in a block of its own. -/
theorem batch_one (o : Oq) (w : World) : Calls Try.prog 19 #[.slice (some ⟨w.heap.size, 0, none⟩) 1 1] (w.alloc (.cells o.cs.toArray 46)) fun e w' => (∃ A m c, e = .returned (.tuple #[.slice A m c, .int .i64 (if o.ok then 0 else 1)])) ∧ Chg Nil w w' := by
  have hb := Bk.new w 46 o.cs.toArray
  have hA : Chg Nil w (w.alloc (.cells o.cs.toArray 46)) := (Chg.refl Nil w).alloc _
  have hr : RdO (w.alloc (.cells o.cs.toArray 46)) (fun k => k = w.heap.size) (some ⟨w.heap.size, 0, none⟩) 1 [o] := by
    refine ⟨by rw [ops_len]; rfl, fun _ => ⟨_, rfl, rfl, fun j u hu => ?_⟩⟩
    have hu' : o.cs.toArray[j]? = some u := by simpa using hu
    have := hb.cell j hu'
    unfold Addr.add
    split
    · next h0 => subst h0; exact this
    · simpa using this
  cases ho : o.ok with
  | true =>
    have h0 : batE [o] = 0 := by simp [batE, ho]
    refine (batch_ok _ 1 1 [o] _ _ hr (Nat.le_refl _) (by simp [maxLen]) h0).mono ?_
    rintro e w' ⟨v, rfl, hc, hown⟩
    obtain ⟨A, c, rfl, _, _⟩ := own_form hown
    exact ⟨⟨A, _, c, rfl⟩, hA.trans hc (fun _ _ h => h)⟩
  | false =>
    have h0 : batE [o] = 1 := by simp [batE, ho]
    refine (batch_bad _ 1 1 [o] _ _ hr (Nat.le_refl _) (by simp [maxLen]) (by rw [h0]; omega)).mono ?_
    rintro e w' ⟨rfl, hc⟩
    rw [h0]
    exact ⟨⟨none, 0, 0, rfl⟩, hA.trans hc (fun _ _ h => h)⟩
theorem batch_key (K0 : Nat) (w : World) (hK : K0 ≤ 7) : Calls Try.prog 19 #[.slice (some ⟨w.heap.size, 0, none⟩) 1 1] (w.alloc (.cells #[.int .i64 1, .int .i64 (2147483648 + ((K0 : Int) - 3)), .int .i64 0, .int .i64 0, .int .i64 2147483647] 46)) fun e w' => (∃ A m c, e = .returned (.tuple #[.slice A m c, .int .i64 (if K0 ≤ 3 then 0 else 1)])) ∧ Chg Nil w w' := by
  have h := batch_one ⟨1, ⟨2147483648 + ((K0 : Int) - 3), 0, 0, 2147483647⟩⟩ w
  have hk : Oq.ok ⟨1, ⟨2147483648 + ((K0 : Int) - 3), 0, 0, 2147483647⟩⟩ = decide (K0 ≤ 3) := by
    by_cases h3 : K0 ≤ 3
    · simp [Oq.ok, Pt.ok, keyOk, inOk, h3]; omega
    · simp [Oq.ok, Pt.ok, keyOk, inOk, h3]; omega
  rw [hk] at h
  simp only [decide_eq_true_eq] at h
  exact h
theorem batch_x (K0 : Nat) (w : World) (hK : K0 ≤ 7) : Calls Try.prog 19 #[.slice (some ⟨w.heap.size, 0, none⟩) 1 1] (w.alloc (.cells #[.int .i64 1, .int .i64 5, .int .i64 (1073741823 + ((K0 : Int) - 3)), .int .i64 0, .int .i64 (-2147483648)] 46)) fun e w' => (∃ A m c, e = .returned (.tuple #[.slice A m c, .int .i64 (if K0 ≤ 3 then 0 else 1)])) ∧ Chg Nil w w' := by
  have h := batch_one ⟨1, ⟨5, 1073741823 + ((K0 : Int) - 3), 0, -2147483648⟩⟩ w
  have hk : Oq.ok ⟨1, ⟨5, 1073741823 + ((K0 : Int) - 3), 0, -2147483648⟩⟩ = decide (K0 ≤ 3) := by
    by_cases h3 : K0 ≤ 3
    · simp [Oq.ok, Pt.ok, keyOk, inOk, h3]; omega
    · simp [Oq.ok, Pt.ok, keyOk, inOk, h3]; omega
  rw [hk] at h
  simp only [decide_eq_true_eq] at h
  exact h
theorem batch_v (K0 : Nat) (w : World) (hK : K0 ≤ 7) : Calls Try.prog 19 #[.slice (some ⟨w.heap.size, 0, none⟩) 1 1] (w.alloc (.cells #[.int .i64 1, .int .i64 5, .int .i64 0, .int .i64 0, .int .i64 (2147483647 + ((K0 : Int) - 3))] 46)) fun e w' => (∃ A m c, e = .returned (.tuple #[.slice A m c, .int .i64 (if K0 ≤ 3 then 0 else 1)])) ∧ Chg Nil w w' := by
  have h := batch_one ⟨1, ⟨5, 0, 0, 2147483647 + ((K0 : Int) - 3)⟩⟩ w
  have hk : Oq.ok ⟨1, ⟨5, 0, 0, 2147483647 + ((K0 : Int) - 3)⟩⟩ = decide (K0 ≤ 3) := by
    by_cases h3 : K0 ≤ 3
    · simp [Oq.ok, Pt.ok, keyOk, inOk, h3]; omega
    · simp [Oq.ok, Pt.ok, keyOk, inOk, h3]; omega
  rw [hk] at h
  simp only [decide_eq_true_eq] at h
  exact h
theorem put_gen (q : Nat) (w : World) (hq : q ≤ 3) : Calls Try.prog 15 #[.int .u64 ((4611686018427387904 + q : Nat) : Int), .slice none 0 0] w fun e w' => (∃ A m c, e = .returned (.tuple #[.slice A m c, .int .i64 (if q = 0 then 0 else 1)])) ∧ Below w.heap.size w w' := by
  by_cases h0 : q = 0
  · subst h0
    refine (put_ok (4611686018427387904 + 0) none 0 0 [] (fun _ => True) w RdB.nil (by omega) (by omega) (by omega)).mono ?_
    rintro e w' ⟨v, rfl, ho, hb⟩
    obtain ⟨A, c, rfl, _, _⟩ := own_form ho
    exact ⟨⟨A, _, c, rfl⟩, hb⟩
  · refine (put_arg (4611686018427387904 + q) none 0 0 w (by omega) (.inr (by omega))).mono ?_
    rintro e w' ⟨rfl, rfl⟩
    rw [if_neg h0]
    exact ⟨⟨none, 0, 0, rfl⟩, Below.refl _ _⟩
theorem put_size (A : Option Addr) (l c : Nat) (bs : List UInt8) (S : Nat → Prop) (w : World) (hr : RdB w S A l bs) : Calls Try.prog 15 #[.int .u64 1, .slice A l c] w fun e w' => (∃ A m c, e = .returned (.tuple #[.slice A m c, .int .i64 (if l ≤ 400000 then 0 else 11)])) ∧ Below w.heap.size w w' := by
  by_cases h0 : l ≤ 400000
  · rw [if_pos h0]
    refine (put_ok 1 A c l bs S w hr (by omega) (by omega) h0).mono ?_
    rintro e w' ⟨v, rfl, ho, hb⟩
    obtain ⟨A, c, rfl, _, _⟩ := own_form ho
    exact ⟨⟨A, _, c, rfl⟩, hb⟩
  · rw [if_neg h0]
    refine (put_long 1 A c l w (by omega)).mono ?_
    rintro e w' ⟨rfl, rfl⟩
    exact ⟨⟨none, 0, 0, rfl⟩, Below.refl _ _⟩

set_option maxHeartbeats 8000000 in
set_option maxRecDepth 100000 in
theorem bounds_walk (n0 k0 l0 : Int) (w : World) :
    Calls Try.prog 6 #[.int .i64 n0, .int .i64 k0, .int .i64 l0] w fun e w' => e = .returned (.bool true) ∧ Below w.heap.size w w' := by
  obtain ⟨iO, hiO, hzO, hz1O, hz2O⟩ := info_parts Try.infoOp
  have hand := i64_and_7 n0
  have hN : (n0 % 8).toNat ≤ 7 := by omega
  generalize (n0 % 8).toNat = N0 at hand hN
  have handk := i64_and_7 k0
  have hK : (k0 % 8).toNat ≤ 7 := by omega
  generalize (k0 % 8).toNat = K0 at handk hK
  have handl := i64_and_7 l0
  have hL : (l0 % 8).toNat ≤ 7 := by omega
  generalize (l0 % 8).toNat = L0 at handl hL
  obtain ⟨n, hn⟩ : ∃ n : Nat, (N0 : Int) + 496 = (n : Int) := ⟨N0 + 496, by omega⟩
  obtain ⟨l, hl⟩ : ∃ l : Nat, (L0 : Int) + 399996 = (l : Int) := ⟨L0 + 399996, by omega⟩
  have hn1 : 496 ≤ n := by omega
  have hn2 : n ≤ 503 := by omega
  have hl1 : 399996 ≤ l := by omega
  have hl2 : l ≤ 400003 := by omega
  have hwn : IntKind.i64.wrap ((N0 : Int) + 496) = (n : Int) := by rw [IntKind.wrap_i64]; omega
  obtain ⟨i0, hi, hz0, hz1, hz2⟩ := info_parts Try.infoByte
  have hand3 : bits .and .i64 ((K0 : Int) - 3) 3 = (((((K0 : Int) - 3) % 4).toNat : Nat) : Int) := i64_and_3 _
  have hq : (((K0 : Int) - 3) % 4).toNat ≤ 3 := by omega
  generalize (((K0 : Int) - 3) % 4).toNat = q at hand3 hq
  go_enter Try.func6, Try.ntmps6
  go_wp2_with (at_make; refine wpList_make_full w rfl (.tmp 34) (.tmp 34) 42 rfl w.heap.size 46 iO _ 5 Try.underlying42 hiO hzO hz1O .i64 .i64 n n n rfl rfl rfl rfl (by rw [hz2O]; omega) (by simp only [maxLen]; omega) (Nat.le_refl _) ?_; intro w1 r1 r2; have hro := Row.of_own r1; have H1 := Hid.mk (And.intro hro ((Chg.of_grown r2).wider (T := Nil) (fun _ _ h => by cases h))); clear r1 r2 hro)
  have hro1 : Row w1 46 5 (.slice (some ⟨w.heap.size, 0, none⟩) n n) n (fillC n 0) := by
    have h := H1.out.1
    rw [show (Value.agg #[.int .i64 0, .int .i64 0, .int .i64 0, .int .i64 0, .int .i64 0]).cells = #[.int .i64 0, .int .i64 0, .int .i64 0, .int .i64 0, .int .i64 0] from rfl, made5] at h
    rw [fillC_zero]
    exact h
  have H2 := Hid.mk (And.intro hro1 H1.out.2)
  clear hro1 H1
  generalize hgb : w.heap.size = gb at *
  go_loopw [38] (fun i wr => ∃ k : Nat, k ≤ n ∧ i = .int .i64 (k : Int) ∧ Row wr 46 5 (.slice (some ⟨gb, 0, none⟩) n n) n (fillC n k) ∧ Chg (· = gb) w wr) (fun i _ => n - (intOf i).toNat)
  case atStart => exact ⟨0, Nat.zero_le _, rfl, H2.out.1, H2.out.2.wider (fun _ _ h => h.elim)⟩
  case round =>
    obtain ⟨k, hk, rfl, hrow, hch⟩ := hrel
    by_cases hlt : k < n
    · have hcj : ∀ j, j < 5 → wr.cell? ⟨gb, k * 5 + j, none⟩ = some (.int .i64 0) := fun j hj => by
        rw [hrow.cellG (by omega), fillC, List.getElem?_append_right (by rw [RdO_len5, dels_len]; omega), RdO_len5, dels_len, List.getElem?_replicate, if_pos (by omega)]
      have hfj : ∀ j, j < 5 → wr.frozen? ⟨gb, k * 5 + j, none⟩ = false := fun j hj => hrow.freeG (by omega)
      have c0 : wr.cell? ⟨gb, k * 5, none⟩ = some (.int .i64 0) := hcj 0 (by omega)
      have c1 := hcj 1 (by omega)
      have c2 := hcj 2 (by omega)
      have c3 := hcj 3 (by omega)
      have c4 := hcj 4 (by omega)
      have f0 : wr.frozen? ⟨gb, k * 5, none⟩ = false := hfj 0 (by omega)
      have f1 := hfj 1 (by omega)
      have f2 := hfj 2 (by omega)
      have f3 := hfj 3 (by omega)
      have f4 := hfj 4 (by omega)
      have HK := Hid.mk (And.intro hrow hch)
      clear hrow hch hcj hfj
      go_wp2_with fail
      go_roundw
      case rel =>
        refine ⟨k + 1, by omega, by go_num, ?_, ((((HK.out.2.setCell (p := ⟨gb, k * 5, none⟩) (fun _ => rfl) _).setCell (p := ⟨gb, k * 5 + 1, none⟩) (fun _ => rfl) _).setCell (p := ⟨gb, k * 5 + 2, none⟩) (fun _ => rfl) _).setCell (p := ⟨gb, k * 5 + 3, none⟩) (fun _ => rfl) _).setCell (p := ⟨gb, k * 5 + 4, none⟩) (fun _ => rfl) _⟩
        rw [← fill_step n k hlt]
        exact ((((HK.out.1.setG _ _).setG _ _).setG _ _).setG _ _).setG _ _
      case measure => simp [intOf]; omega
    · have hkn : k = n := by omega
      subst hkn
      have hrd : RdO wr (Own (.slice (some ⟨gb, 0, none⟩) k k)) (some ⟨gb, 0, none⟩) k (dels k) := by
        have h := hrow.rd
        rw [fillC_all] at h
        exact h
      have hb0 : Below w.heap.size w wr := ⟨hch.os, hch.tape, hch.output, hch.size, fun i hi => hch.old i hi (by omega)⟩
      have HK := Hid.mk (And.intro hrd hb0)
      clear hrow hch hrd hb0
      by_cases h500 : k ≤ 500
      · go_wp2_with fail
        refine (batch_ok _ k k (dels k) _ _ HK.out.1 (Nat.le_refl _) (by simp only [maxLen]; omega) (dels_good k (by omega) h500)).mono ?_
        rintro e w3 ⟨v3, rfl, hc3, hown⟩
        obtain ⟨A3, c3, rfl, _, _⟩ := own_form hown
        rw [dels_bytes]
        have H3 := Hid.mk (HK.out.2.trans (hc3.below_nil.mono HK.out.2.size))
        clear hc3 hown
        go_wp2_with (at_make; refine wpl_make rfl (.tmp 57) (.tmp 57) 30 rfl 5 i0 _ 1 Try.underlying30 hi hz0 hz1 hz2 rfl l rfl rfl (by omega) (by simp only [maxLen]; omega) ?_; intro w4 o4 ch4 l4; have H4 := Hid.mk (And.intro o4 (H3.out.trans (ch4.below_nil.mono H3.out.size))); clear o4 ch4)
        have r4 : RdB w4 (Own (.slice (some ⟨w3.heap.size, 0, none⟩) l l)) (some ⟨w3.heap.size, 0, none⟩) l (List.replicate l (0 : UInt8)) := by
          have h := Rds.of_own H4.out.1
          unfold RdB
          simpa [bv] using h
        refine (put_size _ l l _ _ w4 r4).mono ?_
        rintro e w5 ⟨⟨A5, m5, c5, rfl⟩, hb5⟩
        have H5 := Hid.mk (H4.out.2.trans (hb5.mono H4.out.2.size))
        clear hb5 r4
        by_cases hl4 : l ≤ 400000
        all_goals
          first
            | rw [if_pos hl4]
            | rw [if_neg hl4]
          go_wp2_with fail
          refine (batch_key K0 w5 hK).mono ?_
          rintro e w6 ⟨⟨A6, m6, c6, rfl⟩, hc6⟩
          have H6 := Hid.mk (H5.out.trans (hc6.below_nil.mono H5.out.size))
          clear hc6
          by_cases hk3 : K0 ≤ 3
          all_goals
            first
              | rw [if_pos hk3]
              | rw [if_neg hk3]
            go_wp2_with fail
            refine (batch_x K0 w6 hK).mono ?_
            rintro e w7 ⟨⟨A7, m7, c7, rfl⟩, hc7⟩
            have H7 := Hid.mk (H6.out.trans (hc7.below_nil.mono H6.out.size))
            clear hc7
            first
              | rw [if_pos hk3]
              | rw [if_neg hk3]
            go_wp2_with fail
            refine (batch_v K0 w7 hK).mono ?_
            rintro e w8 ⟨⟨A8, m8, c8, rfl⟩, hc8⟩
            have H8 := Hid.mk (H7.out.trans (hc8.below_nil.mono H7.out.size))
            clear hc8
            first
              | rw [if_pos hk3]
              | rw [if_neg hk3]
            go_wp2_with fail
            rw [show (4611686018427387904 : Int) + (q : Int) = ((4611686018427387904 + q : Nat) : Int) by omega]
            refine (put_gen q w8 hq).mono ?_
            rintro e w9 ⟨⟨A9, m9, c9, rfl⟩, hb9⟩
            have H9 := Hid.mk (H8.out.trans (hb9.mono H8.out.size))
            clear hb9
            by_cases hq0 : q = 0
            all_goals
              first
                | rw [if_pos hq0]
                | rw [if_neg hq0]
              go_wp2_with fail
              refine (awakeR_any _).mono ?_
              rintro e w10 ⟨rfl, hb10⟩
              have H10 := Hid.mk (H9.out.trans (hb10.mono H9.out.size))
              clear hb10
              go_wp2_with fail
              go_ret
              exact ⟨rfl, H10.out⟩
      · go_wp2_with fail
        refine (batch_bad _ k k (dels k) _ _ HK.out.1 (Nat.le_refl _) (by simp only [maxLen]; omega) (by rw [dels_many k (by omega)]; omega)).mono ?_
        rintro e w3 ⟨rfl, hc3⟩
        rw [dels_many k (by omega)]
        have H3 := Hid.mk (HK.out.2.trans (hc3.below_nil.mono HK.out.2.size))
        clear hc3
        go_wp2_with (at_make; refine wpl_make rfl (.tmp 57) (.tmp 57) 30 rfl 5 i0 _ 1 Try.underlying30 hi hz0 hz1 hz2 rfl l rfl rfl (by omega) (by simp only [maxLen]; omega) ?_; intro w4 o4 ch4 l4; have H4 := Hid.mk (And.intro o4 (H3.out.trans (ch4.below_nil.mono H3.out.size))); clear o4 ch4)
        have r4 : RdB w4 (Own (.slice (some ⟨w3.heap.size, 0, none⟩) l l)) (some ⟨w3.heap.size, 0, none⟩) l (List.replicate l (0 : UInt8)) := by
          have h := Rds.of_own H4.out.1
          unfold RdB
          simpa [bv] using h
        refine (put_size _ l l _ _ w4 r4).mono ?_
        rintro e w5 ⟨⟨A5, m5, c5, rfl⟩, hb5⟩
        have H5 := Hid.mk (H4.out.2.trans (hb5.mono H4.out.2.size))
        clear hb5 r4
        by_cases hl4 : l ≤ 400000
        all_goals
          first
            | rw [if_pos hl4]
            | rw [if_neg hl4]
          go_wp2_with fail
          refine (batch_key K0 w5 hK).mono ?_
          rintro e w6 ⟨⟨A6, m6, c6, rfl⟩, hc6⟩
          have H6 := Hid.mk (H5.out.trans (hc6.below_nil.mono H5.out.size))
          clear hc6
          by_cases hk3 : K0 ≤ 3
          all_goals
            first
              | rw [if_pos hk3]
              | rw [if_neg hk3]
            go_wp2_with fail
            refine (batch_x K0 w6 hK).mono ?_
            rintro e w7 ⟨⟨A7, m7, c7, rfl⟩, hc7⟩
            have H7 := Hid.mk (H6.out.trans (hc7.below_nil.mono H6.out.size))
            clear hc7
            first
              | rw [if_pos hk3]
              | rw [if_neg hk3]
            go_wp2_with fail
            refine (batch_v K0 w7 hK).mono ?_
            rintro e w8 ⟨⟨A8, m8, c8, rfl⟩, hc8⟩
            have H8 := Hid.mk (H7.out.trans (hc8.below_nil.mono H7.out.size))
            clear hc8
            first
              | rw [if_pos hk3]
              | rw [if_neg hk3]
            go_wp2_with fail
            rw [show (4611686018427387904 : Int) + (q : Int) = ((4611686018427387904 + q : Nat) : Int) by omega]
            refine (put_gen q w8 hq).mono ?_
            rintro e w9 ⟨⟨A9, m9, c9, rfl⟩, hb9⟩
            have H9 := Hid.mk (H8.out.trans (hb9.mono H8.out.size))
            clear hb9
            by_cases hq0 : q = 0
            all_goals
              first
                | rw [if_pos hq0]
                | rw [if_neg hq0]
              go_wp2_with fail
              refine (awakeR_any _).mono ?_
              rintro e w10 ⟨rfl, hb10⟩
              have H10 := Hid.mk (H9.out.trans (hb10.mono H9.out.size))
              clear hb10
              go_wp2_with fail
              go_ret
              exact ⟨rfl, H10.out⟩
end Go.Proofs.Ytmbmfhpdajdpfaa
