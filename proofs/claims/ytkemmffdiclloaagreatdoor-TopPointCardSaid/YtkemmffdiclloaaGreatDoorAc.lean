/- Joined for this seat from: XEa. -/
import Derived.Shelf.Bits.Mul64
import Derived.Shelf.Spec.BitsCarry
import Derived.Test.YtkemmffdiclloaaGreatDoorAb
set_option linter.unusedVariables false
set_option linter.unusedSimpArgs false
namespace Go.Proofs.YtkemmffdiclloaaGreatDoor
open Go.RowKit

/-- The two halves of a number. -/
def hiW (n : Int) : Int := n / 18446744073709551616
def loW (n : Int) : Int := n % 18446744073709551616
def wideV (n : Int) : Value := .agg #[.int .i64 (hiW n), .int .u64 (loW n)]
def eV (a b : Int) : Value := .agg #[.int .i64 a, .int .i64 b]
set_option maxHeartbeats 1000000 in
theorem mul64_any (x y : Nat) (hx : x < 18446744073709551616) (hy : y < 18446744073709551616) (w : World) :
    Calls Tryz.prog 128 #[.int .u64 x, .int .u64 y] w fun e w' => e = .returned (.tuple #[.int .u64 ((x * y / 18446744073709551616 : Nat) : Int), .int .u64 ((x * y % 18446744073709551616 : Nat) : Int)]) ∧ w' = w := by
  obtain ⟨bd, bt, bw, hhi⟩ := Lib.mul64_hi x y hx hy
  have ba := Lib.half_mul_le (a := x / 4294967296) (b := y / 4294967296) (by omega) (by omega)
  have bb := Lib.half_mul_le (a := x / 4294967296) (b := y % 4294967296) (by omega) (by omega)
  have bc := Lib.half_mul_le (a := x % 4294967296) (b := y / 4294967296) (by omega) (by omega)
  have ba' : x / 4294967296 * (y / 4294967296) < 18446744073709551616 := by omega
  have bb' : x / 4294967296 * (y % 4294967296) < 18446744073709551616 := by omega
  have bc' : x % 4294967296 * (y / 4294967296) < 18446744073709551616 := by omega
  have bh1 : x / 4294967296 * (y / 4294967296) + (x / 4294967296 * (y % 4294967296) + x % 4294967296 * (y % 4294967296) / 4294967296) / 4294967296 < 18446744073709551616 := by omega
  have bh : x / 4294967296 * (y / 4294967296) + (x / 4294967296 * (y % 4294967296) + x % 4294967296 * (y % 4294967296) / 4294967296) / 4294967296 + ((x / 4294967296 * (y % 4294967296) + x % 4294967296 * (y % 4294967296) / 4294967296) % 4294967296 + x % 4294967296 * (y / 4294967296)) / 4294967296 < 18446744073709551616 := by omega
  go_enter Tryz.func128, Tryz.ntmps128
  go_wp2
  simp only [Mul64.maskN x hx, Mul64.maskN y hy, Mul64.divN, Mul64.mulN, Mul64.addN, Mul64.wrapN _ bd, Mul64.wrapN _ bb', Mul64.wrapN _ bt, Mul64.maskN _ bt, Mul64.wrapN _ bc', Mul64.wrapN _ bw, Mul64.wrapN _ ba', Mul64.wrapN _ bh1, Mul64.wrapN _ bh, Mul64.wrapM (x * y)]
  rw [hhi]
  go_ret2
  exact ⟨rfl, rfl⟩
theorem add64_run (x y : Int) (hx : 0 ≤ x) (hy : 0 ≤ y) (W : World) :
    (callFunc 127 #[.int .u64 x, .int .u64 y, .int .u64 0]).run Tryz.prog W = .ok (.value (.tuple #[.int .u64 ((x + y) % 18446744073709551616), .int .u64 ((x + y) / 18446744073709551616)])) W := by
  rw [run_callFunc_extern Tryz.func127 (by kernel_rfl) (by kernel_rfl) (by kernel_rfl) (e := add64Entry) (by kernel_rfl), run_add64 x y 0 hx hy (by omega) (by omega), Int.add_zero]
  rfl
theorem sub64_run (x y : Int) (hx : 0 ≤ x) (hy : 0 ≤ y) (hx2 : x < 18446744073709551616) (hy2 : y < 18446744073709551616) (W : World) :
    (callFunc 129 #[.int .u64 x, .int .u64 y, .int .u64 0]).run Tryz.prog W = .ok (.value (.tuple #[.int .u64 ((x - y) % 18446744073709551616), .int .u64 (if x < y then 1 else 0)])) W := by
  obtain ⟨X, rfl⟩ := Int.eq_ofNat_of_zero_le hx
  obtain ⟨Y, rfl⟩ := Int.eq_ofNat_of_zero_le hy
  have h := run_sub64 (P := Tryz.prog) X Y 0 (by omega) W
  rw [run_callFunc_extern Tryz.func129 (by kernel_rfl) (by kernel_rfl) (by kernel_rfl) (e := sub64Entry) (by kernel_rfl)]
  have h0 : ((0 : Nat) : Int) = 0 := rfl
  rw [h0] at h
  rw [h]
  simp only [Result.andThen]
  have e1 : (((X + 18446744073709551616 - Y - 0) % 18446744073709551616 : Nat) : Int) = ((X : Int) - Y) % 18446744073709551616 := by omega
  have e2 : ((if X < Y + 0 then 1 else 0 : Nat) : Int) = if (X : Int) < (Y : Int) then 1 else 0 := by split <;> split <;> omega
  rw [e1, e2]
/-- Small enough that no half wraps. -/
def Tame (n : Int) : Prop := -21267647932558653966460912964485513216 ≤ n ∧ n ≤ 21267647932558653966460912964485513216
theorem hiW_bd {n : Int} (h : Tame n) : -1152921504606846976 ≤ hiW n ∧ hiW n ≤ 1152921504606846976 := by unfold hiW; unfold Tame at h; omega
theorem loW_bd (n : Int) : 0 ≤ loW n ∧ loW n < 18446744073709551616 := by unfold loW; omega
set_option maxHeartbeats 1000000 in
theorem plus_any (m n : Int) (hm : Tame m) (hn : Tame n) (w : World) :
    Calls Tryz.prog 67 #[wideV m, wideV n] w fun e w' => e = .returned (wideV (m + n)) ∧ Chg Nil w w' := by
  have e1 : hiW (m + n) = hiW m + hiW n + (loW m + loW n) / 18446744073709551616 := by unfold hiW loW; omega
  have e2 : loW (m + n) = (loW m + loW n) % 18446744073709551616 := by unfold loW; omega
  obtain ⟨a1, a2⟩ := hiW_bd hm
  obtain ⟨a3, a4⟩ := hiW_bd hn
  obtain ⟨b1, b2⟩ := loW_bd m
  obtain ⟨b3, b4⟩ := loW_bd n
  unfold wideV
  rw [e1, e2]
  generalize hiW m = a at *
  generalize hiW n = b at *
  generalize loW m = c at *
  generalize loW n = d at *
  clear e1 e2 hm hn
  have hr := add64_run c d b1 b3
  have c1 : 0 ≤ (c + d) / 18446744073709551616 := by omega
  have c2 : (c + d) / 18446744073709551616 ≤ 1 := by omega
  have c3 : 0 ≤ (c + d) % 18446744073709551616 := by omega
  generalize (c + d) / 18446744073709551616 = q at *
  generalize (c + d) % 18446744073709551616 = r at *
  go_enter Tryz.func67, Tryz.ntmps67
  go_wp2_with fail
  exact bodyPost_ret (v := .agg #[.int .i64 (a + b + q), .int .u64 r]) (by simp [results, Tryz.results67, go_sem]) rfl ⟨rfl, (by repeat (first | exact Chg.refl _ _ | refine Chg.alloc ?_ _ | refine Chg.setCell ?_ (fun h => absurd h (by simp)) _))⟩
set_option maxHeartbeats 1000000 in
theorem minus_any (m n : Int) (hm : Tame m) (hn : Tame n) (w : World) :
    Calls Tryz.prog 69 #[wideV m, wideV n] w fun e w' => e = .returned (wideV (m - n)) ∧ Chg Nil w w' := by
  have e1 : hiW (m - n) = hiW m - hiW n - (if loW m < loW n then 1 else 0) := by unfold hiW loW; split <;> omega
  have e2 : loW (m - n) = (loW m - loW n) % 18446744073709551616 := by unfold loW; omega
  obtain ⟨a1, a2⟩ := hiW_bd hm
  obtain ⟨a3, a4⟩ := hiW_bd hn
  obtain ⟨b1, b2⟩ := loW_bd m
  obtain ⟨b3, b4⟩ := loW_bd n
  unfold wideV
  rw [e1, e2]
  generalize hiW m = a at *
  generalize hiW n = b at *
  generalize loW m = c at *
  generalize loW n = d at *
  clear e1 e2 hm hn
  have hr := sub64_run c d b1 b3 b2 b4
  have c1 : (0 : Int) ≤ (if c < d then 1 else 0) := by split <;> omega
  have c2 : (if c < d then (1 : Int) else 0) ≤ 1 := by split <;> omega
  have c3 : 0 ≤ (c - d) % 18446744073709551616 := by omega
  generalize (if c < d then (1 : Int) else 0) = q at *
  generalize (c - d) % 18446744073709551616 = r at *
  go_enter Tryz.func69, Tryz.ntmps69
  go_wp2_with fail
  exact bodyPost_ret (v := .agg #[.int .i64 (a - b - q), .int .u64 r]) (by simp [results, Tryz.results69, go_sem]) rfl ⟨rfl, (by repeat (first | exact Chg.refl _ _ | refine Chg.alloc ?_ _ | refine Chg.setCell ?_ (fun h => absurd h (by simp)) _))⟩
set_option maxHeartbeats 1000000 in
theorem short_any (n : Int) (h1 : -9223372036854775808 ≤ n) (h2 : n ≤ 9223372036854775807) (w : World) :
    Calls Tryz.prog 70 #[wideV n] w fun e w' => e = .returned (.tuple #[.int .i64 n, .bool true]) ∧ Chg Nil w w' := by
  unfold wideV hiW loW
  rcases Int.lt_or_le n 0 with h | h
  · have e1 : n / 18446744073709551616 = -1 := by omega
    have e2 : n % 18446744073709551616 = n + 18446744073709551616 := by omega
    rw [e1, e2]
    have e3 : IntKind.i64.wrap (n + 18446744073709551616) = n := by rw [IntKind.wrap_i64]; omega
    go_enter Tryz.func70, Tryz.ntmps70
    go_wp2_with fail
    go_ret2
    exact ⟨rfl, (by repeat (first | exact Chg.refl _ _ | refine Chg.alloc ?_ _ | refine Chg.setCell ?_ (fun h => absurd h (by simp)) _))⟩
  · have e1 : n / 18446744073709551616 = 0 := by omega
    have e2 : n % 18446744073709551616 = n := by omega
    rw [e1, e2]
    go_enter Tryz.func70, Tryz.ntmps70
    go_wp2_with fail
    go_ret2
    exact ⟨rfl, (by repeat (first | exact Chg.refl _ _ | refine Chg.alloc ?_ _ | refine Chg.setCell ?_ (fun h => absurd h (by simp)) _))⟩
theorem both_any (a b : Int) (w : World) :
    Calls Tryz.prog 71 #[.int .i64 a, .bool true, .int .i64 b, .bool true] w fun e w' => e = .returned (.tuple #[eV a b, .bool true]) ∧ Chg Nil w w' := by
  go_enter Tryz.func71, Tryz.ntmps71
  go_wp2_with fail
  exact bodyPost_ret (v := .tuple #[.agg #[.int .i64 a, .int .i64 b], .bool true]) (by simp [results, Tryz.results71, go_sem]) rfl ⟨rfl, (by repeat (first | exact Chg.refl _ _ | refine Chg.alloc ?_ _ | refine Chg.setCell ?_ (fun h => absurd h (by simp)) _))⟩
theorem mul64_int (x y : Int) (hx : 0 ≤ x) (hx2 : x < 18446744073709551616) (hy : 0 ≤ y) (hy2 : y < 18446744073709551616) (w : World) :
    Calls Tryz.prog 128 #[.int .u64 x, .int .u64 y] w fun e w' => e = .returned (.tuple #[.int .u64 (x * y / 18446744073709551616), .int .u64 (x * y % 18446744073709551616)]) ∧ w' = w := by
  obtain ⟨X, rfl⟩ := Int.eq_ofNat_of_zero_le hx
  obtain ⟨Y, rfl⟩ := Int.eq_ofNat_of_zero_le hy
  have h := mul64_any X Y (by omega) (by omega) w
  rw [← Int.natCast_mul]
  refine h.mono ?_
  rintro e w' ⟨rfl, rfl⟩
  exact ⟨by rfl, rfl⟩
def Half (n : Int) : Prop := -2305843009213693952 ≤ n ∧ n ≤ 2305843009213693952
set_option maxHeartbeats 1000000 in
theorem times_any (a b : Int) (ha : Half a) (hb : Half b) (w : World) :
    Calls Tryz.prog 68 #[.int .i64 a, .int .i64 b] w fun e w' => e = .returned (wideV (a * b)) ∧ Chg Nil w w' := by
  unfold Half at ha hb
  unfold wideV hiW loW
  have hP1 : -5316911983139663491615228241121378304 ≤ a * b ∧ a * b ≤ 5316911983139663491615228241121378304 := by
    have h1 : (a * b).natAbs ≤ 5316911983139663491615228241121378304 := by
      rw [Int.natAbs_mul]
      exact Nat.mul_le_mul (show a.natAbs ≤ 2305843009213693952 by omega) (show b.natAbs ≤ 2305843009213693952 by omega)
    omega
  rcases Int.lt_or_le a 0 with h1 | h1 <;> rcases Int.lt_or_le b 0 with h2 | h2
  · have hc := fun W => mul64_int (a + 18446744073709551616) (b + 18446744073709551616) (by omega) (by omega) (by omega) (by omega) W
    have e1 : (a + 18446744073709551616) * (b + 18446744073709551616) = a * b + 18446744073709551616 * (a + b + 18446744073709551616) := by rw [Int.add_mul, Int.mul_add, Int.mul_add]; omega
    rw [e1] at hc
    have e2 : (a * b + 18446744073709551616 * (a + b + 18446744073709551616)) / 18446744073709551616 = a * b / 18446744073709551616 + (a + b + 18446744073709551616) := by omega
    have e3 : (a * b + 18446744073709551616 * (a + b + 18446744073709551616)) % 18446744073709551616 = a * b % 18446744073709551616 := by omega
    rw [e2, e3] at hc
    have b1 : -288230376151711744 ≤ a * b / 18446744073709551616 ∧ a * b / 18446744073709551616 ≤ 288230376151711744 := by omega
    have b2 : 0 ≤ a * b % 18446744073709551616 := by omega
    have wa : IntKind.u64.wrap a = (a + 18446744073709551616) := by rw [IntKind.wrap_u64]; omega
    have wb : IntKind.u64.wrap b = (b + 18446744073709551616) := by rw [IntKind.wrap_u64]; omega
    generalize a * b / 18446744073709551616 = q at *
    generalize a * b % 18446744073709551616 = r at *
    clear hP1 e1 e2 e3
    have wh : IntKind.i64.wrap (q + (a + b + 18446744073709551616)) = q + a + b := by rw [IntKind.wrap_i64]; omega
    go_enter Tryz.func68, Tryz.ntmps68
    go_wp2_with fail
    refine (hc _).mono ?_
    rintro e w1 ⟨rfl, he⟩
    have he' := he.symm
    subst he'
    clear he hc
    go_wp2_with fail
    exact bodyPost_ret (v := .agg #[.int .i64 q, .int .u64 r]) (by simp [results, Tryz.results68, go_sem]; try omega) rfl ⟨rfl, (by repeat (first | exact Chg.refl _ _ | refine Chg.alloc ?_ _ | refine Chg.setCell ?_ (fun h => absurd h (by simp)) _))⟩
  · have hc := fun W => mul64_int (a + 18446744073709551616) b (by omega) (by omega) (by omega) (by omega) W
    have e1 : (a + 18446744073709551616) * b = a * b + 18446744073709551616 * b := by rw [Int.add_mul]
    rw [e1] at hc
    have e2 : (a * b + 18446744073709551616 * b) / 18446744073709551616 = a * b / 18446744073709551616 + b := by omega
    have e3 : (a * b + 18446744073709551616 * b) % 18446744073709551616 = a * b % 18446744073709551616 := by omega
    rw [e2, e3] at hc
    have b1 : -288230376151711744 ≤ a * b / 18446744073709551616 ∧ a * b / 18446744073709551616 ≤ 288230376151711744 := by omega
    have b2 : 0 ≤ a * b % 18446744073709551616 := by omega
    have wa : IntKind.u64.wrap a = (a + 18446744073709551616) := by rw [IntKind.wrap_u64]; omega
    have wb : IntKind.u64.wrap b = b := by rw [IntKind.wrap_u64]; omega
    generalize a * b / 18446744073709551616 = q at *
    generalize a * b % 18446744073709551616 = r at *
    clear hP1 e1 e2 e3
    have wh : IntKind.i64.wrap (q + b) = q + b := by rw [IntKind.wrap_i64]; omega
    go_enter Tryz.func68, Tryz.ntmps68
    go_wp2_with fail
    refine (hc _).mono ?_
    rintro e w1 ⟨rfl, he⟩
    have he' := he.symm
    subst he'
    clear he hc
    go_wp2_with fail
    exact bodyPost_ret (v := .agg #[.int .i64 q, .int .u64 r]) (by simp [results, Tryz.results68, go_sem]; try omega) rfl ⟨rfl, (by repeat (first | exact Chg.refl _ _ | refine Chg.alloc ?_ _ | refine Chg.setCell ?_ (fun h => absurd h (by simp)) _))⟩
  · have hc := fun W => mul64_int a (b + 18446744073709551616) (by omega) (by omega) (by omega) (by omega) W
    have e1 : a * (b + 18446744073709551616) = a * b + 18446744073709551616 * a := by rw [Int.mul_add]; omega
    rw [e1] at hc
    have e2 : (a * b + 18446744073709551616 * a) / 18446744073709551616 = a * b / 18446744073709551616 + a := by omega
    have e3 : (a * b + 18446744073709551616 * a) % 18446744073709551616 = a * b % 18446744073709551616 := by omega
    rw [e2, e3] at hc
    have b1 : -288230376151711744 ≤ a * b / 18446744073709551616 ∧ a * b / 18446744073709551616 ≤ 288230376151711744 := by omega
    have b2 : 0 ≤ a * b % 18446744073709551616 := by omega
    have wa : IntKind.u64.wrap a = a := by rw [IntKind.wrap_u64]; omega
    have wb : IntKind.u64.wrap b = (b + 18446744073709551616) := by rw [IntKind.wrap_u64]; omega
    generalize a * b / 18446744073709551616 = q at *
    generalize a * b % 18446744073709551616 = r at *
    clear hP1 e1 e2 e3
    have wh : IntKind.i64.wrap (q + a) = q + a := by rw [IntKind.wrap_i64]; omega
    go_enter Tryz.func68, Tryz.ntmps68
    go_wp2_with fail
    refine (hc _).mono ?_
    rintro e w1 ⟨rfl, he⟩
    have he' := he.symm
    subst he'
    clear he hc
    go_wp2_with fail
    exact bodyPost_ret (v := .agg #[.int .i64 q, .int .u64 r]) (by simp [results, Tryz.results68, go_sem]; try omega) rfl ⟨rfl, (by repeat (first | exact Chg.refl _ _ | refine Chg.alloc ?_ _ | refine Chg.setCell ?_ (fun h => absurd h (by simp)) _))⟩
  · have hc := fun W => mul64_int a b (by omega) (by omega) (by omega) (by omega) W
    have b1 : -288230376151711744 ≤ a * b / 18446744073709551616 ∧ a * b / 18446744073709551616 ≤ 288230376151711744 := by omega
    have b2 : 0 ≤ a * b % 18446744073709551616 := by omega
    have wa : IntKind.u64.wrap a = a := by rw [IntKind.wrap_u64]; omega
    have wb : IntKind.u64.wrap b = b := by rw [IntKind.wrap_u64]; omega
    generalize a * b / 18446744073709551616 = q at *
    generalize a * b % 18446744073709551616 = r at *
    clear hP1
    have wh : IntKind.i64.wrap (q) = q := by rw [IntKind.wrap_i64]; omega
    go_enter Tryz.func68, Tryz.ntmps68
    go_wp2_with fail
    refine (hc _).mono ?_
    rintro e w1 ⟨rfl, he⟩
    have he' := he.symm
    subst he'
    clear he hc
    go_wp2_with fail
    exact bodyPost_ret (v := .agg #[.int .i64 q, .int .u64 r]) (by simp [results, Tryz.results68, go_sem]; try omega) rfl ⟨rfl, (by repeat (first | exact Chg.refl _ _ | refine Chg.alloc ?_ _ | refine Chg.setCell ?_ (fun h => absurd h (by simp)) _))⟩

end Go.Proofs.YtkemmffdiclloaaGreatDoor
