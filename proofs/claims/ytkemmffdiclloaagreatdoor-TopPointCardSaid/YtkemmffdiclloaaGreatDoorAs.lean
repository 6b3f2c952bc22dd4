/- Joined for this seat from: XEp. -/
import Derived.Test.YtkemmffdiclloaaGreatDoorAr
set_option linter.unusedVariables false
set_option linter.unusedSimpArgs false
namespace Go.Proofs.YtkemmffdiclloaaGreatDoor
open Go.RowKit
theorem and7 (a : Nat) (ha : a < 18446744073709551616) : bits .and .u64 (a : Int) 7 = ((a % 8 : Nat) : Int) := by
  have h := u64_and_nat a 7 ha (by decide)
  have e : a &&& 7 = a % 8 := Nat.and_two_pow_sub_one_eq_mod a 3
  rw [e] at h
  exact h
theorem digit_eq (v j : Nat) (hv : v < 18446744073709551616) : bits .and .u64 ((v / 8 ^ j : Nat) : Int) 7 = ((v / 8 ^ j % 8 : Nat) : Int) := and7 _ (Nat.lt_of_le_of_lt (Nat.div_le_self _ _) hv)
theorem castdiv (v k : Nat) (Q : Int) (h : (k : Int) = Q) : ((v / k : Nat) : Int) = (v : Int) / Q := by rw [← h]; exact Int.natCast_ediv v k
set_option maxHeartbeats 4000000 in
theorem digitOf_any (v r : Nat) (hr : 1 ≤ r ∧ r ≤ 12) (hv : v < 18446744073709551616) (w : World) :
    Calls Tryz.prog 29 #[.int .u64 (v : Int), .int .i64 (r : Int)] w fun e w' => e = .returned (.int .u64 (digW v r : Int)) ∧ w' = w := by
  unfold digW
  have h12 : r = 1 ∨ r = 2 ∨ r = 3 ∨ r = 4 ∨ r = 5 ∨ r = 6 ∨ r = 7 ∨ r = 8 ∨ r = 9 ∨ r = 10 ∨ r = 11 ∨ r = 12 := by omega
  rcases h12 with rfl | rfl | rfl | rfl | rfl | rfl | rfl | rfl | rfl | rfl | rfl | rfl
  · have e0 := digit_eq v 11 hv
    rw [castdiv v (8 ^ 11) 8589934592 rfl] at e0
    generalize hV : ((v / 8 ^ (12 - 1) % 8 : Nat) : Int) = V
    have hV' : ((v / 8 ^ 11 % 8 : Nat) : Int) = V := hV
    rw [hV'] at e0
    clear hV hV'
    go_enter Tryz.func29, Tryz.ntmps29
    go_wp2_with fail
    go_ret
    exact ⟨rfl, rfl⟩
  · have e0 := digit_eq v 10 hv
    rw [castdiv v (8 ^ 10) 1073741824 rfl] at e0
    generalize hV : ((v / 8 ^ (12 - 2) % 8 : Nat) : Int) = V
    have hV' : ((v / 8 ^ 10 % 8 : Nat) : Int) = V := hV
    rw [hV'] at e0
    clear hV hV'
    go_enter Tryz.func29, Tryz.ntmps29
    go_wp2_with fail
    go_ret
    exact ⟨rfl, rfl⟩
  · have e0 := digit_eq v 9 hv
    rw [castdiv v (8 ^ 9) 134217728 rfl] at e0
    generalize hV : ((v / 8 ^ (12 - 3) % 8 : Nat) : Int) = V
    have hV' : ((v / 8 ^ 9 % 8 : Nat) : Int) = V := hV
    rw [hV'] at e0
    clear hV hV'
    go_enter Tryz.func29, Tryz.ntmps29
    go_wp2_with fail
    go_ret
    exact ⟨rfl, rfl⟩
  · have e0 := digit_eq v 8 hv
    rw [castdiv v (8 ^ 8) 16777216 rfl] at e0
    generalize hV : ((v / 8 ^ (12 - 4) % 8 : Nat) : Int) = V
    have hV' : ((v / 8 ^ 8 % 8 : Nat) : Int) = V := hV
    rw [hV'] at e0
    clear hV hV'
    go_enter Tryz.func29, Tryz.ntmps29
    go_wp2_with fail
    go_ret
    exact ⟨rfl, rfl⟩
  · have e0 := digit_eq v 7 hv
    rw [castdiv v (8 ^ 7) 2097152 rfl] at e0
    generalize hV : ((v / 8 ^ (12 - 5) % 8 : Nat) : Int) = V
    have hV' : ((v / 8 ^ 7 % 8 : Nat) : Int) = V := hV
    rw [hV'] at e0
    clear hV hV'
    go_enter Tryz.func29, Tryz.ntmps29
    go_wp2_with fail
    go_ret
    exact ⟨rfl, rfl⟩
  · have e0 := digit_eq v 6 hv
    rw [castdiv v (8 ^ 6) 262144 rfl] at e0
    generalize hV : ((v / 8 ^ (12 - 6) % 8 : Nat) : Int) = V
    have hV' : ((v / 8 ^ 6 % 8 : Nat) : Int) = V := hV
    rw [hV'] at e0
    clear hV hV'
    go_enter Tryz.func29, Tryz.ntmps29
    go_wp2_with fail
    go_ret
    exact ⟨rfl, rfl⟩
  · have e0 := digit_eq v 5 hv
    rw [castdiv v (8 ^ 5) 32768 rfl] at e0
    generalize hV : ((v / 8 ^ (12 - 7) % 8 : Nat) : Int) = V
    have hV' : ((v / 8 ^ 5 % 8 : Nat) : Int) = V := hV
    rw [hV'] at e0
    clear hV hV'
    go_enter Tryz.func29, Tryz.ntmps29
    go_wp2_with fail
    go_ret
    exact ⟨rfl, rfl⟩
  · have e0 := digit_eq v 4 hv
    rw [castdiv v (8 ^ 4) 4096 rfl] at e0
    generalize hV : ((v / 8 ^ (12 - 8) % 8 : Nat) : Int) = V
    have hV' : ((v / 8 ^ 4 % 8 : Nat) : Int) = V := hV
    rw [hV'] at e0
    clear hV hV'
    go_enter Tryz.func29, Tryz.ntmps29
    go_wp2_with fail
    go_ret
    exact ⟨rfl, rfl⟩
  · have e0 := digit_eq v 3 hv
    rw [castdiv v (8 ^ 3) 512 rfl] at e0
    generalize hV : ((v / 8 ^ (12 - 9) % 8 : Nat) : Int) = V
    have hV' : ((v / 8 ^ 3 % 8 : Nat) : Int) = V := hV
    rw [hV'] at e0
    clear hV hV'
    go_enter Tryz.func29, Tryz.ntmps29
    go_wp2_with fail
    go_ret
    exact ⟨rfl, rfl⟩
  · have e0 := digit_eq v 2 hv
    rw [castdiv v (8 ^ 2) 64 rfl] at e0
    generalize hV : ((v / 8 ^ (12 - 10) % 8 : Nat) : Int) = V
    have hV' : ((v / 8 ^ 2 % 8 : Nat) : Int) = V := hV
    rw [hV'] at e0
    clear hV hV'
    go_enter Tryz.func29, Tryz.ntmps29
    go_wp2_with fail
    go_ret
    exact ⟨rfl, rfl⟩
  · have e0 := digit_eq v 1 hv
    rw [castdiv v (8 ^ 1) 8 rfl] at e0
    generalize hV : ((v / 8 ^ (12 - 11) % 8 : Nat) : Int) = V
    have hV' : ((v / 8 ^ 1 % 8 : Nat) : Int) = V := hV
    rw [hV'] at e0
    clear hV hV'
    go_enter Tryz.func29, Tryz.ntmps29
    go_wp2_with fail
    go_ret
    exact ⟨rfl, rfl⟩
  · have e0 := digit_eq v 0 hv
    rw [Nat.pow_zero, Nat.div_one] at e0
    generalize hV : ((v / 8 ^ (12 - 12) % 8 : Nat) : Int) = V
    have hV' : ((v / 8 ^ 0 % 8 : Nat) : Int) = V := hV
    rw [Nat.pow_zero, Nat.div_one] at hV'; rw [hV'] at e0
    clear hV hV'
    go_enter Tryz.func29, Tryz.ntmps29
    go_wp2_with fail
    go_ret
    exact ⟨rfl, rfl⟩

end Go.Proofs.YtkemmffdiclloaaGreatDoor
