/- The contract of rec.Batch. -/
import Derived.Test.YtmbmfhpdajdpfaaAnyOp
import Derived.Test.YtmbmfhpdajdpfaaText
namespace Go.Proofs.Ytmbmfhpdajdpfaa
open Go.RowKit

/-- An op's bytes. -/
def Oq.bytes (o : Oq) : List UInt8 := UInt8.ofNat (un o.kind) :: (if o.kind = 1 then o.pt.bytes else numB (un o.pt.key) 4)
def batB (l : List Oq) : List UInt8 := l.flatMap Oq.bytes
/-- What Batch says. -/
def batE (l : List Oq) : Nat := if 500 < l.length then 11 else if l.length = 0 ∨ (l.any fun o => !o.ok) = true then 1 else 0

set_option maxHeartbeats 1000000 in
set_option maxRecDepth 100000 in
theorem batch_bad (A : Option Addr) (n c : Nat) (l : List Oq) (S : Nat → Prop) (w : World) (hr : RdO w S A n l) (hc : n ≤ c) (hcm : c ≤ maxLen) (hbad : batE l ≠ 0) :
    Calls Try.prog 19 #[.slice A n c] w fun e w' => e = .returned (.tuple #[.slice none 0 0, .int .i64 (batE l : Nat)]) ∧ Chg Nil w w' := by
  obtain rfl := hr.len
  unfold batE at *
  by_cases h5 : 500 < l.length
  · simp only [h5, if_true]
    clear hr hbad
    go_enter Try.func19, Try.ntmps19
    go_wp2_with fail
    all_goals (go_ret2; exact ⟨rfl, Chg.refl _ _⟩)
  · simp only [h5, if_false] at hbad ⊢
    by_cases h0 : l.length = 0
    · have hl : l = [] := List.length_eq_zero_iff.1 h0
      subst hl
      clear hr hbad
      simp only [List.length_nil, true_or, if_true]
      go_enter Try.func19, Try.ntmps19
      go_wp2_with fail
      all_goals (go_ret2; exact ⟨rfl, Chg.refl _ _⟩)
    · have hany : (l.any fun o => !o.ok) = true := by
        by_cases h : (l.any fun o => !o.ok) = true
        · exact h
        · simp [h0, h] at hbad
      simp only [hany, or_true, if_true]
      have H := Hid.mk (And.intro hany (fun W hW => contains_any A l.length c l S W (Rds.keep hr hW fun _ _ h => h) hc hcm))
      clear hr hbad hany
      have hlen : decide (500 < (l.length : Int)) = false := decide_eq_false (by omega)
      have hne : ((l.length : Int) == 0) = false := by simpa using h0
      go_enter Try.func19, Try.ntmps19
      go_wp2_with fail
      refine (H.out.2 _ (Chg.refl Nil _)).mono ?_
      rintro e w1 ⟨rfl, hc1⟩
      rw [H.out.1]
      have HC := Hid.mk hc1
      clear hc1
      go_wp2_with fail
      all_goals (go_ret2; exact ⟨rfl, HC.out⟩)
end Go.Proofs.Ytmbmfhpdajdpfaa
