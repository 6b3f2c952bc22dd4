/- Joined for this seat from: XStE. -/
import Derived.Test.YtanipieeegeheaaSw
namespace Go.Proofs.Ytanipieeegeheaa
open Go.RowKit

theorem dirtyOne_any (b : UInt8) (w : World) : Calls Try.prog 45 #[bv b] w fun e w' => e = .returned (.bool (b != 0)) ∧ w' = w := by
  have hb : decide ((b.toNat : Int) = 0) = !(b != 0) := by
    by_cases h : b = 0
    · subst h; rfl
    · have h1 : (b != 0) = true := by rw [bne_iff_ne]; exact h
      rw [h1]
      refine decide_eq_false fun hh => h ?_
      apply UInt8.toNat_inj.1
      show b.toNat = 0
      omega
  unfold bv
  generalize (b != 0) = t at *
  go_enter Try.func45, Try.ntmps45
  cases t with
  | true =>
    have hne : ¬ ((b.toNat : Int) = 0) := of_decide_eq_false hb
    go_wp2_with fail
    go_ret
    exact ⟨by simp; omega, rfl⟩
  | false =>
    have hne : ((b.toNat : Int) = 0) := of_decide_eq_true hb
    go_wp2_with fail
    go_ret
    exact ⟨by simp [hne], rfl⟩
set_option maxHeartbeats 1000000 in
set_option maxRecDepth 100000 in
theorem indexD_any (A : Option Addr) (n c : Nat) (l : List UInt8) (S : Nat → Prop) (w : World) (hr : RdB w S A n l) (hn : n ≤ 1000000) :
    Calls Try.prog 71 #[.slice A n c, .func (.func 45) #[] #[]] w fun e w' => ∃ r : Int, e = .returned (.int .i64 r) ∧ decide (r ≥ 0) = dirty l ∧ Chg Nil w w' := by
  have hln := hr.len
  rcases Nat.eq_zero_or_pos n with h0 | hpos
  · have hl : l = [] := List.length_eq_zero_iff.1 (by omega)
    subst hl h0
    clear hr
    go_enter Try.func71, Try.ntmps71
    go_wp2_with fail
    go_loopw [8] (fun i wr => i = .int .i64 0 ∧ wr = w) (fun _ _ => 0)
    case atStart => exact ⟨rfl, rfl⟩
    case round =>
      obtain ⟨rfl, rfl⟩ := hrel
      go_wp2_with fail
      all_goals (go_ret; exact ⟨-1, rfl, by simp [dirty], Chg.refl _ _⟩)
  · obtain ⟨b, off, rfl, hS, hlt, hcell⟩ := Rds.plain hr hpos (by omega)
    have HS := Hid.mk (And.intro hlt (And.intro hcell hln))
    clear hS hlt hcell hr hln
    go_enter Try.func71, Try.ntmps71
    go_wp2_with fail
    go_loopw [8] (fun i wr => ∃ m : Nat, m ≤ n ∧ i = .int .i64 m ∧ Hid ((∀ o ∈ l.take m, (o != 0) = false) ∧ Chg Nil w wr)) (fun i _ => n - (intOf i).toNat)
    case atStart => exact ⟨0, Nat.zero_le _, rfl, Hid.mk ⟨by simp, Chg.refl _ _⟩⟩
    case round =>
      obtain ⟨m, hm, rfl, HR⟩ := hrel
      by_cases hml : m < n
      · obtain ⟨o, ho⟩ : ∃ o, l[m]? = some o := ⟨l[m]'(by rw [HS.out.2.2]; exact hml), List.getElem?_eq_getElem (by rw [HS.out.2.2]; exact hml)⟩
        have q0 : wr.cell? ⟨b, off + m, none⟩ = some (bv o) := by
          have h1 := HS.out.2.1 m (bv o) (by rw [List.getElem?_map, ho]; rfl)
          exact HR.out.2.cell h1 (fun h => h)
        have HO := Hid.mk ho
        clear ho
        generalize hbo : (o != 0) = bo
        have HB := Hid.mk hbo
        have HD := Hid.mk (dirtyOne_any o)
        clear hbo
        unfold bv at *
        go_wp2_with fail
        refine (HD.out _).mono ?_
        rintro e w2 ⟨rfl, he⟩
        subst he
        rw [HB.out]
        cases bo
        · go_wp2_with fail
          go_roundw
          case rel =>
            refine ⟨m + 1, by omega, by go_num, Hid.mk ⟨fun q hq => ?_, HR.out.2⟩⟩
            rw [List.take_add_one, HO.out] at hq
            rcases List.mem_append.1 hq with h | h
            · exact HR.out.1 q h
            · have : q = o := by simpa using h
              rw [this]; exact HB.out
          case measure => simp [intOf]; omega
        · go_wp2_with fail
          all_goals (go_ret; refine ⟨m, rfl, ?_, HR.out.2⟩)
          all_goals
            have h1 : dirty l = true := List.any_eq_true.2 ⟨o, List.mem_of_getElem? HO.out, HB.out⟩
            rw [h1]
            exact decide_eq_true (by omega)
      · have : m = n := by omega
        subst this
        go_wp2_with fail
        all_goals (go_ret; refine ⟨-1, rfl, ?_, HR.out.2⟩)
        all_goals
          have h1 := HR.out.1
          rw [List.take_of_length_le (by rw [HS.out.2.2]; omega)] at h1
          have h2 : dirty l = false := by unfold dirty; rw [List.any_eq_false]; intro x hx; rw [h1 x hx]; decide
          rw [h2]
          rfl
set_option maxHeartbeats 1000000 in
set_option maxRecDepth 100000 in
theorem dirty_any (A : Option Addr) (n c : Nat) (l : List UInt8) (S : Nat → Prop) (w : World) (hr : RdB w S A n l) (hn : n ≤ 1000000) :
    Calls Try.prog 44 #[.slice A n c, .func (.func 45) #[] #[]] w fun e w' => e = .returned (.bool (dirty l)) ∧ Chg Nil w w' := by
  have H := Hid.mk (indexD_any A n c l S w hr hn)
  clear hr hn
  go_enter Try.func44, Try.ntmps44
  go_wp2_with fail
  refine H.out.mono ?_
  rintro e w1 ⟨r, rfl, hd, hc1⟩
  have HC := Hid.mk (And.intro hd hc1)
  clear hc1 hd
  go_wp2_with fail
  all_goals (go_ret; exact ⟨by rw [← HC.out.1]; rfl, HC.out.2⟩)

end Go.Proofs.Ytanipieeegeheaa
