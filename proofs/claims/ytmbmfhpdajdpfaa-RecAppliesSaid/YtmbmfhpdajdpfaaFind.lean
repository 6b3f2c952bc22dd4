/- rec.Find: where a key stands in points that rise. -/
import Derived.Test.YtmbmfhpdajdpfaaDo
import Derived.Test.YtmbmfhpdajdpfaaAnyOp
namespace Go.Proofs.Ytmbmfhpdajdpfaa
open Go.RowKit

def cmpP (a k : Int) : Int := if a < k then -1 else if k < a then 1 else 0
set_option maxHeartbeats 1000000 in
set_option maxRecDepth 100000 in
theorem cmp_any (ky x y v k : Int) (w : World) : Calls Try.prog 58 #[.agg #[.int .i64 ky, .int .i64 x, .int .i64 y, .int .i64 v], .int .i64 k] w fun e w' => e = .returned (.int .i64 (cmpP ky k)) ∧ Chg Nil w w' := by
  have hA : Chg Nil w (w.alloc (.cells #[.int .i64 ky, .int .i64 x, .int .i64 y, .int .i64 v] 44)) := (Chg.refl _ _).alloc _
  have HA := Hid.mk hA
  clear hA
  by_cases h1 : ky < k
  · have e : cmpP ky k = -1 := by simp [cmpP, h1]
    rw [e]
    clear e
    go_enter Try.func58, Try.ntmps58
    go_wp2_with fail
    go_ret
    exact ⟨rfl, HA.out⟩
  · by_cases h2 : k < ky
    · have e : cmpP ky k = 1 := by simp [cmpP, h1, h2]
      rw [e]
      clear e
      go_enter Try.func58, Try.ntmps58
      go_wp2_with fail
      go_ret
      exact ⟨rfl, HA.out⟩
    · have e : cmpP ky k = 0 := by simp [cmpP, h1, h2]
      rw [e]
      clear e
      go_enter Try.func58, Try.ntmps58
      go_wp2_with fail
      go_ret
      exact ⟨rfl, HA.out⟩

set_option maxHeartbeats 2000000 in
set_option maxRecDepth 100000 in
theorem search_any (A : Option Addr) (n c : Nat) (l : List Pt) (k : Int) (S : Nat → Prop) (w : World) (hr : RdP w S A n l) (hn : n ≤ 1000000) (hup : Up l) :
    Calls Try.prog 57 #[.slice A n c, .int .i64 k, .func (.func 58) #[] #[]] w fun e w' => e = .returned (.tuple #[.int .i64 (posP l k : Nat), .bool (hasP l k)]) ∧ Chg Nil w w' := by
  have hl := hr.len
  have HR := Hid.mk (And.intro hr (And.intro hup hl))
  clear hr hup
  generalize hP : posP l k = P
  generalize hB : hasP l k = B
  have HP := Hid.mk (And.intro hP hB)
  clear hP hB hl
  go_enter Try.func57, Try.ntmps57
  go_wp2_with fail
  go_loopw [9, 10] (fun i j wr => ∃ lo hi : Nat, lo ≤ hi ∧ hi ≤ n ∧ i = .int .i64 (lo : Int) ∧ j = .int .i64 (hi : Int) ∧ Chg Nil w wr ∧ Hid ((∀ (t : Nat) (p : Pt), t < lo → l[t]? = some p → p.key < k) ∧ (∀ (t : Nat) (p : Pt), hi ≤ t → l[t]? = some p → k ≤ p.key))) (fun i j _ => (intOf j).toNat - (intOf i).toNat)
  case atStart => exact ⟨0, n, Nat.zero_le _, Nat.le_refl _, rfl, rfl, Chg.refl _ _, Hid.mk ⟨fun t p ht => by omega, fun t p ht hp => by
      have := (List.getElem?_eq_some_iff.1 hp).1
      have := HR.out.2.2
      omega⟩⟩
  case round =>
    obtain ⟨lo, hi, hlh, hhn, rfl, rfl, hch, HI⟩ := hrel
    by_cases hlt : lo < hi
    · have hm : (lo + hi) / 2 < n := by omega
      obtain ⟨b, off, rfl, _, hat⟩ := HR.out.1.at4 (by omega)
      have ho : l[(lo + hi) / 2]? = some (l[(lo + hi) / 2]'(by have := HR.out.2.2; omega)) := List.getElem?_eq_getElem _
      generalize l[(lo + hi) / 2]'(by have := HR.out.2.2; omega) = o at ho
      obtain ⟨ky, x, y, v⟩ := o
      obtain ⟨c0, c1, c2, c3⟩ := hat wr hch _ ky x y v ho
      have HK := Hid.mk (And.intro hch ho)
      clear hch ho hat
      by_cases hk : ky < k
      · have hc : cmpP ky k < 0 := by simp [cmpP, hk]
        go_wp2_with fail
        refine (cmp_any ky x y v k _).mono ?_
        rintro e w1 ⟨rfl, hc1⟩
        have H1 := Hid.mk (HK.out.1.trans hc1 (fun _ _ h => h))
        clear hc1 c0 c1 c2 c3
        go_wp2_with fail
        go_roundw
        case rel =>
          refine ⟨(lo + hi) / 2 + 1, hi, by omega, hhn, by go_num, rfl, H1.out, Hid.mk ⟨fun t p ht hp => ?_, HI.out.2⟩⟩
          rcases Nat.lt_or_ge t ((lo + hi) / 2) with h | h
          · have := HR.out.2.1.key_lt h hp HK.out.2
            have : p.key < ky := this
            omega
          · obtain rfl : t = (lo + hi) / 2 := by omega
            rw [HK.out.2] at hp
            rw [← Option.some.inj hp]
            exact hk
        case measure => simp [intOf]; omega
      · have hc : ¬ cmpP ky k < 0 := by simp only [cmpP, hk, if_false]; split <;> omega
        go_wp2_with fail
        refine (cmp_any ky x y v k _).mono ?_
        rintro e w1 ⟨rfl, hc1⟩
        have H1 := Hid.mk (HK.out.1.trans hc1 (fun _ _ h => h))
        clear hc1 c0 c1 c2 c3
        go_wp2_with fail
        go_roundw
        case rel =>
          refine ⟨lo, (lo + hi) / 2, by omega, by omega, rfl, by go_num, H1.out, Hid.mk ⟨HI.out.1, fun t p ht hp => ?_⟩⟩
          rcases Nat.lt_or_ge ((lo + hi) / 2) t with h | h
          · have := HR.out.2.1.key_lt h HK.out.2 hp
            have : ky < p.key := this
            omega
          · obtain rfl : t = (lo + hi) / 2 := by omega
            rw [HK.out.2] at hp
            rw [← Option.some.inj hp]
            show k ≤ ky
            omega
        case measure => simp [intOf]; omega
    · obtain rfl : lo = hi := by omega
      have hpos : posP l k = lo := posP_eq (by have := HR.out.2.2; omega) (fun t p ht hp => HI.out.1 t p ht hp) (fun p hp => HI.out.2 lo p (Nat.le_refl _) hp)
      have hPe : P = lo := by rw [← HP.out.1, hpos]
      subst hPe
      by_cases hn0 : P < n
      · obtain ⟨b, off, rfl, _, hat⟩ := HR.out.1.at4 (by omega)
        have ho : l[P]? = some (l[P]'(by have := HR.out.2.2; omega)) := List.getElem?_eq_getElem _
        generalize l[P]'(by have := HR.out.2.2; omega) = o at ho
        obtain ⟨ky, x, y, v⟩ := o
        obtain ⟨c0, c1, c2, c3⟩ := hat wr hch _ ky x y v ho
        have hB : B = decide (ky = k) := by rw [← HP.out.2]; unfold hasP; rw [hpos, ho]
        have hge : k ≤ ky := HI.out.2 P _ (Nat.le_refl _) ho
        have HK := Hid.mk (And.intro hch (And.intro hB ho))
        clear hch ho hat hB hpos
        have hd : decide ((P : Int) < (n : Int)) = true := decide_eq_true (by omega)
        by_cases hk : ky = k
        · have hc : (cmpP ky k == 0) = true := by simp [cmpP, hk]
          have HB := Hid.mk (show B = true by rw [HK.out.2.1]; exact decide_eq_true hk)
          clear hk hge
          go_wp2_with fail
          refine (cmp_any ky x y v k _).mono ?_
          rintro e w1 ⟨rfl, hc1⟩
          have H1 := Hid.mk (HK.out.1.trans hc1 (fun _ _ h => h))
          clear hc1 c0 c1 c2 c3
          go_wp2_with fail
          go_ret2
          exact ⟨by rw [HB.out]; rfl, H1.out⟩
        · have hc : (cmpP ky k == 0) = false := by
            rw [beq_eq_false_iff_ne]
            simp only [cmpP, if_neg (show ¬ ky < k by omega), if_pos (show k < ky by omega)]
            omega
          have HB := Hid.mk (show B = false by rw [HK.out.2.1]; exact decide_eq_false hk)
          clear hk hge
          go_wp2_with fail
          refine (cmp_any ky x y v k _).mono ?_
          rintro e w1 ⟨rfl, hc1⟩
          have H1 := Hid.mk (HK.out.1.trans hc1 (fun _ _ h => h))
          clear hc1 c0 c1 c2 c3
          go_wp2_with fail
          go_ret2
          exact ⟨by rw [HB.out]; rfl, H1.out⟩
      · have hd : decide ((P : Int) < (n : Int)) = false := decide_eq_false (by omega)
        have HB := Hid.mk (show B = false by
          rw [← HP.out.2]; unfold hasP; rw [hpos, List.getElem?_eq_none (by have := HR.out.2.2; omega)])
        have HK := Hid.mk hch
        clear hch hpos
        go_wp2_with fail
        go_ret2
        exact ⟨by rw [HB.out]; rfl, HK.out⟩
set_option maxHeartbeats 1000000 in
set_option maxRecDepth 100000 in
theorem find_any (A : Option Addr) (n c : Nat) (l : List Pt) (k : Int) (S : Nat → Prop) (w : World) (hr : RdP w S A n l) (hn : n ≤ 1000000) (hup : Up l) :
    Calls Try.prog 49 #[.slice A n c, .int .i64 k] w fun e w' => e = .returned (.tuple #[.int .i64 (posP l k : Nat), .bool (hasP l k)]) ∧ Chg Nil w w' := by
  have H := Hid.mk (search_any A n c l k S w hr hn hup)
  clear hr hup hn
  go_enter Try.func49, Try.ntmps49
  go_wp2_with fail
  refine H.out.mono ?_
  rintro e w1 ⟨rfl, hc1⟩
  have HC := Hid.mk hc1
  clear hc1
  go_wp2_with fail
  go_ret2
  exact ⟨rfl, HC.out⟩
end Go.Proofs.Ytmbmfhpdajdpfaa
