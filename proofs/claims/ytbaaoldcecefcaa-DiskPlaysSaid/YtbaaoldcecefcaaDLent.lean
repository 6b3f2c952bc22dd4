/- The walk of DiskLent: it returns true, whatever the input. -/
import Derived.Test.YtbaaoldcecefcaaAwakeD
import Derived.Test.YtbaaoldcecefcaaCells
namespace Go.Proofs.Ytbaaoldcecefcaa
open Go.RowKit

theorem dnew_now (n : Nat) (h : n ≤ 1000000) : (Dp.new n).now.length = n := by
  simp only [Dp.new, newN, List.length_replicate]
  omega
theorem dnew_lasts (n : Nat) (h : n ≤ 1000000) : (Dp.new n).lasts.length = n := by
  simp only [Dp.new, newN, List.length_replicate]
  omega
theorem lentL (b : List UInt8) (h : b.length ≤ 200) : ((Dp.new 300).write 5 b).now.length = 300 := by
  have h300 : (Dp.new 300).now.length = 300 := dnew_now 300 (by omega)
  simp only [Dp.write]
  rw [splice_len _ _ _ (by omega)]
  exact h300
theorem lentC (b : List UInt8) (h : b.length ≤ 200) : (((Dp.new 300).write 5 b).crash 1000).now.length = 300 := by
  have h300 : (Dp.new 300).lasts.length = 300 := dnew_lasts 300 (by omega)
  simp only [Dp.crash]
  exact crashB_len _ 300 (fun p hp => by simp [Dp.write, Dp.called, Dp.new] at hp; subst hp; simp; omega) _ _ h300
theorem lent1 (b : List UInt8) (_h : b.length ≤ 200) : (((Dp.new 300).write 5 b).now.drop 5).take b.length = b := by
  have h300 : (Dp.new 300).now.length = 300 := dnew_now 300 (by omega)
  simp only [Dp.write, splice]
  rw [List.drop_append_of_le_length (by rw [List.length_take]; omega), List.drop_of_length_le (by rw [List.length_take]; omega), List.nil_append, List.take_left']
  rfl
theorem lent2 (b : List UInt8) (h : b.length ≤ 200) : ((((Dp.new 300).write 5 b).crash 1000).now.drop 5).take b.length = b := by
  have h300 : (Dp.new 300).lasts.length = 300 := dnew_lasts 300 (by omega)
  have hw : ((Dp.new 300).write 5 b).waits = [(5, b)] := rfl
  have hl : ((Dp.new 300).write 5 b).lasts = (Dp.new 300).lasts := rfl
  simp only [Dp.crash, hw, hl, crashB]
  rw [show min (1000 : Int).toNat b.length = b.length by omega, List.take_length]
  simp only [splice]
  rw [List.drop_append_of_le_length (by rw [List.length_take]; omega), List.drop_of_length_le (by rw [List.length_take]; omega), List.nil_append, List.take_left']
  rfl

set_option maxHeartbeats 1000000 in
set_option maxRecDepth 100000 in
theorem lent_walk (A : Option Addr) (n c : Nat) (b : List UInt8) (p : Int) (S : Nat → Prop) (w : World) (hr : RdB w S A n b) (hm : n ≤ maxLen) :
    Calls Try.prog 3 #[.slice A n c, .int .i64 p] w fun e w' => e = .returned (.bool true) ∧ Chg Nil w w' := by
  obtain rfl := hr.len
  obtain ⟨i0, hi, hz0, hz1, hz2⟩ := info_parts Try.infoU8
  have HR := Hid.mk hr
  clear hr
  go_enter Try.func3, Try.ntmps3
  go_wp2_with fail
  refine (dnew_any 300 w).mono ?_
  rintro e w1 ⟨g, M, R, rfl, hc1, h1, hlow⟩
  have L1 := Hid.mk (Live.mk hc1 h1 hlow)
  clear hc1 h1 hlow
  by_cases h0 : b.length = 0
  · have d0 : ((b.length : Int) == 0) = true := by simp [h0]
    go_wp2_with fail
    refine (awakeD_any _).mono ?_
    rintro e w2 ⟨rfl, hc2⟩
    have L2 := Hid.mk (L1.out.nil hc2)
    clear hc2
    go_wp2_with fail
    go_ret
    exact ⟨rfl, L2.out.chg⟩
  · have d0 : ((b.length : Int) == 0) = false := by rw [beq_eq_false_iff_ne]; omega
    by_cases h2 : 200 < b.length
    · have d2 : decide ((b.length : Int) > 200) = true := by simp; omega
      go_wp2_with fail
      refine (awakeD_any _).mono ?_
      rintro e w2 ⟨rfl, hc2⟩
      have L2 := Hid.mk (L1.out.nil hc2)
      clear hc2
      go_wp2_with fail
      go_ret
      exact ⟨rfl, L2.out.chg⟩
    · have d2 : decide ((b.length : Int) > 200) = false := by simp; omega
      have hr1 : RdB w1 (fun k => S k ∧ k < w.heap.size) A b.length b := HR.out.here.keep L1.out.chg (fun _ _ h => h)
      have hcv := run_bytes_str (P := Try.prog) (c := c) hr1 22 9 5 Try.underlying22 Try.underlying5 Try.underlying9
      have hra : ∀ o, RdB (w1.alloc o) (fun k => S k ∧ k < w.heap.size) A b.length b := fun o => hr1.keep ((Chg.refl Nil w1).alloc o) (fun _ _ h => h)
      have HA := Hid.mk hra
      clear hra hr1
      go_wp2_with ((at_builtin; refine wpl_append rfl (.tmp 33) (.tmp 34) 22 rfl w1.heap.size 5 i0 _ 1 1 Try.underlying22 hi hz0 hz1 hz2 rfl (by omega) _ _ _ rfl (World.ownsRow_made w1 #[] 0 (Nat.le_refl _) (Nat.zero_le _) (by simp)) _ A b.length c _ rfl (HA.out _) (bv_one _) (by simp only [maxLen]; omega) (by omega) (by simp) ?_); intro v2 w2 o2 g2; rw [Nat.zero_add, List.nil_append] at o2; obtain ⟨A2, c2, rfl, hx2, hy2⟩ := own_form o2; have hch2 : Chg Nil w1 w2 := (((Chg.refl Nil w1).alloc _).trans g2.chg (fun k hk h => by have := own_at h; omega)); have O2 := Hid.mk (And.intro o2 hch2); clear o2 g2 hch2)
      have L2 := Hid.mk (L1.out.nil O2.out.2)
      have hlt1 := L1.out.dk.lt
      have hge2 := own_ge O2.out.1
      refine (dwrite_ok L2.out.dk 5 A2 b.length c2 b (Rds.of_own O2.out.1) (fun k hk hm => by have := hlt1 k (.inl hm); have := hge2 k hk; omega) (by rw [show (Dp.new 300).now.length = 300 from dnew_now 300 (by omega)]; omega) rfl (Nat.zero_le _)).mono ?_
      rintro e w3 ⟨M3, R3, rfl, hw3, h3⟩
      have hrow3 := (Row.of_own O2.out.1).keep hw3.chg (fun k hk hm => by have := hlt1 k (.inl hm); have := hge2 k hk; omega)
      have hlt2 := own_lt O2.out.1
      have hne3 : ∀ k, Own (.slice A2 b.length c2) k → ¬ M3 k ∧ ¬ R3 k := fun k hk => ⟨fun hm => by
        have := hlt1 k (.inl (hw3.m k (hlt2 k hk) hm)); have := hge2 k hk; omega, fun hm => by
        have := hlt1 k (.inr (hw3.r k (hlt2 k hk) hm)); have := hge2 k hk; omega⟩
      obtain ⟨g2, cap2, hv2, hgg, hgl⟩ := O2.out.1.form (by omega)
      injection hv2 with e1 e2 e3
      subst e1 e3
      have L3 := Hid.mk (And.intro (L2.out.went hw3 h3) (And.intro hrow3 (And.intro hne3 hge2)))
      clear hlt1 hge2 hw3 h3 hrow3 hlt2 hne3 hgl
      have hand := i64_and_65535 p
      generalize (p % 65536).toNat = K0 at hand
      have hrem : (K0 : Int).tmod (b.length : Int) = ((K0 % b.length : Nat) : Int) := rfl
      have hK : K0 % b.length < b.length := Nat.mod_lt _ (by omega)
      generalize K0 % b.length = K at hrem hK
      have hce := L3.out.2.1.cellAt hK
      rw [List.getElem?_map, List.getElem?_eq_getElem hK, Option.map_some, bv] at hce
      have hfr := L3.out.2.1.freeAt hK
      have hu8 := b[K].toNat_lt
      generalize b[K].toNat = x at *
      go_wp2_with fail
      have hset3 : ∀ u, Chg (· = g2) w3 (w3.setCell ⟨g2, K, none⟩ u) := fun u => (Chg.refl (· = g2) w3).setCell (p := ⟨g2, K, none⟩) (fun _ => rfl) u
      have hfar3 := fun u => L3.out.1.far (hset3 u) (fun k hk => by have := L1.out.chg.size; omega) (fun k hk he => by
        subst he
        rcases hk with hk | hk
        · exact (L3.out.2.2.1 k rfl).1 hk
        · exact (L3.out.2.2.1 k rfl).2 hk)
      refine (dread_ok (hfar3 _).dk 5 b.length (by rw [lentL b (by omega)]; omega) rfl).mono ?_
      rintro e w5 ⟨v5, rfl, o5, hc5⟩
      rw [lent1 b (by omega)] at o5
      obtain ⟨A5, c5, rfl, hx5, hy5⟩ := own_form o5
      have hcv5 := run_bytes_str (P := Try.prog) (c := c5) (Rds.of_own o5 : RdB w5 _ A5 b.length b) 22 9 5 Try.underlying22 Try.underlying5 Try.underlying9
      obtain ⟨g5, cap5, hv5, hg5, hgl5⟩ := o5.form (by omega)
      injection hv5 with e1 e2 e3
      subst e1 e3
      have hlt5 := (hfar3 (.int .u8 ((x : Int) + 1))).dk.lt
      have L5 := Hid.mk (And.intro ((hfar3 _).nil hc5) (And.intro (Row.of_own o5) (And.intro hg5 hlt5)))
      have hce5 := L5.out.2.1.cellAt hK
      rw [List.getElem?_map, List.getElem?_eq_getElem hK, Option.map_some, bv] at hce5
      have hfr5 := L5.out.2.1.freeAt hK
      have hu85 := b[K].toNat_lt
      generalize b[K].toNat = y at *
      clear hset3 hfar3 o5 hc5 hg5 hlt5 hgl5 hce hfr
      go_wp2_with fail
      have hset5 : ∀ u, Chg (· = g5) w5 (w5.setCell ⟨g5, K, none⟩ u) := fun u => (Chg.refl (· = g5) w5).setCell (p := ⟨g5, K, none⟩) (fun _ => rfl) u
      have hfar5 := fun u => L5.out.1.far (hset5 u) (fun k hk => by
        have h1 := L5.out.2.2.1
        have h2 := L3.out.1.chg.size
        simp only [World.setCell, Array.size_modify] at h1
        omega) (fun k hk he => by
        have h1 := L5.out.2.2.1
        have h2 := L5.out.2.2.2 k hk
        simp only [World.setCell, Array.size_modify] at h1 h2
        omega)
      refine (dcrash_any (hfar5 _).dk 1000 (by omega) (by omega) (by show (1 : Nat) ≤ 1000000; omega)).mono ?_
      rintro e w6 ⟨⟨v6, rfl⟩, hc6, h6⟩
      have L6 := Hid.mk ((hfar5 _).step hc6 h6)
      clear hset5 hfar5 hc6 h6 hce5 hfr5
      go_wp2_with fail
      refine (dread_ok L6.out.dk 5 b.length (by rw [lentC b (by omega)]; omega) rfl).mono ?_
      rintro e w7 ⟨v7, rfl, o7, hc7⟩
      rw [lent2 b (by omega)] at o7
      obtain ⟨A7, c7, rfl, hx7, hy7⟩ := own_form o7
      have hcv7 := run_bytes_str (P := Try.prog) (c := c7) (Rds.of_own o7 : RdB w7 _ A7 b.length b) 22 9 5 Try.underlying22 Try.underlying5 Try.underlying9
      have L7 := Hid.mk (L6.out.nil hc7)
      clear o7 hc7
      go_wp2_with fail
      refine (awakeD_any _).mono ?_
      rintro e w8 ⟨rfl, hc8⟩
      have L8 := Hid.mk (L7.out.nil hc8)
      clear hc8
      go_wp2_with fail
      go_ret
      exact ⟨rfl, L8.out.chg⟩
theorem lent_law (A : Option Addr) (n c : Nat) (b : List UInt8) (p : Int) (S : Nat → Prop) (w : World) (hr : RdB w S A n b) (hm : n ≤ maxLen) :
    Calls Try.prog 3 #[.slice A n c, .int .i64 p] w fun e w' => e = .returned (.bool true) ∧ Below w.heap.size w w' :=
  (lent_walk A n c b p S w hr hm).mono fun _ _ h => ⟨h.1, h.2.below_nil⟩
end Go.Proofs.Ytbaaoldcecefcaa
