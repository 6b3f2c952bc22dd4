/- The walk of RecJoins: it returns true, whatever the input. -/
import Derived.Test.YtmbmfhpdajdpfaaAwakeR
import Derived.Test.YtmbmfhpdajdpfaaPlainScan
import Derived.Deep.QuietTactic
import Derived.BigQuiet
namespace Go.Proofs.Ytmbmfhpdajdpfaa
open Go.RowKit

theorem Rds.drewN {w : World} {S : Nat → Prop} {sz n : Nat} {A : Option Addr} {xs : List Value} (h : Rds w S sz A n xs) (k : Nat) : Rds (w.drewN k) S sz A n xs := h
theorem RdB.drewN {w : World} {S : Nat → Prop} {n : Nat} {A : Option Addr} {bs : List UInt8} (h : RdB w S A n bs) (k : Nat) : RdB (w.drewN k) S A n bs := h
theorem RdL.drewN {w : World} {S : Nat → Prop} {vs : List Value} {bodies : List (List UInt8)} (h : RdL w S vs bodies) (k : Nat) : RdL (w.drewN k) S vs bodies := h
theorem Own.drewN {w : World} {base : Nat} {e : TypeId} {sz n : Nat} {v : Value} {xs : List Value} (h : w.ownsRow base e sz v n xs) (k : Nat) : (w.drewN k).ownsRow base e sz v n xs := h
theorem below_dN {B : Nat} {w w' : World} (h : Below B w w') (k : Nat) : Below B w (w'.drewN k) := ⟨h.os, h.tape, h.output, h.size, h.block⟩
theorem and_ffff (g : Nat) (hg : g < 18446744073709551616) : bits .and .u64 (g : Int) 65535 = ((g % 65536 : Nat) : Int) := by
  have h := u64_and_nat g 65535 hg (by omega)
  rw [show ((65535 : Nat) : Int) = 65535 from rfl] at h
  rw [h]
  congr 1
  exact Nat.and_two_pow_sub_one_eq_mod g 16

set_option maxHeartbeats 1000000 in
set_option maxRecDepth 100000 in
theorem joins_walk (g : Nat) (A B : Option Addr) (n c m d : Nat) (va vb : List Value) (a b : List (List UInt8)) (S T : Nat → Prop) (w : World) (hg : g < 18446744073709551616)
    (hra : Rds w S 1 A n va) (hla : RdL w S va a) (hrb : Rds w T 1 B m vb) (hlb : RdL w T vb b) :
    Calls Try.prog 3 #[.int .u64 g, .slice A n c, .slice B m d] w fun e w' => e = .returned (.bool true) ∧ Below w.heap.size w w' := by
  have hand := and_ffff g hg
  have hG : g % 65536 < 65536 := Nat.mod_lt _ (by omega)
  generalize g % 65536 = G at *
  have HH := Hid.mk (And.intro hra (And.intro hla (And.intro hrb (And.intro hlb hg))))
  clear hra hla hrb hlb hg
  go_enter Try.func3, Try.ntmps3
  go_wp2_with fail
  obtain ⟨N, hN⟩ : ∃ N : Nat, (G : Int) + 1 = (N : Int) := ⟨G + 1, by omega⟩
  have hN1 : 1 ≤ N := by omega
  have hN2 : N ≤ 65536 := by omega
  rw [hN]
  clear hN hand hG
  refine (text_any N A c n va a S w HH.out.1 HH.out.2.1).mono ?_
  rintro e w1 ⟨ht1, hb1⟩
  have hra1 : Rds w1 (fun k => S k ∧ k < w.heap.size) 1 A n va := (HH.out.1.here (by omega)).keep (Chg.of_below' hb1) (fun _ _ h => h)
  have hla1 : RdL w1 (fun k => S k ∧ k < w.heap.size) va a := (HH.out.2.1.wider (T := fun k => S k ∧ k < w.heap.size) (fun k h hs => ⟨hs, h⟩)).keep (Chg.of_below' hb1) (fun _ _ h => h)
  have hrb1 : Rds w1 T 1 B m vb := HH.out.2.2.1.keep (Chg.of_below' hb1) (fun _ _ h => h)
  have hlb1 : RdL w1 T vb b := HH.out.2.2.2.1.keep (Chg.of_below' hb1) (fun _ _ h => h)
  have H1 := Hid.mk (And.intro hb1 (And.intro hra1 (And.intro hla1 (And.intro hrb1 hlb1))))
  clear hb1 hra1 hla1 hrb1 hlb1
  by_cases ha : ∀ x ∈ a.take 8, x.length ≤ 200
  · obtain ⟨v1, rfl, o1⟩ := ht1.1 ha
    obtain ⟨A1, c1, rfl, hc1, hm1⟩ := own_form o1
    have HA := Hid.mk (And.intro ha o1)
    clear ht1 ha o1
    go_wp2_with fail
    rw [show (N : Int) + 1 = ((N + 1 : Nat) : Int) by omega]
    refine (text_any (N + 1) B d m vb b T w1 H1.out.2.2.2.1 H1.out.2.2.2.2).mono ?_
    rintro e w2 ⟨ht2, hb2⟩
    have H2 := Hid.mk (H1.out.1.trans (hb2.mono H1.out.1.size))
    have HB2 := Hid.mk hb2
    clear hb2
    by_cases hb : ∀ x ∈ b.take 8, x.length ≤ 200
    · obtain ⟨v2, rfl, o2⟩ := ht2.1 hb
      obtain ⟨A2, c2, rfl, hc2, hm2⟩ := own_form o2
      have ha := HA.out.1
      have hs1 := scan_joins N (N + 1) (a.take 8) (b.take 8) ⟨hN1, by omega⟩ (by omega) (by omega) (fun x hx => Nat.le_trans (ha x hx) (by omega)) (fun x hx => Nat.le_trans (hb x hx) (by omega))
      have hs2 := scan_joins (N + 1) N (b.take 8) (a.take 8) ⟨by omega, by omega⟩ (by omega) (by omega) (fun x hx => Nat.le_trans (hb x hx) (by omega)) (fun x hx => Nat.le_trans (ha x hx) (by omega))
      have hl1 : (recsB N (a.take 8)).length ≤ 8 * 213 := Nat.le_trans (recsB_len N _ ha) (Nat.mul_le_mul_right _ (by rw [List.length_take]; omega))
      have hl2 : (recsB (N + 1) (b.take 8)).length ≤ 8 * 213 := Nat.le_trans (recsB_len (N + 1) _ hb) (Nat.mul_le_mul_right _ (by rw [List.length_take]; omega))
      have hla : (a.take 8).length ≤ 8 := by rw [List.length_take]; omega
      have hlb : (b.take 8).length ≤ 8 := by rw [List.length_take]; omega
      generalize recsB N (a.take 8) = s at *
      generalize recsB (N + 1) (b.take 8) = t at *
      have hadd1 : ∀ W : World, (Op.stringOp .add ⟨s.toArray⟩ ⟨t.toArray⟩).run Try.prog W = .ok (.string ⟨(s ++ t).toArray⟩) W := fun W => by
        rw [run_string_add_sum W _ _ (by simp [ByteArray.size]; omega), ByteArray.mk_append_mk]
      have hadd2 : ∀ W : World, (Op.stringOp .add ⟨t.toArray⟩ ⟨s.toArray⟩).run Try.prog W = .ok (.string ⟨(t ++ s).toArray⟩) W := fun W => by
        rw [run_string_add_sum W _ _ (by simp [ByteArray.size]; omega), ByteArray.mk_append_mk]
      have hst : (s ++ t).length ≤ 16 * 213 := by rw [List.length_append]; omega
      have hts : (t ++ s).length ≤ 16 * 213 := by rw [List.length_append]; omega
      generalize s ++ t = st at *
      generalize t ++ s = ts at *
      have HS := Hid.mk (And.intro hs1 hs2)
      clear ht2 hb o2 ha hs1 hs2
      have hmst : st.length ≤ maxLen := by simp only [maxLen]; omega
      have hmts : ts.length ≤ maxLen := by simp only [maxLen]; omega
      go_wp2_with (with_reducible refine wpl_bytes (o := ⟨some 47, _, _, _, _, _⟩) rfl (.tmp 46) 9 30 5 rfl Try.underlying9 Try.underlying30 Try.underlying5 st rfl hmst ?_; intro C3 w3 hC3 hM3 row3 ch3 hl3; have H3 := Hid.mk (And.intro row3 (And.intro ch3 (And.intro hC3 hM3))); clear row3 ch3 hC3 hM3 hl3)
      refine (scan_any N _ C3 st.length st _ w3 H3.out.1.rd H3.out.2.2.1 H3.out.2.2.2 (by omega)).mono ?_
      rintro e w4 ⟨h4, b4⟩
      rw [HS.out.1] at h4
      obtain ⟨v4, vs4, rfl, o4, rl4⟩ := h4
      obtain ⟨A4, c4, rfl, hc4, hm4⟩ := own_form o4
      have c24 : Chg Nil w2 w4 := H3.out.2.1.trans (Chg.of_below' b4) (fun _ _ h => h)
      have H4 := Hid.mk (And.intro o4 (And.intro rl4 c24))
      clear o4 rl4 b4 c24 hc4 hm4
      go_wp2_with (with_reducible refine wpl_bytes (o := ⟨some 56, _, _, _, _, _⟩) rfl (.tmp 55) 9 30 5 rfl Try.underlying9 Try.underlying30 Try.underlying5 ts rfl hmts ?_; intro C5 w5 hC5 hM5 row5 ch5 hl5; have H5 := Hid.mk (And.intro row5 (And.intro ch5 (And.intro hC5 hM5))); clear row5 ch5 hC5 hM5 hl5)
      rw [show (N : Int) + 1 = ((N + 1 : Nat) : Int) by omega]
      refine (scan_any (N + 1) _ C5 ts.length ts _ w5 H5.out.1.rd H5.out.2.2.1 H5.out.2.2.2 (by omega)).mono ?_
      rintro e w6 ⟨h6, b6⟩
      rw [HS.out.2] at h6
      obtain ⟨v6, vs6, rfl, o6, rl6⟩ := h6
      obtain ⟨A6, c6, rfl, hc6, hm6⟩ := own_form o6
      have c46 : Chg Nil w4 w6 := H5.out.2.1.trans (Chg.of_below' b6) (fun _ _ h => h)
      have c06 : Below w.heap.size w w6 := c46.below (H4.out.2.2.below H2.out H2.out.size (fun _ _ h => h.elim)) (by have := H2.out.size; have := H4.out.2.2.size; omega) (fun _ _ h => h.elim)
      have c16 : Chg Nil w1 w6 := (Chg.of_below' HB2.out).trans (H4.out.2.2.trans c46 (fun _ _ h => h)) (fun _ _ h => h)
      have H6 := Hid.mk (And.intro c06 (And.intro (own_keep H4.out.1 c46 (fun _ _ h => h)) (And.intro (H4.out.2.1.keep c46 (fun _ _ h => h)) (And.intro (H1.out.2.1.keep c16 (fun _ _ h => h)) (H1.out.2.2.1.keep c16 (fun _ _ h => h))))))
      clear o6 rl6 b6 c46 c06 c16 hc6 hm6
      go_wp2_with fail
      go_loopw [17] (fun i wr => ∃ k : Nat, k ≤ (a.take 8).length ∧ i = .int .i64 k ∧ Hid (Below w.heap.size w wr ∧ wr.ownsRow w3.heap.size 30 1 (.slice A4 (a.take 8).length c4) (a.take 8).length vs4 ∧ RdL wr (fun k => w3.heap.size ≤ k) vs4 (a.take 8) ∧
          Rds wr (fun k => S k ∧ k < w.heap.size) 1 A n va ∧ RdL wr (fun k => S k ∧ k < w.heap.size) va a)) (fun i _ => 8 - (intOf i).toNat)
      case atStart => exact ⟨0, Nat.zero_le _, rfl, H6⟩
      case round =>
        obtain ⟨k, hk, rfl, HR⟩ := hrel
        by_cases hlt : k < (a.take 8).length
        · have hg1 : (a.take 8)[k]? = some (a.take 8)[k] := List.getElem?_eq_getElem hlt
          have hg2 : a[k]? = some (a.take 8)[k] := by rw [← hg1, List.getElem?_take, if_pos (by omega)]
          have hka : k < a.length := by rw [List.length_take] at hlt; omega
          obtain ⟨Ak, ck, hv4, _, _, hrb4⟩ := HR.out.2.2.1.2 k _ hg1
          obtain ⟨Al, cl, hva, _, _, hrba⟩ := HR.out.2.2.2.2.2 k _ hg2
          have hn : a.length = n := by rw [← HR.out.2.2.2.2.1]; exact HR.out.2.2.2.1.len
          obtain ⟨g4, off4, hA4, _, _, hx4⟩ := (Rds.of_own HR.out.2.1).plain (by omega) (by omega)
          obtain ⟨g1, off1, hA, _, _, hx1⟩ := HR.out.2.2.2.1.plain (by omega) (by omega)
          subst hA4
          subst hA
          have hkn : k < n := by omega
          have hcell4 := hx4 k _ hv4
          have hcell1 := hx1 k _ hva
          generalize (a.take 8)[k] = bk at *
          have hcv4 := fun nq => run_bytes_str (P := Try.prog) (w := wr.drewN nq) (c := ck) (hrb4.drewN nq) 30 9 5 Try.underlying30 Try.underlying5 Try.underlying9
          have hcv1 := fun nq => run_bytes_str (P := Try.prog) (w := wr.drewN nq) (c := cl) (hrba.drewN nq) 30 9 5 Try.underlying30 Try.underlying5 Try.underlying9
          have HK := Hid.mk hn
          clear hn hg1 hg2 hv4 hva hrb4 hrba hx4 hx1
          go_wp2_with fail
          go_quiet (fail)
          go_wp2
          go_roundw
          case rel => exact ⟨k + 1, by omega, by go_num, Hid.mk ⟨below_dN HR.out.1 _, Own.drewN HR.out.2.1 _, HR.out.2.2.1.drewN _, HR.out.2.2.2.1.drewN _, HR.out.2.2.2.2.drewN _⟩⟩
          case measure => simp [intOf]; omega
        · have hke : k = (a.take 8).length := by omega
          have HK := Hid.mk hke
          have hkd : ¬ k < min 8 a.length := by rw [List.length_take] at hlt; exact hlt
          clear hke hlt
          go_wp2_with fail
          refine (awakeR_any wr).mono ?_
          rintro e w7 ⟨rfl, hb7⟩
          have H7 := Hid.mk (HR.out.1.trans (hb7.mono HR.out.1.size))
          clear hb7
          go_wp2_with fail
          go_ret
          exact ⟨rfl, H7.out⟩
    · obtain rfl := ht2.2 hb
      clear ht2 hb
      go_wp2_with fail
      refine (awakeR_any w2).mono ?_
      rintro e w3 ⟨rfl, hb3⟩
      have H3 := Hid.mk (H2.out.trans (hb3.mono H2.out.size))
      clear hb3
      go_wp2_with fail
      go_ret
      exact ⟨rfl, H3.out⟩
  · obtain rfl := ht1.2 ha
    clear ht1 ha
    go_wp2_with fail
    rw [show (N : Int) + 1 = ((N + 1 : Nat) : Int) by omega]
    refine (text_any (N + 1) B d m vb b T w1 H1.out.2.2.2.1 H1.out.2.2.2.2).mono ?_
    rintro e w2 ⟨ht2, hb2⟩
    have H2 := Hid.mk (H1.out.1.trans (hb2.mono H1.out.1.size))
    obtain ⟨s2, x2, f2, rfl⟩ : ∃ s2 x2 f2, e = .returned (.tuple #[s2, x2, .bool f2]) := by
      by_cases hb : ∀ x ∈ b.take 8, x.length ≤ 200
      · obtain ⟨v2, rfl, o2⟩ := ht2.1 hb
        exact ⟨_, _, _, rfl⟩
      · exact ⟨_, _, _, ht2.2 hb⟩
    clear hb2 ht2
    go_wp2_with fail
    refine (awakeR_any w2).mono ?_
    rintro e w3 ⟨rfl, hb3⟩
    have H3 := Hid.mk (H2.out.trans (hb3.mono H2.out.size))
    clear hb3
    go_wp2_with fail
    go_ret
    exact ⟨rfl, H3.out⟩
end Go.Proofs.Ytmbmfhpdajdpfaa
