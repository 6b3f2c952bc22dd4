/- The walk of RecTorn: it returns true, whatever the input. -/
import Derived.Test.YtmbmfhpdajdpfaaJoins
import Derived.Test.YtmbmfhpdajdpfaaPlainTorn
namespace Go.Proofs.Ytmbmfhpdajdpfaa
open Go.RowKit

theorem i64_and_mask (x : Int) (m b : Nat) (hb : m = 2 ^ b - 1) (hm : b ≤ 62) : ∃ C : Nat, bits .and .i64 x (m : Int) = (C : Int) ∧ C ≤ m := by
  refine ⟨((BitVec.ofInt 64 x &&& BitVec.ofInt 64 (m : Int)).toNat), ?_, ?_⟩
  · show IntKind.i64.wrap ((BitVec.ofInt 64 x &&& BitVec.ofInt 64 (m : Int)).toNat : Int) = _
    have h : (BitVec.ofInt 64 x &&& BitVec.ofInt 64 (m : Int)).toNat ≤ m := by
      rw [BitVec.toNat_and]
      refine Nat.le_trans Nat.and_le_right ?_
      rw [BitVec.ofInt_natCast, BitVec.toNat_ofNat]
      exact Nat.mod_le _ _
    have hp : 2 ^ b ≤ 2 ^ 62 := Nat.pow_le_pow_right (by omega) hm
    rw [IntKind.wrap_i64]
    omega
  · rw [BitVec.toNat_and]
    refine Nat.le_trans Nat.and_le_right ?_
    rw [BitVec.ofInt_natCast, BitVec.toNat_ofNat]
    exact Nat.mod_le _ _

theorem u64_and_le (x : Nat) (m : Nat) (hm : m < 18446744073709551616) (hx : x < 18446744073709551616) : ∃ C : Nat, bits .and .u64 (x : Int) (m : Int) = (C : Int) ∧ C ≤ m :=
  ⟨x &&& m, u64_and_nat x m hx hm, Nat.and_le_right⟩

theorem run_str_front {P : Program} (t : TypeId) (ht : P.underlying t = some .string) (l : List UInt8) (k : Nat) (kd : IntKind) (hk : k ≤ l.length) (w : World) :
    (Instr.slice t (.string ⟨l.toArray⟩) none (some (.int kd (k : Int))) none).run P w = .ok (.string ⟨(l.take k).toArray⟩) w := by
  have hs : (ByteArray.mk l.toArray).size = l.length := by simp [ByteArray.size]
  simp [Instr.slice, Instr.sliceBounds, run_underlying ht, hs, run_bound_in w kd k l.length _ hk]
  apply ByteArray.ext
  simp [ByteArray.data_extract]

set_option maxHeartbeats 1000000 in
set_option maxRecDepth 100000 in
theorem torn_walk (g : Nat) (A : Option Addr) (n c : Nat) (va : List Value) (a : List (List UInt8)) (S : Nat → Prop) (cut noughts : Int) (w : World) (hg : g < 18446744073709551616)
    (hra : Rds w S 1 A n va) (hla : RdL w S va a) :
    Calls Try.prog 5 #[.int .u64 g, .slice A n c, .int .i64 cut, .int .i64 noughts] w fun e w' => e = .returned (.bool true) ∧ Below w.heap.size w w' := by
  obtain ⟨i0, hi, hz0, hz1, hz2⟩ := info_parts Try.infoByte
  obtain ⟨G1, hand1, hG1⟩ := u64_and_le g 65535 (by omega) hg
  obtain ⟨G2, hand2, hG2⟩ := u64_and_le g 2305843009213693952 (by omega) hg
  obtain ⟨C, handc, hC⟩ := i64_and_mask cut 65535 16 (by decide) (by omega)
  obtain ⟨Z, handz, hZ⟩ := i64_and_mask noughts 511 9 (by decide) (by omega)
  simp only [Int.cast_ofNat_Int] at hand1 hand2 handc handz
  have hsum1 : IntKind.u64.wrap ((G2 : Int) + (G1 : Int)) = ((G2 + G1 : Nat) : Int) := by rw [IntKind.wrap_u64]; omega
  have hsum2 : IntKind.u64.wrap (((G2 + G1 : Nat) : Int) + 1) = ((G2 + G1 + 1 : Nat) : Int) := by rw [IntKind.wrap_u64]; omega
  obtain ⟨Y, hY, hY1, hY2⟩ : ∃ Y : Nat, (Z : Int) + 300 = (Y : Int) ∧ Y = Z + 300 ∧ Y ≤ 811 := ⟨Z + 300, by omega, rfl, by omega⟩
  have hY1' := Hid.mk hY1
  clear hY1
  have hN : 1 ≤ G2 + G1 + 1 ∧ G2 + G1 + 1 ≤ 2305843009213759488 := by omega
  generalize G2 + G1 + 1 = N at *
  generalize G2 + G1 = M at *
  have HH := Hid.mk (And.intro hra (And.intro hla hN))
  clear hra hla hg hN hG2 hG1
  go_enter Try.func5, Try.ntmps5
  go_wp2_with fail
  refine (text_any N A c n va a S w HH.out.1 HH.out.2.1).mono ?_
  rintro e w1 ⟨ht1, hb1⟩
  clear hand1 hand2 hsum1 hsum2
  have hra1 : Rds w1 (fun k => S k ∧ k < w.heap.size) 1 A n va := (HH.out.1.here (by omega)).keep (Chg.of_below' hb1) (fun _ _ h => h)
  have hla1 : RdL w1 (fun k => S k ∧ k < w.heap.size) va a := (HH.out.2.1.wider (T := fun k => S k ∧ k < w.heap.size) (fun k h hs => ⟨hs, h⟩)).keep (Chg.of_below' hb1) (fun _ _ h => h)
  have H1 := Hid.mk (And.intro hb1 (And.intro hra1 hla1))
  clear hb1 hra1 hla1
  by_cases ha : ∀ x ∈ a.take 8, x.length ≤ 200
  · obtain ⟨v1, rfl, o1⟩ := ht1.1 ha
    obtain ⟨A1, c1, rfl, hc1, hm1⟩ := own_form o1
    have hN := HH.out.2.2
    have hl1 : (recsB N (a.take 8)).length ≤ 8 * 213 := Nat.le_trans (recsB_len N _ ha) (Nat.mul_le_mul_right _ (by rw [List.length_take]; omega))
    have hla : (a.take 8).length ≤ 8 := by rw [List.length_take]; omega
    have hget : ∀ j, j < (a.take 8).length → a[j]? = (a.take 8)[j]? := fun j hj => by rw [List.getElem?_take, if_pos (by omega)]
    have hal : (a.take 8).length ≤ a.length := by rw [List.length_take]; omega
    generalize a.take 8 = l at *
    obtain ⟨g1, off1, hA1, _, _, hx1⟩ := (Rds.of_own o1).plain (by omega) (by omega)
    subst hA1
    -- where the cut is
    obtain ⟨k, hk, hkl⟩ : ∃ k : Nat, (C : Int) % (((recsB N l).length : Int) + 1) = (k : Int) ∧ k ≤ (recsB N l).length := by
      refine ⟨C % ((recsB N l).length + 1), by simp, ?_⟩
      have := Nat.mod_lt C (show 0 < (recsB N l).length + 1 by omega)
      omega
    generalize hs : recsB N l = s at *
    have HA := Hid.mk (And.intro ha (And.intro o1 (And.intro hs (And.intro hget hal))))
    have hx1' := Hid.mk hx1
    clear ht1 ha o1 hs hget hx1 hN hal
    go_wp2_with fail
    go_loop [13] (fun v => ∃ j : Nat, j ≤ l.length ∧ v = .int .i64 j ∧ (recsB N (l.take j)).length ≤ k) (fun v => l.length - (intOf v).toNat)
    case atStart => exact ⟨0, Nat.zero_le _, rfl, by simp [recsB]⟩
    case round =>
      obtain ⟨j, hj, rfl, hjk⟩ := hrel
      by_cases hgo : j < l.length ∧ (recsB N (l.take (j + 1))).length ≤ k
      · obtain ⟨hlt, hEk⟩ := hgo
        have hcell : w1.cell? ⟨g1, off1 + (j + 1), none⟩ = some (.int .i64 ((recsB N (l.take (j + 1))).length : Int)) := by
          refine hx1'.out (j + 1) _ ?_
          simp [endsB, iv, hlt]
        generalize hE : (recsB N (l.take (j + 1))).length = E at *
        have HE := Hid.mk (And.intro hE hjk)
        clear hE hjk
        go_wp2_with fail
        go_round
        case rel => exact ⟨j + 1, by omega, by go_num, by rw [HE.out.1]; exact hEk⟩
        case measure => simp [intOf]; omega
      · have hstop : j = l.length ∨ k < (recsB N (l.take (j + 1))).length := by omega
        have hN := HH.out.2.2
        have hsc1 : scanA N (torn s k Y) = (l.take j, (recsB N (l.take j)).length) := by
          rw [← HA.out.2.2.1]
          exact scan_torn N l j k Y ⟨hN.1, by omega⟩ (fun x hx => Nat.le_trans (HA.out.1 x hx) (by omega)) hjk hstop
        have hsc2 : scanA (N + 1) (torn s k Y) = ([], 0) := by
          rw [← HA.out.2.2.1]
          exact scan_torn_next N l k Y (by omega) (fun x hx => Nat.le_trans (HA.out.1 x hx) (by omega)) (by rw [HA.out.2.2.1]; exact hkl)
        have hcj : w1.cell? ⟨g1, off1 + j, none⟩ = some (.int .i64 ((recsB N (l.take j)).length : Int)) := by
          refine hx1'.out j _ ?_
          simp [endsB, iv, show j < l.length + 1 by omega]
        have hcj1 : j < l.length → w1.cell? ⟨g1, off1 + (j + 1), none⟩ = some (.int .i64 ((recsB N (l.take (j + 1))).length : Int)) := fun hlt => by
          refine hx1'.out (j + 1) _ ?_
          simp [endsB, iv, hlt]
        generalize (recsB N (l.take (j + 1))).length = E1 at *
        generalize (recsB N (l.take j)).length = E0 at *
        have hYp : 0 < Y := by have := hY1'.out; omega
        have hstr := fun W => run_str_front (P := Try.prog) 9 Try.underlying9 s k .i64 hkl W
        have htk : (s.take k).length ≤ 1704 := by rw [List.length_take]; omega
        have htl : (s.take k).length = k := by rw [List.length_take]; omega
        have htm : (s.take k).length ≤ maxLen := by simp only [maxLen]; omega
        have htorn : torn s k Y = s.take k ++ List.replicate Y 0 := rfl
        generalize torn s k Y = T at *
        generalize s.take k = sk at *
        have HS := Hid.mk (And.intro hsc1 (And.intro hsc2 (And.intro htorn (And.intro hcj (And.intro hN hjk)))))
        clear hsc1 hsc2 htorn hcj hN hjk htl
        by_cases hlt : j < l.length
        all_goals (try have hc1 := hcj1 hlt)
        all_goals (try have hEk : k < E1 := by omega)
        all_goals clear hcj1 hgo hstop
        all_goals
          go_wp2_with (first
            | (with_reducible refine wpl_bytes (o := ⟨some 61, _, _, _, _, _⟩) rfl (.tmp 60) 9 30 5 rfl Try.underlying9 Try.underlying30 Try.underlying5 sk rfl htm ?_; intro C3 w3 hC3 hM3 row3 ch3 hl3; have H3 := Hid.mk (And.intro row3 (And.intro ch3 (And.intro hC3 hM3))); clear row3 ch3 hC3 hM3 hl3)
            | (at_builtin; refine wpl_append_zeros rfl (.tmp 61) (.tmp 64) 30 3 rfl 5 i0 _ 1 1 Try.underlying30 Try.underlying3 hi hz0 hz1 hz2 rfl (by omega) Y (fun x hx => by rw [zero_bytes] at hx; exact bv_one _ x hx) _ _ _ rfl H3.out.1 rfl hYp (by simp only [maxLen]; omega) (by omega) ?_; intro v4 w4 row4 g4; obtain ⟨A4, c4, hv4, hc4, hm4⟩ := row4.form; subst hv4; have H4 := Hid.mk (And.intro row4 (And.intro g4.chg (And.intro hc4 hm4))); clear row4 g4 hc4 hm4))
        all_goals
          have hrow : RdB w4 (Own (.slice A4 (sk.length + Y) c4)) A4 (sk.length + Y) T := by
            have h := H4.out.1.rd
            rw [zero_bytes, ← List.map_append] at h
            rw [HS.out.2.2.1]
            exact h
          have hsz13 : w1.heap.size ≤ w3.heap.size := H3.out.2.1.size
          have c34 : Chg Nil w1 w4 := H3.out.2.1.trans H4.out.2.1 (fun i hi ho => by have := own_at ho; omega)
          refine (scan_any N A4 c4 (sk.length + Y) T _ w4 hrow H4.out.2.2.1 H4.out.2.2.2 (by omega)).mono ?_
          rintro e w5 ⟨h5, b5⟩
          rw [HS.out.1] at h5
          obtain ⟨v5, vs5, rfl, o5, rl5⟩ := h5
          obtain ⟨A5, c5, rfl, hc5, hm5⟩ := own_form o5
          have hlj : (l.take j).length = j := by rw [List.length_take]; omega
          rw [hlj] at o5 hc5 ⊢
          have c15 : Chg Nil w1 w5 := c34.trans (Chg.of_below' b5) (fun _ _ h => h)
          have hcj5 : w5.cell? ⟨g1, off1 + j, none⟩ = some (.int .i64 (E0 : Int)) := c15.cell HS.out.2.2.2.1 (fun h => h)
          have H5 := Hid.mk (And.intro o5 (And.intro rl5 (And.intro c15 (hrow.keep (Chg.of_below' b5) (fun _ _ h => h)))))
          clear o5 rl5 b5 c15 hrow c34 hc5 hm5 hlj
          go_wp2_with fail
          have H6 := Hid.mk (And.intro (H5.out.2.2.1.below H1.out.1 H1.out.1.size (fun _ _ h => h.elim)) (And.intro H5.out.1 (And.intro H5.out.2.1 (And.intro (H1.out.2.1.keep H5.out.2.2.1 (fun _ _ h => h)) (And.intro (H1.out.2.2.keep H5.out.2.2.1 (fun _ _ h => h)) H5.out.2.2.2)))))
          clear hcj5
          go_loopw [17] (fun i wr => ∃ m : Nat, m ≤ j ∧ i = .int .i64 m ∧ Hid (Below w.heap.size w wr ∧ wr.ownsRow w4.heap.size 30 1 (.slice A5 j c5) j vs5 ∧ RdL wr (fun k => w4.heap.size ≤ k) vs5 (l.take j) ∧
              Rds wr (fun k => S k ∧ k < w.heap.size) 1 A n va ∧ RdL wr (fun k => S k ∧ k < w.heap.size) va a ∧ RdB wr (Own (.slice A4 (sk.length + Y) c4)) A4 (sk.length + Y) T)) (fun i _ => j - (intOf i).toNat)
          case atStart => exact ⟨0, Nat.zero_le _, rfl, H6⟩
          case round =>
            obtain ⟨m, hm, rfl, HR⟩ := hrel
            by_cases hmj : m < j
            · have hlj : (l.take j).length = j := by rw [List.length_take]; omega
              have hg1 : (l.take j)[m]? = some ((l.take j)[m]'(by omega)) := List.getElem?_eq_getElem (by omega)
              have hg2 : a[m]? = some ((l.take j)[m]'(by omega)) := by rw [← hg1, List.getElem?_take, if_pos (by omega)]; exact HA.out.2.2.2.1 m (by omega)
              obtain ⟨Ak, ck, hv5, _, _, hrb5⟩ := HR.out.2.2.1.2 m _ hg1
              obtain ⟨Al, cl, hva, _, _, hrba⟩ := HR.out.2.2.2.2.1.2 m _ hg2
              have hn : a.length = n := by rw [← HR.out.2.2.2.2.1.1]; exact HR.out.2.2.2.1.len
              have hmn : m < n := by have := HA.out.2.2.2.2; omega
              obtain ⟨g5, off5, hA5, _, _, hx5⟩ := (Rds.of_own HR.out.2.1).plain (by omega) (by omega)
              obtain ⟨ga, offa, hA, _, _, hxa⟩ := HR.out.2.2.2.1.plain (by omega) (by omega)
              subst hA5
              subst hA
              have hcell5 := hx5 m _ hv5
              have hcella := hxa m _ hva
              generalize (l.take j)[m]'(by omega) = bk at *
              have hcv5 := fun nq => run_bytes_str (P := Try.prog) (w := wr.drewN nq) (c := ck) (hrb5.drewN nq) 30 9 5 Try.underlying30 Try.underlying5 Try.underlying9
              have hcva := fun nq => run_bytes_str (P := Try.prog) (w := wr.drewN nq) (c := cl) (hrba.drewN nq) 30 9 5 Try.underlying30 Try.underlying5 Try.underlying9
              clear hn hg1 hg2 hv5 hva hrb5 hrba hx5 hxa hlj
              go_wp2_with fail
              go_quiet (fail)
              go_wp2
              go_roundw
              case rel => exact ⟨m + 1, by omega, by go_num, Hid.mk ⟨below_dN HR.out.1 _, Own.drewN HR.out.2.1 _, HR.out.2.2.1.drewN _, HR.out.2.2.2.1.drewN _, HR.out.2.2.2.2.1.drewN _, HR.out.2.2.2.2.2.drewN _⟩⟩
              case measure => simp [intOf]; omega
            · have hN := HS.out.2.2.2.2.1
              go_wp2_with fail
              rw [show (N : Int) + 1 = ((N + 1 : Nat) : Int) by omega]
              refine (scan_any (N + 1) A4 c4 (sk.length + Y) T _ wr HR.out.2.2.2.2.2 H4.out.2.2.1 H4.out.2.2.2 (by omega)).mono ?_
              rintro e w7 ⟨h7, b7⟩
              rw [HS.out.2.1] at h7
              obtain ⟨v7, vs7, rfl, o7, _⟩ := h7
              obtain ⟨A7, c7, rfl, hc7, hm7⟩ := own_form o7
              have H7 := Hid.mk (HR.out.1.trans (b7.mono HR.out.1.size))
              clear b7 o7 hc7 hm7
              go_wp2_with fail
              refine (awakeR_any w7).mono ?_
              rintro e w8 ⟨rfl, hb8⟩
              have H8 := Hid.mk (H7.out.trans (hb8.mono H7.out.size))
              clear hb8
              go_wp2_with fail
              go_ret
              exact ⟨rfl, H8.out⟩
  · obtain rfl := ht1.2 ha
    clear ht1 ha
    go_wp2_with fail
    refine (awakeR_any w1).mono ?_
    rintro e w3 ⟨rfl, hb3⟩
    have H3 := Hid.mk (H1.out.1.trans (hb3.mono H1.out.1.size))
    clear hb3
    go_wp2_with fail
    go_ret
    exact ⟨rfl, H3.out⟩
end Go.Proofs.Ytmbmfhpdajdpfaa
