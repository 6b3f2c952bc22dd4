/- Joined for this seat from: XSv XSw. -/
import Derived.Sort.WalkA14
import Derived.Sort.LotD1
import Derived.Deep.CutBlock
import Derived.Deep.CutRange
import Derived.Test.YtkemmffdiclloaaGreatDoorBp
set_option linter.unusedVariables false
set_option linter.unusedSimpArgs false
namespace Go.Proofs.YtkemmffdiclloaaGreatDoor
open Go.RowKit
theorem next_any (s : Nat) (x : Int) (w : World) (hs : Bk w s 306 #[.int .u64 x]) :
    Calls Tryz.prog 212 #[.pointer (some { block := s, off := 0 })] w fun e w' => ∃ v : Int, e = .returned (.int .u64 v) ∧ Bk w' s 306 #[.int .u64 v] ∧ Chg (fun k => k = s) w w' := by
  have y0 := hs.cell 0 rfl
  have f0 := hs.free 0
  have l0 := hs.lt
  have H0 := Hid.mk (And.intro hs (Chg.refl (fun k => k = s) w))
  clear hs
  go_enter Tryz.func212, Tryz.ntmps212
  go_wp2_with fail
  go_region
  have hb := (H0.out.1.set 0 (.int .u64 (bits .xor .u64 x (IntKind.u64.wrap (x * 8192))))).drew
  have hc := (H0.out.2.setCell (p := { block := s, off := 0 }) (fun _ => rfl) (.int .u64 (bits .xor .u64 x (IntKind.u64.wrap (x * 8192))))).drew
  generalize (w.setCell { block := s, off := 0 } (.int .u64 (bits .xor .u64 x (IntKind.u64.wrap (x * 8192))))).drew = w1 at *
  generalize bits .xor .u64 x (IntKind.u64.wrap (x * 8192)) = x1 at *
  clear y0 f0 l0 H0
  have y0 := hb.cell 0 rfl
  have f0 := hb.free 0
  have l0 := hb.lt
  have H1 := Hid.mk (And.intro hb hc)
  clear hb hc
  go_wp2_with fail
  go_region
  have hb := (H1.out.1.set 0 (.int .u64 (bits .xor .u64 x1 (x1 / 128)))).drew
  have hc := (H1.out.2.setCell (p := { block := s, off := 0 }) (fun _ => rfl) (.int .u64 (bits .xor .u64 x1 (x1 / 128)))).drew
  generalize (w1.setCell { block := s, off := 0 } (.int .u64 (bits .xor .u64 x1 (x1 / 128)))).drew = w2 at *
  generalize bits .xor .u64 x1 (x1 / 128) = x2 at *
  clear y0 f0 l0 H1
  have y0 := hb.cell 0 rfl
  have f0 := hb.free 0
  have l0 := hb.lt
  have H2 := Hid.mk (And.intro hb hc)
  clear hb hc
  go_wp2_with fail
  go_region
  have hb := (H2.out.1.set 0 (.int .u64 (bits .xor .u64 x2 (IntKind.u64.wrap (x2 * 131072))))).drew
  have hc := (H2.out.2.setCell (p := { block := s, off := 0 }) (fun _ => rfl) (.int .u64 (bits .xor .u64 x2 (IntKind.u64.wrap (x2 * 131072))))).drew
  generalize (w2.setCell { block := s, off := 0 } (.int .u64 (bits .xor .u64 x2 (IntKind.u64.wrap (x2 * 131072))))).drew = w3 at *
  generalize bits .xor .u64 x2 (IntKind.u64.wrap (x2 * 131072)) = x3 at *
  clear y0 f0 l0 H2
  have y0 := hb.cell 0 rfl
  have f0 := hb.free 0
  have l0 := hb.lt
  have H3 := Hid.mk (And.intro hb hc)
  clear hb hc
  go_wp2_with fail
  go_ret
  exact ⟨x3, rfl, H3.out⟩
theorem bits_Len_nat (n : Nat) (hn : n < 4611686018427387904) (w : World) : Calls Tryz.prog 84 #[.int .u64 (n : Int)] w fun e w' => e = .returned (.int .i64 ((Go.Sort.bitsLen n : Nat) : Int)) ∧ w' = w := by
  have h := bits_Len (n : Int) w (by omega) (by omega)
  rwa [Int.toNat_natCast, bitLen_eq _ (by omega)] at h
theorem wrap_pow (k : Nat) (h : k ≤ 62) : IntKind.u64.wrap (2 ^ k : Int) = 2 ^ k := by
  have : (2 : Int) ^ k ≤ 2 ^ 62 := by
    have h1 : 2 ^ k ≤ 2 ^ 62 := Nat.pow_le_pow_right (by decide) h
    exact_mod_cast h1
  have h0 : (0 : Int) ≤ 2 ^ k := Int.pow_nonneg (by decide)
  rw [IntKind.wrap_u64]
  omega
theorem nextPowerOfTwo_any (n : Nat) (hn : n ≤ 1000000) (w : World) : Calls Tryz.prog 211 #[.int .i64 (n : Int)] w fun e w' => e = .returned (.int .u64 (2 ^ Go.Sort.bitsLen n : Int)) ∧ w' = w := by
  have hk : Go.Sort.bitsLen n ≤ 62 := (Go.Sort.bitsLen_le_iff n 62).2 (by omega)
  have hp := wrap_pow (Go.Sort.bitsLen n) hk
  have hL := fun W => bits_Len_nat n (by omega) W
  generalize Go.Sort.bitsLen n = L at *
  go_enter Tryz.func211, Tryz.ntmps211
  go_wp2_with fail
  refine (hL _).mono ?_
  rintro e w1 ⟨rfl, rfl⟩
  go_wp2_with fail
  go_ret
  exact ⟨rfl, rfl⟩
theorem u64_low (k : Nat) (m n : Int) (hm : (BitVec.ofInt 64 m).toNat = 2 ^ k - 1) : bits .and .u64 n m = IntKind.u64.wrap (((n % 18446744073709551616).toNat % 2 ^ k : Nat) : Int) := by
  have h : (BitVec.ofInt 64 n &&& BitVec.ofInt 64 m).toNat = (n % 18446744073709551616).toNat % 2 ^ k := by
    simp only [BitVec.toNat_and, BitVec.toNat_ofInt] at hm ⊢
    rw [hm, Nat.and_two_pow_sub_one_eq_mod]
    rfl
  exact congrArg (fun x : Nat => IntKind.u64.wrap (x : Int)) h
/-- The mask of a row's length. -/
theorem mask_ok (m : Nat) (hm1 : 0 < m) (hm2 : m ≤ 1000000) : ∃ M : Nat, (2 : Int) ^ Go.Sort.bitsLen m = (M : Int) ∧ m < M ∧ M ≤ 2 * m ∧ ∀ v : Int, ∃ o : Nat, o < M ∧ bits .and .u64 v ((M : Int) - 1) = (o : Int) := by
  have h1 := (Go.Sort.bitsLen_le_iff m (Go.Sort.bitsLen m)).1 (Nat.le_refl _)
  have h2 : 2 ^ Go.Sort.bitsLen m ≤ 2 * m := by
    rcases Nat.eq_zero_or_pos (Go.Sort.bitsLen m) with h0 | h0
    · rw [h0]; omega
    · have h3 : ¬ m < 2 ^ (Go.Sort.bitsLen m - 1) := fun h => by
        have := (Go.Sort.bitsLen_le_iff m (Go.Sort.bitsLen m - 1)).2 h
        omega
      have h4 : 2 ^ Go.Sort.bitsLen m = 2 * 2 ^ (Go.Sort.bitsLen m - 1) := by
        rw [← Nat.pow_succ']; congr 1; omega
      omega
  generalize hL : Go.Sort.bitsLen m = L at *
  refine ⟨2 ^ L, by push_cast; rfl, h1, h2, fun v => ⟨(v % 18446744073709551616).toNat % 2 ^ L, Nat.mod_lt _ (Nat.pow_pos (by decide)), ?_⟩⟩
  have h5 : 0 < 2 ^ L := Nat.pow_pos (by decide)
  have h6 : (((2 ^ L : Nat) : Int) - 1) = ((2 ^ L - 1 : Nat) : Int) := by omega
  rw [u64_low L _ v (by
    rw [h6, BitVec.toNat_ofInt]
    have : (((2 ^ L - 1 : Nat) : Int) % 2 ^ 64).toNat = 2 ^ L - 1 := by omega
    exact this), IntKind.wrap_u64]
  have h7 := Nat.mod_lt (v % 18446744073709551616).toNat h5
  omega
set_option maxHeartbeats 4000000 in
set_option maxRecDepth 100000 in
theorem breakPatterns_any (g n cap a b : Nat) (X : List Int) (hn : X.length = n) (hnb : n ≤ 1000000) (hab : a + 8 ≤ b) (hb : b ≤ n) (w : World) (h : URow w g X) :
    Calls Tryz.prog 136 #[.slice (some { block := g, off := 0 }) n cap, .int .i64 (a : Int), .int .i64 (b : Int)] w fun e w' => e = .returned (.tuple #[]) ∧
      ∃ Y, Mix a b X Y ∧ URow w' g Y ∧ Chg (fun k => k = g) w w' := by
  have hgs : g ≠ w.heap.size := by have := h.lt; omega
  have HS := Hid.mk h
  clear h
  obtain ⟨m, hm⟩ : ∃ m, b = a + m := ⟨b - a, by omega⟩
  obtain ⟨q, hq⟩ : ∃ q, m / 4 = q := ⟨_, rfl⟩
  have km : (b : Int) - (a : Int) = (m : Int) := by omega
  have kq : Int.tdiv (m : Int) 4 = (q : Int) := by rw [Int.tdiv_eq_ediv_of_nonneg (by omega)]; omega
  have hq1 : 2 ≤ q := by omega
  have hq2 : 4 * q ≤ m := by omega
  have hm1 : 8 ≤ m := by omega
  have hm2 : a + m ≤ n := by omega
  have hm3 : m ≤ 1000000 := by omega
  have k8 : decide (8 ≤ (m : Int)) = true := decide_eq_true (by omega)
  obtain ⟨M, hM, hM1, hM2, hand⟩ := mask_ok m (by omega) hm3
  have hN := fun W => nextPowerOfTwo_any m hm3 W
  rw [hM] at hN
  have HA := Hid.mk hand
  have HM := Hid.mk hm
  clear hm hq hM hand
  go_enter Tryz.func136, Tryz.ntmps136
  go_wp2_with fail
  have hb1 := Bk.new w 306 #[.int .u64 (m : Int)]
  have hr1 : URow (w.alloc (.cells #[.int .u64 (m : Int)] 306)) g X := HS.out.keep ((Chg.refl Nil w).alloc _) (fun h => h)
  have hc1 : Chg (fun k => k = g) w (w.alloc (.cells #[.int .u64 (m : Int)] 306)) := (Chg.refl _ w).alloc _
  have H1 := Hid.mk (And.intro hb1 (And.intro hr1 hc1))
  clear hb1 hr1 hc1 HS
  refine (hN _).mono ?_
  rintro e w1 ⟨rfl, rfl⟩
  clear hN
  generalize w.alloc (.cells #[.int .u64 (m : Int)] 306) = w1 at *
  go_wp2_with fail
  go_loopw [9] (fun v9 wr => ∃ i : Nat, a + q * 2 ≤ i + 1 ∧ i ≤ a + q * 2 + 2 ∧ v9 = .int .i64 (i : Int) ∧ Hid (∃ Y x, Bk wr w.heap.size 306 #[.int .u64 x] ∧ Mix a b X Y ∧ URow wr g Y ∧ Chg (fun k => k = g) w wr)) (fun v9 _ => a + q * 2 + 2 - (intOf v9).toNat)
  case atStart => exact ⟨a + q * 2 - 1, by omega, by omega, by go_num, Hid.mk ⟨X, m, H1.out.1, .refl (by omega), H1.out.2.1, H1.out.2.2⟩⟩
  case round =>
    obtain ⟨i, hi1, hi2, rfl, HR⟩ := hrel
    clear H1
    obtain ⟨Y, x, HS⟩ : ∃ Y x, Hid (Bk wr w.heap.size 306 #[.int .u64 x] ∧ Mix a b X Y ∧ URow wr g Y ∧ Chg (fun k => k = g) w wr) := by
      obtain ⟨Y, x, h⟩ := HR.out
      exact ⟨Y, x, Hid.mk h⟩
    clear HR
    have hl : Y.length = n := by rw [HS.out.2.1.len.1, hn]
    by_cases hie : i ≤ a + q * 2 + 1
    · have k1 : decide ((i : Int) ≤ (a : Int) + (q : Int) * 2 + 1) = true := decide_eq_true (by omega)
      go_wp2_with fail
      refine (next_any w.heap.size x _ HS.out.1).mono ?_
      rintro e w2 ⟨v, rfl, c1, c2⟩
      obtain ⟨o, ho, hand⟩ := HA.out v
      have wM : IntKind.u64.wrap ((M : Int) - 1) = (M : Int) - 1 := by rw [IntKind.wrap_u64]; omega
      have HT := Hid.mk (And.intro c1 (And.intro HS.out.2.1 (And.intro (HS.out.2.2.1.keep c2 hgs) (HS.out.2.2.2.trans c2 (fun k hk h => by omega)))))
      clear c1 c2 HS
      by_cases hom : m ≤ o
      · have k2 : decide ((m : Int) ≤ (o : Int)) = true := decide_eq_true (by omega)
        obtain ⟨p, hp⟩ : ∃ p, o = m + p := ⟨o - m, by omega⟩
        have kp : (o : Int) - (m : Int) = (p : Int) := by omega
        have hp2 : p < m := by omega
        clear hp
        go_wp2_with fail
        by_cases hsw : i = a + p
        · subst hsw
          have y0 := HT.out.2.2.1.cell (a + p) (by omega)
          have y1 := HT.out.2.2.1.cell (a + p) (by omega)
          have f0 := HT.out.2.2.1.free
          have l0 := HT.out.2.2.1.lt
          go_wp2_with fail
          go_region
          have e1 := (HT.out.2.2.1.sw (i := a + p) (j := a + p) (by omega) (by omega))
          have e2 := chg_sw HT.out.2.2.2 rfl (a + p) (a + p) (.int .u64 (ix Y (a + p))) (.int .u64 (ix Y (a + p)))
          clear y0 y1 f0 l0
          go_wp2_with fail
          have hbk : Bk ((w2.setCell { block := g, off := a + p } (.int .u64 (ix Y (a + p)))).setCell { block := g, off := a + p } (.int .u64 (ix Y (a + p)))).drew w.heap.size 306 #[.int .u64 v] := ((HT.out.1.far (p := { block := g, off := a + p }) (fun h => hgs h.symm) _).far (p := { block := g, off := a + p }) (fun h => hgs h.symm) _).drew
          refine ⟨⟨a + p + 1, by omega, by omega, by go_num, Hid.mk ⟨_, v, hbk, HT.out.2.1.sw (a + p) (a + p) (by omega) (by have := HM.out; omega) (by omega) (by have := HM.out; omega), e1, e2⟩⟩, by simp [intOf]; omega⟩
        · have hsw2 : ¬ (a + p = i) := fun h => hsw h.symm
          have y0 := HT.out.2.2.1.cell (i) (by omega)
          have y1 := HT.out.2.2.1.cell (a + p) (by omega)
          have f0 := HT.out.2.2.1.free
          have l0 := HT.out.2.2.1.lt
          go_wp2_with fail
          go_region
          have e1 := (HT.out.2.2.1.sw (i := i) (j := a + p) (by omega) (by omega))
          have e2 := chg_sw HT.out.2.2.2 rfl (i) (a + p) (.int .u64 (ix Y (a + p))) (.int .u64 (ix Y (i)))
          clear y0 y1 f0 l0
          go_wp2_with fail
          have hbk : Bk ((w2.setCell { block := g, off := i } (.int .u64 (ix Y (a + p)))).setCell { block := g, off := a + p } (.int .u64 (ix Y (i)))).drew w.heap.size 306 #[.int .u64 v] := ((HT.out.1.far (p := { block := g, off := i }) (fun h => hgs h.symm) _).far (p := { block := g, off := a + p }) (fun h => hgs h.symm) _).drew
          refine ⟨⟨i + 1, by omega, by omega, by go_num, Hid.mk ⟨_, v, hbk, HT.out.2.1.sw (i) (a + p) (by omega) (by have := HM.out; omega) (by omega) (by have := HM.out; omega), e1, e2⟩⟩, by simp [intOf]; omega⟩
      · have k2 : decide ((m : Int) ≤ (o : Int)) = false := decide_eq_false (by omega)
        have hp2 : o < m := by omega
        go_wp2_with fail
        by_cases hsw : i = a + o
        · subst hsw
          have y0 := HT.out.2.2.1.cell (a + o) (by omega)
          have y1 := HT.out.2.2.1.cell (a + o) (by omega)
          have f0 := HT.out.2.2.1.free
          have l0 := HT.out.2.2.1.lt
          go_wp2_with fail
          go_region
          have e1 := (HT.out.2.2.1.sw (i := a + o) (j := a + o) (by omega) (by omega))
          have e2 := chg_sw HT.out.2.2.2 rfl (a + o) (a + o) (.int .u64 (ix Y (a + o))) (.int .u64 (ix Y (a + o)))
          clear y0 y1 f0 l0
          go_wp2_with fail
          have hbk : Bk ((w2.setCell { block := g, off := a + o } (.int .u64 (ix Y (a + o)))).setCell { block := g, off := a + o } (.int .u64 (ix Y (a + o)))).drew w.heap.size 306 #[.int .u64 v] := ((HT.out.1.far (p := { block := g, off := a + o }) (fun h => hgs h.symm) _).far (p := { block := g, off := a + o }) (fun h => hgs h.symm) _).drew
          refine ⟨⟨a + o + 1, by omega, by omega, by go_num, Hid.mk ⟨_, v, hbk, HT.out.2.1.sw (a + o) (a + o) (by omega) (by have := HM.out; omega) (by omega) (by have := HM.out; omega), e1, e2⟩⟩, by simp [intOf]; omega⟩
        · have hsw2 : ¬ (a + o = i) := fun h => hsw h.symm
          have y0 := HT.out.2.2.1.cell (i) (by omega)
          have y1 := HT.out.2.2.1.cell (a + o) (by omega)
          have f0 := HT.out.2.2.1.free
          have l0 := HT.out.2.2.1.lt
          go_wp2_with fail
          go_region
          have e1 := (HT.out.2.2.1.sw (i := i) (j := a + o) (by omega) (by omega))
          have e2 := chg_sw HT.out.2.2.2 rfl (i) (a + o) (.int .u64 (ix Y (a + o))) (.int .u64 (ix Y (i)))
          clear y0 y1 f0 l0
          go_wp2_with fail
          have hbk : Bk ((w2.setCell { block := g, off := i } (.int .u64 (ix Y (a + o)))).setCell { block := g, off := a + o } (.int .u64 (ix Y (i)))).drew w.heap.size 306 #[.int .u64 v] := ((HT.out.1.far (p := { block := g, off := i }) (fun h => hgs h.symm) _).far (p := { block := g, off := a + o }) (fun h => hgs h.symm) _).drew
          refine ⟨⟨i + 1, by omega, by omega, by go_num, Hid.mk ⟨_, v, hbk, HT.out.2.1.sw (i) (a + o) (by omega) (by have := HM.out; omega) (by omega) (by have := HM.out; omega), e1, e2⟩⟩, by simp [intOf]; omega⟩
    · have k1 : decide ((i : Int) ≤ (a : Int) + (q : Int) * 2 + 1) = false := decide_eq_false (by omega)
      go_wp2_with fail
      refine bodyPost_end (results_none rfl _ _ _) rfl ?_
      exact ⟨rfl, Y, HS.out.2⟩

end Go.Proofs.YtkemmffdiclloaaGreatDoor
namespace Go.Proofs.YtkemmffdiclloaaGreatDoor
open Go.RowKit
set_option maxHeartbeats 16000000 in
set_option maxRecDepth 100000 in
theorem partialInsertion_any (g n cap a b : Nat) (X : List Int) (hn : X.length = n) (hnb : n ≤ 1000000) (hab : a < b) (hb : b ≤ n) (hlow : Low X a b) (w : World) (h : URow w g X) :
    Calls Tryz.prog 139 #[.slice (some { block := g, off := 0 }) n cap, .int .i64 (a : Int), .int .i64 (b : Int)] w fun e w' => ∃ ok Y, e = .returned (.bool ok) ∧
      Mix a b X Y ∧ (ok = true → Srt Y a b) ∧ URow w' g Y ∧ Chg (fun k => k = g) w w' := by
  have H0 := Hid.mk h
  have HL := Hid.mk hlow
  clear h hlow
  go_enter Tryz.func139, Tryz.ntmps139
  go_wp2_with fail
  go_loopw [7, 8] (fun v7 v8 wr => ∃ i k : Nat, a + 1 ≤ i ∧ i ≤ b ∧ k ≤ 5 ∧ v7 = .int .i64 (i : Int) ∧ v8 = .int .i64 (k : Int) ∧ Hid (∃ Y, Mix a b X Y ∧ Srt Y a i ∧ URow wr g Y ∧ Chg (fun k => k = g) w wr)) (fun _ v8 _ => 5 - (intOf v8).toNat)
  case atStart => exact ⟨a + 1, 0, by omega, by omega, by omega, by go_num, rfl, Hid.mk ⟨X, .refl (by omega), srt_one _ _ _ (by omega), H0.out, Chg.refl _ _⟩⟩
  case round =>
    obtain ⟨i0, k, hi1, hi2, hk, rfl, rfl, HR⟩ := hrel
    clear H0
    by_cases hk5 : k < 5
    · have k1 : decide ((k : Int) < 5) = true := decide_eq_true (by omega)
      obtain ⟨Y, HS⟩ : ∃ Y, Hid (Mix a b X Y ∧ Srt Y a i0 ∧ URow wr g Y ∧ Chg (fun k => k = g) w wr) := by
        obtain ⟨Y, h⟩ := HR.out
        exact ⟨Y, Hid.mk h⟩
      clear HR
      have hl : Y.length = n := by rw [HS.out.1.len.1, hn]
      obtain ⟨wo, hwo⟩ : ∃ wo, wo = wr := ⟨_, rfl⟩
      subst hwo
      go_upto_block 2 with fail
      go_cut [7] from 13 to 132 (fun vq wx => ∃ i : Nat, vq = .int .i64 (i : Int) ∧ a + 1 ≤ i ∧ i ≤ b ∧ Hid (Mix a b X Y ∧ Srt Y a i ∧ URow wx g Y ∧ Chg (fun k => k = g) w wx) ∧ Hid (i < b → ix Y i < ix Y (i - 1)))
      case first =>
        go_wp2_with fail
        go_loopw [7] (fun vq wr => ∃ i : Nat, vq = .int .i64 (i : Int) ∧ a + 1 ≤ i ∧ i ≤ b ∧ Hid (Mix a b X Y ∧ Srt Y a i ∧ URow wr g Y ∧ Chg (fun k => k = g) w wr)) (fun vq _ => b - (intOf vq).toNat)
        case atStart => exact ⟨i0, rfl, hi1, hi2, HS⟩
        case round =>
          obtain ⟨i, rfl, hi3, hi4, HR⟩ := hrel
          clear HS
          by_cases hib : i < b
          · have k2 : decide ((i : Int) < (b : Int)) = true := decide_eq_true (by omega)
            have x0 : ∀ z : After wr, z.world.cell? ⟨g, i, none⟩ = some (.int .u64 (ix Y (i))) := fun z => (HR.out.2.2.1.after z).cell (i) (by omega)
            have x1 : ∀ z : After wr, z.world.cell? ⟨g, i - 1, none⟩ = some (.int .u64 (ix Y (i - 1))) := fun z => (HR.out.2.2.1.after z).cell (i - 1) (by omega)
            go_wp2_with fail
            have hne := After.some wr
            refine wp_region_after (by kernel_rfl) (by kernel_rfl) ?_
            repeat (go_big_quiet_step (exact After.callE (lessE _ _) _))
            refine wpQuiet_nil ?_
            rintro _ ⟨z, rfl⟩
            have HT := Hid.mk (And.intro (HR.out.1) (And.intro (HR.out.2.1) (And.intro (HR.out.2.2.1.after z) (HR.out.2.2.2.trans z.chg (T := Nil) (fun _ _ h => h.elim)))))
            clear HR hne x0 x1
            generalize z.world = wz at *
            clear z
            generalize hdd : decide (ix Y i < ix Y (i - 1)) = bb
            have HD := Hid.mk hdd
            clear hdd
            cases bb with
            | false =>
              go_wp2_with fail
              have hlt := of_decide_eq_false HD.out
              refine ⟨⟨i + 1, by go_num, by omega, by omega, Hid.mk ⟨HT.out.1, Ins.done (Ins.start HT.out.2.1 (by omega)) (.inr (by omega)), HT.out.2.2.1, HT.out.2.2.2⟩⟩, by simp [intOf]; omega⟩
            | true =>
              go_wp2_with fail
              go_meet
              exact ⟨i, rfl, hi3, hi4, HT, Hid.mk (fun _ => of_decide_eq_true HD.out)⟩
          · have k2 : decide ((i : Int) < (b : Int)) = false := decide_eq_false (by omega)
            go_wp2_with fail
            have hne := After.some wr
            refine wp_region_after (by kernel_rfl) (by kernel_rfl) ?_
            repeat (go_big_quiet_step (fail))
            refine wpQuiet_nil ?_
            rintro _ ⟨z, rfl⟩
            have HT := Hid.mk (And.intro (HR.out.1) (And.intro (HR.out.2.1) (And.intro (HR.out.2.2.1.after z) (HR.out.2.2.2.trans z.chg (T := Nil) (fun _ _ h => h.elim)))))
            clear HR hne
            generalize z.world = wz at *
            clear z
            go_wp2_with fail
            go_meet
            exact ⟨i, rfl, hi3, hi4, HT, Hid.mk (fun h => absurd h hib)⟩
      case rest =>
        clear HS
        obtain ⟨i, rfl, hi3, hi4, HT, HX⟩ := hcut
        by_cases hib : i = b
        · have k2 : ((i : Int) == (b : Int)) = true := by rw [hib]; simp
          have HE : Hid (Mix a b X Y ∧ Srt Y a b ∧ URow wc g Y ∧ Chg (fun k => k = g) w wc) := Hid.mk (by rw [← hib]; exact hib ▸ HT.out)
          clear HT HX
          go_wp2_with fail
          go_ret
          exact ⟨true, Y, rfl, HE.out.1, fun _ => HE.out.2.1, HE.out.2.2⟩
        · have k2 : ((i : Int) == (b : Int)) = false := by rw [beq_eq_false_iff_ne]; omega
          by_cases h50 : b - a < 50
          · have k3 : decide ((b : Int) - (a : Int) < 50) = true := decide_eq_true (by omega)
            go_wp2_with fail
            go_ret
            exact ⟨false, Y, rfl, HT.out.1, fun h => (by cases h), HT.out.2.2⟩
          · have k3 : decide ((b : Int) - (a : Int) < 50) = false := decide_eq_false (by omega)
            have hsw := part_swap HT.out.2.1 (by omega) (by omega) (show i < b by omega) (HX.out (by omega))
            have HW := Hid.mk hsw
            have y0 := HT.out.2.2.1.cell (i) (by omega)
            have y1 := HT.out.2.2.1.cell (i - 1) (by omega)
            have f0 := HT.out.2.2.1.free
            have l0 := HT.out.2.2.1.lt
            clear hsw
            go_wp2_with fail
            go_region
            have e1 := (HT.out.2.2.1.sw (i := i) (j := i - 1) (by omega) (by omega))
            have e2 := chg_sw HT.out.2.2.2 rfl (i) (i - 1) (.int .u64 (ix Y (i - 1))) (.int .u64 (ix Y (i)))
            clear y0 y1 f0 l0
            have hly : (sw Y i (i - 1)).length = n := by rw [sw_len, hl]
            have HE : Hid (Mix a b X (sw Y i (i - 1)) ∧ Ins (sw Y i (i - 1)) a (i - 1) (i - 1) ∧ URow _ g (sw Y i (i - 1)) ∧ Chg (fun k => k = g) w _) := Hid.mk ⟨HT.out.1.sw i (i - 1) (by omega) (by omega) (by omega) (by omega), HW.out.1, e1, e2⟩
            clear e1 e2 HT HX HW hl
            generalize sw Y i (i - 1) = Z at *
            go_upto_if 61 with fail
            go_cut [] from 13 to 132 (fun wx => Hid (∃ Y, Mix a b X Y ∧ Srt Y a i ∧ URow wx g Y ∧ Chg (fun k => k = g) w wx))
            case first =>
              by_cases hia : 2 ≤ i - a
              · have k4 : decide (2 ≤ (i : Int) - (a : Int)) = true := decide_eq_true (by omega)
                go_wp2_with fail
                go_loopw [9] (fun vq wr => ∃ j : Nat, a ≤ j ∧ j ≤ i - 1 ∧ vq = .int .i64 (j : Int) ∧ Hid (∃ Y, Mix a b X Y ∧ Ins Y a (i - 1) j ∧ URow wr g Y ∧ Chg (fun k => k = g) w wr)) (fun vq _ => (intOf vq).toNat)
                case atStart => exact ⟨i - 1, by omega, Nat.le_refl _, by go_num, Hid.mk ⟨_, HE.out⟩⟩
                case round =>
                  obtain ⟨j, hj1, hj2, rfl, HR⟩ := hrel
                  clear HE hly
                  obtain ⟨Y, HS⟩ : ∃ Y, Hid (Mix a b X Y ∧ Ins Y a (i - 1) j ∧ URow wr g Y ∧ Chg (fun k => k = g) w wr) := by
                    obtain ⟨Y, h⟩ := HR.out
                    exact ⟨Y, Hid.mk h⟩
                  clear HR
                  have hl : Y.length = n := by rw [HS.out.1.len.1, hn]
                  have hi1 : i - 1 + 1 = i := by omega
                  by_cases hj0 : 1 ≤ j
                  · have k5 : decide (1 ≤ (j : Int)) = true := decide_eq_true (by omega)
                    clear hi1
                    have x0 : ∀ z : After wr, z.world.cell? ⟨g, j, none⟩ = some (.int .u64 (ix Y (j))) := fun z => (HS.out.2.2.1.after z).cell (j) (by omega)
                    have x1 : ∀ z : After wr, z.world.cell? ⟨g, j - 1, none⟩ = some (.int .u64 (ix Y (j - 1))) := fun z => (HS.out.2.2.1.after z).cell (j - 1) (by omega)
                    go_wp2_with fail
                    have hne := After.some wr
                    refine wp_region_after (by kernel_rfl) (by kernel_rfl) ?_
                    repeat (go_big_quiet_step (exact After.callE (lessE _ _) _))
                    refine wpQuiet_nil ?_
                    rintro _ ⟨z, rfl⟩
                    have HU := Hid.mk (And.intro (HS.out.1) (And.intro (HS.out.2.1) (And.intro (HS.out.2.2.1.after z) (HS.out.2.2.2.trans z.chg (T := Nil) (fun _ _ h => h.elim)))))
                    clear HS hne x0 x1
                    generalize z.world = wz at *
                    clear z
                    generalize hdd : decide (ix Y j < ix Y (j - 1)) = bb
                    have HD := Hid.mk hdd
                    clear hdd
                    cases bb with
                    | true =>
                      have hlt := of_decide_eq_true HD.out
                      have haj : a < j := by
                        rcases Nat.lt_or_ge a j with h | h
                        · exact h
                        · have e : a = j := by omega
                          subst e
                          have := (HL.out.mix HU.out.1) (by omega) a (Nat.le_refl _) (by omega)
                          omega
                      have y0 := HU.out.2.2.1.cell (j) (by omega)
                      have y1 := HU.out.2.2.1.cell (j - 1) (by omega)
                      have f0 := HU.out.2.2.1.free
                      have l0 := HU.out.2.2.1.lt
                      go_wp2_with fail
                      go_region
                      have e1 := (HU.out.2.2.1.sw (i := j) (j := j - 1) (by omega) (by omega))
                      have e2 := chg_sw HU.out.2.2.2 rfl (j) (j - 1) (.int .u64 (ix Y (j - 1))) (.int .u64 (ix Y (j)))
                      clear y0 y1 f0 l0
                      go_wp2_with fail
                      refine ⟨⟨j - 1, by omega, by omega, by go_num, Hid.mk ⟨_, HU.out.1.sw j (j - 1) (by omega) (by omega) (by omega) (by omega), HU.out.2.1.step (by omega) haj hlt, e1, e2⟩⟩, by simp [intOf]; omega⟩
                    | false =>
                      go_wp2_with fail
                      have hlt := of_decide_eq_false HD.out
                      go_meet
                      refine Hid.mk ⟨Y, HU.out.1, ?_, HU.out.2.2⟩
                      have := HU.out.2.1.done (.inr (by omega))
                      rwa [show i - 1 + 1 = i by omega] at this
                  · have k5 : decide (1 ≤ (j : Int)) = false := decide_eq_false (by omega)
                    clear hi1
                    go_wp2_with fail
                    go_meet
                    refine Hid.mk ⟨Y, HS.out.1, ?_, HS.out.2.2⟩
                    have := HS.out.2.1.done (.inl (by omega))
                    rwa [show i - 1 + 1 = i by omega] at this
              · have k4 : decide (2 ≤ (i : Int) - (a : Int)) = false := decide_eq_false (by omega)
                go_wp2_with fail
                go_meet
                exact Hid.mk ⟨Z, HE.out.1, srt_one _ _ _ (by omega), HE.out.2.2⟩
            case rest =>
              clear HE hly
              obtain ⟨wo, hwo⟩ : ∃ wo, wo = wc := ⟨_, rfl⟩
              subst hwo
              obtain ⟨Y, HS⟩ : ∃ Y, Hid (Mix a b X Y ∧ Srt Y a i ∧ URow wo g Y ∧ Chg (fun k => k = g) w wo) := by
                obtain ⟨Y, h⟩ := hcut.out
                exact ⟨Y, Hid.mk h⟩
              clear hcut
              by_cases hbi : 2 ≤ b - i
              · have k4 : decide (2 ≤ (b : Int) - (i : Int)) = true := decide_eq_true (by omega)
                go_wp2_with fail
                go_loopw [10] (fun vq wr => ∃ j : Nat, i + 1 ≤ j ∧ j ≤ b ∧ vq = .int .i64 (j : Int) ∧ Hid (∃ Y, Mix a b X Y ∧ Srt Y a i ∧ URow wr g Y ∧ Chg (fun k => k = g) w wr)) (fun vq _ => b - (intOf vq).toNat)
                case atStart => exact ⟨i + 1, Nat.le_refl _, by omega, by go_num, Hid.mk ⟨Y, HS.out⟩⟩
                case round =>
                  obtain ⟨j, hj1, hj2, rfl, HR⟩ := hrel
                  clear HS
                  obtain ⟨Y, HS⟩ : ∃ Y, Hid (Mix a b X Y ∧ Srt Y a i ∧ URow wr g Y ∧ Chg (fun k => k = g) w wr) := by
                    obtain ⟨Y, h⟩ := HR.out
                    exact ⟨Y, Hid.mk h⟩
                  clear HR
                  have hl : Y.length = n := by rw [HS.out.1.len.1, hn]
                  by_cases hjb : j < b
                  · have k5 : decide ((j : Int) < (b : Int)) = true := decide_eq_true (by omega)
                    have x0 : ∀ z : After wr, z.world.cell? ⟨g, j, none⟩ = some (.int .u64 (ix Y (j))) := fun z => (HS.out.2.2.1.after z).cell (j) (by omega)
                    have x1 : ∀ z : After wr, z.world.cell? ⟨g, j - 1, none⟩ = some (.int .u64 (ix Y (j - 1))) := fun z => (HS.out.2.2.1.after z).cell (j - 1) (by omega)
                    go_wp2_with fail
                    have hne := After.some wr
                    refine wp_region_after (by kernel_rfl) (by kernel_rfl) ?_
                    repeat (go_big_quiet_step (exact After.callE (lessE _ _) _))
                    refine wpQuiet_nil ?_
                    rintro _ ⟨z, rfl⟩
                    have HU := Hid.mk (And.intro (HS.out.1) (And.intro (HS.out.2.1) (And.intro (HS.out.2.2.1.after z) (HS.out.2.2.2.trans z.chg (T := Nil) (fun _ _ h => h.elim)))))
                    clear HS hne x0 x1
                    generalize z.world = wz at *
                    clear z
                    generalize hdd : decide (ix Y j < ix Y (j - 1)) = bb
                    clear hdd
                    cases bb with
                    | true =>
                      have y0 := HU.out.2.2.1.cell (j) (by omega)
                      have y1 := HU.out.2.2.1.cell (j - 1) (by omega)
                      have f0 := HU.out.2.2.1.free
                      have l0 := HU.out.2.2.1.lt
                      go_wp2_with fail
                      go_region
                      have e1 := (HU.out.2.2.1.sw (i := j) (j := j - 1) (by omega) (by omega))
                      have e2 := chg_sw HU.out.2.2.2 rfl (j) (j - 1) (.int .u64 (ix Y (j - 1))) (.int .u64 (ix Y (j)))
                      clear y0 y1 f0 l0
                      go_wp2_with fail
                      refine ⟨⟨j + 1, by omega, by omega, by go_num, Hid.mk ⟨_, HU.out.1.sw j (j - 1) (by omega) (by omega) (by omega) (by omega), HU.out.2.1.out ((Mix.refl (a := i) (b := b) (by omega)).sw j (j - 1) (by omega) (by omega) (by omega) (by omega)) (.inl (Nat.le_refl _)), e1, e2⟩⟩, by simp [intOf]; omega⟩
                    | false =>
                      go_wp2_with fail
                      refine ⟨⟨i, k + 1, by omega, by omega, by omega, rfl, by go_num, Hid.mk ⟨Y, HU.out⟩⟩, by simp [intOf]; omega⟩
                  · have k5 : decide ((j : Int) < (b : Int)) = false := decide_eq_false (by omega)
                    go_wp2_with fail
                    refine ⟨⟨i, k + 1, by omega, by omega, by omega, rfl, by go_num, Hid.mk ⟨Y, HS.out⟩⟩, by simp [intOf]; omega⟩
              · have k4 : decide (2 ≤ (b : Int) - (i : Int)) = false := decide_eq_false (by omega)
                go_wp2_with fail
                refine ⟨⟨i, k + 1, by omega, by omega, by omega, rfl, by go_num, Hid.mk ⟨Y, HS.out⟩⟩, by simp [intOf]; omega⟩
    · have k1 : decide ((k : Int) < 5) = false := decide_eq_false (by omega)
      obtain ⟨Y, HS⟩ : ∃ Y, Hid (Mix a b X Y ∧ Srt Y a i0 ∧ URow wr g Y ∧ Chg (fun k => k = g) w wr) := by
        obtain ⟨Y, h⟩ := HR.out
        exact ⟨Y, Hid.mk h⟩
      clear HR
      go_wp2_with fail
      go_ret
      exact ⟨false, Y, rfl, HS.out.1, fun h => (by cases h), HS.out.2.2⟩

end Go.Proofs.YtkemmffdiclloaaGreatDoor
