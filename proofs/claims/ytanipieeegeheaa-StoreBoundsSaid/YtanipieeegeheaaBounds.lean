/- Joined for this seat from: XSBounds. -/
import Derived.Deep.RegionHeld3
import Derived.Deep.CutRange
import Derived.Deep.DeepCutAuto
import Derived.Test.YtanipieeegeheaaTf
namespace Go.Proofs.Ytanipieeegeheaa
open Go.RowKit

def bOp (i : Nat) : Oq := ⟨1, ⟨(i : Int) + 1, 0, 0, 0⟩⟩
def bPt (i : Nat) : Pt := ⟨(i : Int) + 1, 0, 0, 0⟩
def bPts (m : Nat) : List Pt := (List.range m).map bPt
def bSeg (a n : Nat) : List Oq := (List.range' a n).map bOp
theorem bPts_len (m : Nat) : (bPts m).length = m := by simp [bPts]
theorem bPts_get (m i : Nat) : (bPts m)[i]? = if i < m then some (bPt i) else none := by
  unfold bPts
  rw [List.getElem?_map]
  by_cases h : i < m
  · rw [List.getElem?_range h, if_pos h]; rfl
  · rw [List.getElem?_eq_none (by rw [List.length_range]; omega), if_neg h]; rfl
theorem bPts_snoc (m : Nat) : bPts (m + 1) = bPts m ++ [bPt m] := by simp [bPts, List.range_succ]
theorem bSeg_snoc (a n : Nat) : bSeg a (n + 1) = bSeg a n ++ [bOp (a + n)] := by simp [bSeg, List.range'_concat]
theorem bSeg_len (a n : Nat) : (bSeg a n).length = n := by simp [bSeg]
theorem bSeg_mem {a n : Nat} {o : Oq} (h : o ∈ bSeg a n) : ∃ i, i < a + n ∧ o = bOp i := by
  unfold bSeg at h
  obtain ⟨i, hi, rfl⟩ := List.mem_map.1 h
  have := List.mem_range'_1.1 hi
  exact ⟨i, by omega, rfl⟩
theorem step_b (m : Nat) : stepP (bPts m) (bOp m) = bPts (m + 1) := by
  have hp : posP (bPts m) ((m : Int) + 1) = m := by
    refine posP_eq (by rw [bPts_len]; exact Nat.le_refl _) (fun t p ht hp => ?_) (fun p hp => ?_)
    · rw [bPts_get, if_pos ht] at hp
      injection hp with hp
      rw [← hp]
      show (t : Int) + 1 < (m : Int) + 1
      omega
    · rw [bPts_get, if_neg (by omega)] at hp; cases hp
  have hh : hasP (bPts m) ((m : Int) + 1) = false := by
    unfold hasP
    rw [hp, bPts_get, if_neg (by omega)]
  unfold stepP
  rw [if_pos (show (bOp m).kind = 1 from rfl)]
  unfold setP
  show (bPts m).take (posP (bPts m) ((m : Int) + 1)) ++ bPt m :: (bPts m).drop (posP (bPts m) ((m : Int) + 1) + if hasP (bPts m) ((m : Int) + 1) = true then 1 else 0) = _
  rw [hp, hh, bPts_snoc, List.take_of_length_le (by rw [bPts_len]; exact Nat.le_refl _), List.drop_of_length_le (by rw [bPts_len]; simp)]
theorem do_b (a n : Nat) : doP (bPts a) (bSeg a n) = bPts (a + n) := by
  induction n with
  | zero => rfl
  | succ n ih =>
    rw [bSeg_snoc, doP_app, ih]
    exact step_b (a + n)
theorem bOp_ok (i : Nat) (h : i < 3000) : (bOp i).ok = true := by
  have h1 : decide ((i : Int) + 1 ≥ 1) = true := decide_eq_true (by omega)
  have h2 : decide ((i : Int) + 1 ≤ 2147483648) = true := decide_eq_true (by omega)
  show (if (1 : Int) = 1 then (keyOk ((i : Int) + 1) && inOk 0 && inOk 0 && decide ((0 : Int) ≥ -2147483648) && decide ((0 : Int) ≤ 2147483647)) else _) = true
  rw [if_pos rfl, keyOk, h1, h2]
  decide
theorem bSeg_E (a n : Nat) (h0 : 0 < n) (hn : n ≤ 400) (ha : a + n ≤ 3000) : batE (bSeg a n) = 0 := by
  rw [batE_all (by rw [bSeg_len]; omega) (fun j o ho => by
    obtain ⟨i, hi, rfl⟩ := bSeg_mem (List.mem_of_getElem? ho)
    exact bOp_ok i (by omega)), bSeg_len, if_neg (by omega)]
/-- The store, at m points. -/
def bSp (m u used : Nat) : Sp := ⟨50000, 100000, -1, 1, u, bPts m, used, false⟩
theorem b_more (a n u used : Nat) (D : Dp) (h0 : 0 < n) (hn : n ≤ 400) (ha : a + n ≤ 2000) (hu : u ≤ a) (hus : used ≤ 30 * a) (hf : D.free) (hw : D.waits.length ≤ a) :
    ∃ D2 used2, applyP (bSp a u used) D (bSeg a n) = (bSp (a + n) (u + 1) used2, D2, 0) ∧ used2 ≤ 30 * (a + n) ∧ D2.free ∧ D2.waits.length ≤ a + n := by
  have hl := batB_len (bSeg a n)
  rw [bSeg_len] at hl
  have he : applyE (bSp a u used) (bSeg a n) = 0 := applyE_zero rfl (bSeg_E a n h0 hn (by omega)) (by show (doP (bPts a) (bSeg a n)).length ≤ 2000; rw [do_b, bPts_len]; omega) (by show used + ((batB (bSeg a n)).length + 13) ≤ 100000; omega) (by show u < _; omega)
  refine ⟨_, used + ((batB (bSeg a n)).length + 13), ?_, by omega, Dp.free_write hf (2 * 50000 + used) (recB 1 (batB (bSeg a n))), ?_⟩
  · rw [applyP_zero he hf.dead]
    show (Sp.mk _ _ _ _ _ (doP (bPts a) (bSeg a n)) _ _, _, 0) = _
    rw [do_b]
    rfl
  · show (D.waits ++ [(_, _)]).length ≤ _
    rw [List.length_append, List.length_singleton]
    omega
theorem b_full (a n u used : Nat) (D : Dp) (h0 : 0 < n) (hn : n ≤ 400) (ha : 2000 < a + n) (ha3 : a + n ≤ 3000) : applyP (bSp a u used) D (bSeg a n) = (bSp a u used, D, 7) := by
  have he : applyE (bSp a u used) (bSeg a n) = 7 := by
    unfold applyE
    rw [show (bSp a u used).broken = false from rfl, if_neg (by decide), bSeg_E a n h0 hn ha3, if_neg (by omega), if_pos (by show 2000 < (doP (bPts a) (bSeg a n)).length; rw [do_b, bPts_len]; exact ha)]
  rw [applyP_no (by omega), he]
theorem openB_iff (n : Nat) (s l : Int) : openB n s l = true ↔ 21 ≤ s ∧ 0 ≤ l ∧ 2 * s + l ≤ (n : Int) := by simp [openB, and_assoc]
theorem open_gen (n slots log : Nat) (hn : n ≤ 1000000) (h1 : 21 ≤ slots) (h2 : 2 * slots + log ≤ n) : ∃ D1 : Dp, D1.free ∧ D1.waits.length ≤ 0 ∧ ∀ {g : Nat} {M R : Nat → Prop} {w1 : World}, Dk w1 g M R (Dp.new (n : Int)) →
    Calls Try.prog 13 #[.pointer (some ⟨g, 0, none⟩), .int .i64 (slots : Int), .int .i64 (log : Int)] w1 fun e w' => OpenIs w1 g M R (D1, 0) (freshS slots log) e w' := by
  have hnl : (Dp.new n).now.length = n := new_len hn
  have o1 : Opened (Dp.new n) (freshS slots log) (freshS slots log) [] := opened_new hn h1 h2
  have e1 : openD (Dp.new n) slots log = ((openD (Dp.new n) slots log).1, 0) := Prod.ext rfl o1.res
  have e2 : openS (Dp.new n) slots log = freshS slots log := o1.openS
  refine ⟨(openD (Dp.new n) slots log).1, o1.free, o1.inv.many, fun {g M R w1} h => ?_⟩
  have := open_any h slots log h1 (by rw [hnl]; exact h2) (by show (0 : Nat) ≤ _; omega)
  rw [e2, e1] at this
  exact this
theorem open_big : ∃ D1 : Dp, D1.free ∧ D1.waits.length ≤ 0 ∧ ∀ {g : Nat} {M R : Nat → Prop} {w1 : World}, Dk w1 g M R (Dp.new 200000) →
    Calls Try.prog 13 #[.pointer (some ⟨g, 0, none⟩), .int .i64 50000, .int .i64 100000] w1 fun e w' => OpenIs w1 g M R (D1, 0) (bSp 0 0 0) e w' := by
  have h := open_gen 200000 50000 100000 (by omega) (by omega) (by omega)
  rw [show ((200000 : Nat) : Int) = 200000 by simp, show ((50000 : Nat) : Int) = 50000 by simp, show ((100000 : Nat) : Int) = 100000 by simp] at h
  exact h
set_option maxHeartbeats 4000000 in
set_option maxRecDepth 100000 in
theorem storeBounds_walk (slots log n : Int) (w : World) (hs : -9223372036854775808 ≤ slots ∧ slots ≤ 9223372036854775807) (hl : -9223372036854775808 ≤ log ∧ log ≤ 9223372036854775807) :
    Calls Try.prog 6 #[.int .i64 slots, .int .i64 log, .int .i64 n] w fun e w' => e = .returned (.bool true) ∧ Chg Nil w w' := by
  obtain ⟨C, hC, hC15⟩ := i64_and_mask n 15 4 rfl (by omega)
  have hC' : bits .and .i64 n 15 = (C : Int) := hC
  obtain ⟨L, hL⟩ : ∃ L, L = C + 1992 := ⟨_, rfl⟩
  have hLi : (C : Int) + 1992 = (L : Int) := by omega
  have hL1 : 1992 ≤ L := by omega
  have hL2 : L ≤ 2007 := by omega
  have HLi := Hid.mk hLi
  have hnl3 : (Dp.new 3000).now.length = 3000 := new_len (n := 3000) (by omega)
  obtain ⟨gd, hgd⟩ : ∃ gd, gd = openB 3000 slots log := ⟨_, rfl⟩
  have HG := Hid.mk (And.intro hgd hnl3)
  clear hC hL hLi hgd hnl3
  go_enter Try.func6, Try.ntmps6
  go_wp2_with fail
  refine (dnew_any 3000 w).mono ?_
  rintro e w1 ⟨ga, M, R, rfl, c1, d1, low1⟩
  have H1 := Hid.mk (Live.mk c1 d1 low1)
  clear c1 d1 low1
  go_wp2_with fail
  refine (open_nil 100 100 (w := w1)).mono ?_
  rintro e w2 ⟨rfl, c2⟩
  have H2 := Hid.mk (H1.out.nil c2)
  clear c2
  go_upto_region 3 with fail
  go_cut [10, 11] from 25 to 31 (fun p f wx => ((gd = true ∧ ∃ gs : Nat, p = .pointer (some ⟨gs, 0, none⟩) ∧ f = .int .i64 0) ∨ (gd = false ∧ p = .pointer none ∧ f = .int .i64 1)) ∧ Hid (Chg Nil w wx))
  case first =>
    cases gd with
    | false =>
      have hop := open_bad H2.out.dk slots log hs hl (by rw [HG.out.2]; exact HG.out.1.symm)
      go_wp2_with fail
      refine hop.mono ?_
      rintro e w3 ⟨rfl, c3⟩
      have H3 := Hid.mk (H2.out.chg.trans c3 (fun _ _ h => h))
      clear c3
      go_wp2_with fail
      go_meet
      exact ⟨.inr ⟨trivial, rfl, rfl⟩, H3⟩
    | true =>
      obtain ⟨b1, b2, b3⟩ := (openB_iff _ _ _).1 HG.out.1.symm
      obtain ⟨sn, rfl⟩ := Int.eq_ofNat_of_zero_le (show 0 ≤ slots by omega)
      obtain ⟨ln, rfl⟩ := Int.eq_ofNat_of_zero_le b2
      have o1 : Opened (Dp.new 3000) (freshS sn ln) (freshS sn ln) [] := opened_new (n := 3000) (by omega) (by omega) (by omega)
      have hop := open_any H2.out.dk sn ln (by omega) (by rw [HG.out.2]; omega) (by show (0 : Nat) ≤ _; omega)
      have e1 : openD (Dp.new 3000) sn ln = ((openD (Dp.new 3000) sn ln).1, 0) := Prod.ext rfl o1.res
      rw [e1] at hop
      generalize (openD (Dp.new 3000) sn ln).1 = D1 at *
      clear o1 e1
      go_wp2_with fail
      refine hop.mono ?_
      rintro e w3 ho
      rcases H2.out.opened ho with ⟨_, gs, M3, R3, rfl, r3⟩ | ⟨h9, _⟩
      rotate_left
      · exact absurd h9 (by simp)
      have H3 := Hid.mk r3.chg
      clear r3 ho hop
      go_wp2_with fail
      go_meet
      exact ⟨.inl ⟨trivial, _, rfl, rfl⟩, H3⟩
  case rest =>
    obtain ⟨hpf, HC3⟩ := hcut
    have HPF := Hid.mk hpf
    clear hpf
    go_upto_region 4 with fail
    go_cut [12] from 32 to 52 (fun g wx => g = .bool gd ∧ wx = wc)
    case first =>
      by_cases h1 : 21 ≤ slots
      · by_cases h2 : slots ≤ 3000
        · by_cases h3 : 0 ≤ log
          · by_cases h4 : log ≤ 3000
            · by_cases h5 : 2 * slots + log ≤ 3000
              · have hgt : gd = true := by rw [HG.out.1]; exact (openB_iff _ _ _).2 ⟨h1, h3, h5⟩
                have HGT := Hid.mk hgt
                clear hgt
                go_wp2_with fail
                go_meet
                exact ⟨by rw [HGT.out], rfl⟩
              · have hgt : gd = false := by
                  cases gd with
                  | false => rfl
                  | true => have := (openB_iff _ _ _).1 HG.out.1.symm; omega
                have HGT := Hid.mk hgt
                clear hgt
                go_wp2_with fail
                go_meet
                exact ⟨by rw [HGT.out], rfl⟩
            · have hgt : gd = false := by
                cases gd with
                | false => rfl
                | true => have := (openB_iff _ _ _).1 HG.out.1.symm; omega
              have HGT := Hid.mk hgt
              clear hgt
              go_wp2_with fail
              go_meet
              exact ⟨by rw [HGT.out], rfl⟩
          · have hgt : gd = false := by
              cases gd with
              | false => rfl
              | true => have := (openB_iff _ _ _).1 HG.out.1.symm; omega
            have HGT := Hid.mk hgt
            clear hgt
            go_wp2_with fail
            go_meet
            exact ⟨by rw [HGT.out], rfl⟩
        · have hgt : gd = false := by
            cases gd with
            | false => rfl
            | true => have := (openB_iff _ _ _).1 HG.out.1.symm; omega
          have HGT := Hid.mk hgt
          clear hgt
          go_wp2_with fail
          go_meet
          exact ⟨by rw [HGT.out], rfl⟩
      · have hgt : gd = false := by
          cases gd with
          | false => rfl
          | true => have := (openB_iff _ _ _).1 HG.out.1.symm; omega
        have HGT := Hid.mk hgt
        clear hgt
        go_wp2_with fail
        go_meet
        exact ⟨by rw [HGT.out], rfl⟩
    case rest =>
      obtain ⟨rfl, rfl⟩ := hcut
      go_upto_region 5 with fail
      go_cut [74] from 53 to 74 (fun b wx => b = .bool false ∧ wx = wc)
      case first =>
        rcases HPF.out with ⟨hg, gs, rfl, rfl⟩ | ⟨hg, rfl, rfl⟩
        · subst hg
          go_wp2_with fail
          go_meet
          exact ⟨rfl, rfl⟩
        · subst hg
          go_wp2_with fail
          go_meet
          exact ⟨rfl, rfl⟩
      case rest =>
        obtain ⟨rfl, rfl⟩ := hcut
        clear HPF HG
        obtain ⟨D1, q1, q2, q3⟩ := open_big
        have hN := dnew_any 200000 wc
        have hO1 := fun {g : Nat} {M R : Nat → Prop} {w1 : World} (h : Dk w1 g M R (Dp.new 200000)) => q3 h
        have f1 := q1
        have m1 := q2
        have HH := Hid.mk (And.intro hN (And.intro (@hO1) (And.intro f1 m1)))
        obtain ⟨i0, hi, hz0, hz1, hz2⟩ := info_parts Try.infoOp5
        clear hN hO1 f1 m1 q1 q2 q3
        go_wp2_with fail
        refine HH.out.1.mono ?_
        rintro e w1 ⟨gdk, M, R, rfl, c1, d1, low1⟩
        have H1 := Hid.mk (Live.mk c1 d1 low1)
        clear c1 d1 low1
        go_wp2_with fail
        refine (HH.out.2.1 H1.out.dk).mono ?_
        rintro e w2 ho
        rcases H1.out.opened ho with ⟨_, gs, M2, R2, rfl, r2⟩ | ⟨h9, _⟩
        rotate_left
        · exact absurd h9 (by simp)
        have H2 := Hid.mk r2
        clear r2 ho
        go_upto_region 12 with fail
        rw [HLi.out]
        go_wp2_with fail
        go_loopw [16] (fun vi wr => ∃ i m : Nat, vi = .int .i64 (i : Int) ∧ i ≤ 2400 ∧ m ≤ i ∧ m ≤ L ∧ m ≤ 2000 ∧ i % 400 = 0 ∧ (m = i ∨ (L ≤ i ∧ (m = L ∨ m = 2000))) ∧ Hid (∃ M R N u used D, Run wc wr gs gdk M R N (bSp m u used) D ∧ u ≤ m ∧ used ≤ 30 * m ∧ D.free ∧ D.waits.length ≤ m)) (fun vi _ => 2800 - (intOf vi).toNat)
        case atStart => exact ⟨0, 0, rfl, by omega, by omega, by omega, by omega, by omega, .inl rfl, Hid.mk ⟨_, _, _, 0, 0, D1, H2.out, Nat.le_refl _, Nat.le_refl _, HH.out.2.2.1, HH.out.2.2.2⟩⟩
        case round =>
          obtain ⟨i, m, rfl, hi24, hmi, hmL, hm2, hi4, hor, HR⟩ := hrel
          by_cases hlt : i < L
          · obtain rfl : m = i := by omega
            go_wp2_with fail
            obtain ⟨wo, hwo⟩ : ∃ wo, wo = wr := ⟨_, rfl⟩
            subst hwo
            obtain ⟨M3, R3, N3, u, used, D, rn, hu, hus, hfr, hwt⟩ := HR.out
            have H3 := Hid.mk rn
            have HD := Hid.mk (And.intro hu (And.intro hus (And.intro hfr hwt)))
            clear rn hu hus hfr hwt
            go_loopw [17, 18] (fun vb vk wr => ∃ j : Nat, j ≤ 400 ∧ m + j ≤ L ∧ vk = .int .i64 ((m + j : Nat) : Int) ∧ Hid (Beside wc wr gs gdk M3 R3 (bSp m u used) D 32 5 vb j ((bSeg m j).flatMap Oq.cs))) (fun _ vk _ => 2800 - (intOf vk).toNat)
            case atStart => exact ⟨0, by omega, by omega, rfl, Hid.mk (Beside.empty H3.out)⟩
            case round =>
              obtain ⟨j, hj, hjL, rfl, HB⟩ := hrel
              obtain ⟨G, gc, rfl, hgc, hgm⟩ := own_form HB.out.row
              obtain ⟨K, hK⟩ : ∃ K, K = m + j := ⟨_, rfl⟩
              rw [← hK] at hjL ⊢
              by_cases hin : K < L ∧ K < m + 400
              · obtain ⟨hin1, hin2⟩ := hin
                have hj4 : j < 400 := by omega
                have HK := Hid.mk hK
                clear hK
                have HO := Hid.mk (fun W => rdo_one W (bOp K))
                simp only [Oq.cs, Pt.cs, bOp] at HO
                go_wp2_with (at_builtin; refine wpl_append rfl (.tmp 107) (.tmp 112) 28 rfl wc.heap.size 32 i0 _ 5 40 Try.underlying28 hi hz0 hz1 hz2 rfl (by omega) _ j _ rfl (own_keep HB.out.row ((Chg.refl Nil wr).alloc _) (fun _ _ h => h)) _ (some ⟨wr.heap.size, 0, none⟩) 1 1 _ rfl (HO.out wr) (ops_one [bOp K]) (by simp only [maxLen]; omega) (by omega) (by have h := HB.out.run; obtain ⟨N, h, _⟩ := h; have := h.chg.size; simp; omega) ?_; intro v2 w3 o2 g2; have H4 := Hid.mk (And.intro o2 g2); clear o2 g2)
                go_roundw
                case rel =>
                  refine ⟨j + 1, by omega, by have := HK.out; omega, by have := HK.out; go_num, Hid.mk ?_⟩
                  have h4 := H4.out.1
                  rw [bSeg_snoc, List.flatMap_append, ← HK.out]
                  exact (HB.out.nil ((Chg.refl Nil wr).alloc _)).append H4.out.2 (by simpa [bOp] using h4)
                case measure => simp [intOf]; omega
              · have hx : (K < L ∧ ¬ K < m + 400) ∨ ¬ K < L := by omega
                have hj0 : 0 < j := by omega
                obtain ⟨N4, rn, hown⟩ := HB.out.run
                obtain ⟨A4, k4, st4⟩ := rn.st
                have hap := stApply_any st4 G j gc (bSeg m j) _ (show RdO wr _ G j (bSeg m j) from Rds.of_own HB.out.row) hgc hgm (fun i hi => ⟨fun hm => st4.apart i (.inl hm) (hown i hi), fun hh => st4.far.2.2 (by rw [← hh]; exact hown i hi)⟩) (by have := HD.out.2.2.2; omega)
                have HRn := Hid.mk rn
                clear rn st4 hown
                by_cases hfull : 2000 < K
                · have hm20 : m = 2000 := by omega
                  have hb := b_full m j u used D hj0 hj (by omega) (by omega)
                  rw [hb] at hap
                  have HAp := Hid.mk hap
                  have HK := Hid.mk hK
                  have hmj : 2000 < m + j := by omega
                  have hmL : L ≤ m + 400 := by omega
                  have hx : ¬ K < L := by omega
                  clear hb hap hK
                  all_goals
                    go_wp2_with fail
                    refine HAp.out.mono ?_
                    rintro e w4 ⟨M4, R4, rfl, ws4, st4⟩
                    have H5 := Hid.mk (HRn.out.wentS ws4 st4)
                    clear ws4 st4
                    go_wp2_with fail
                    go_roundw
                    case rel => exact ⟨m + 400, m, by go_num, by omega, by omega, by omega, by omega, by omega, .inr ⟨by omega, .inr (by omega)⟩, Hid.mk ⟨_, _, _, u, used, D, H5.out, HD.out⟩⟩
                    case measure => simp [intOf]; omega
                · obtain ⟨D2, used2, hb, hu2, hf2, hw2⟩ := b_more m j u used D hj0 hj (by omega) HD.out.1 HD.out.2.1 HD.out.2.2.1 HD.out.2.2.2
                  rw [hb] at hap
                  have HAp := Hid.mk hap
                  have HD2 := Hid.mk (And.intro hu2 (And.intro hf2 hw2))
                  have HK := Hid.mk hK
                  have hmj : ¬ 2000 < m + j := by omega
                  have hor2 : m + j = m + 400 ∨ (L ≤ m + 400 ∧ (m + j = L ∨ m + j = 2000)) := by omega
                  have HOr := Hid.mk hor2
                  clear hb hap hK hu2 hf2 hw2 hor2
                  rcases hx with ⟨hx, hx2⟩ | hx
                  all_goals
                    go_wp2_with fail
                    refine HAp.out.mono ?_
                    rintro e w4 ⟨M4, R4, rfl, ws4, st4⟩
                    have H5 := Hid.mk (HRn.out.wentS ws4 st4)
                    clear ws4 st4
                    go_wp2_with fail
                    go_roundw
                    case rel => exact ⟨m + 400, m + j, by go_num, by omega, by omega, by have := HK.out; omega, by omega, by omega, HOr.out, Hid.mk ⟨_, _, _, u + 1, used2, D2, H5.out, by have := HD.out.1; omega, HD2.out⟩⟩
                    case measure => simp [intOf]; omega
          · obtain ⟨M3, R3, N3, u, used, D, rn, _⟩ := HR.out
            have H3 := Hid.mk rn
            clear rn
            have hlen : ∀ W, Run wc W gs gdk M3 R3 N3 (bSp m u used) D → Calls Try.prog 17 #[.pointer (some ⟨gs, 0, none⟩)] W fun e w' => ∃ A c, e = .returned (.slice A m c) ∧ Chg Nil W w' := fun W h => by
              refine h.pointsC.mono ?_
              rintro e w' ⟨A, c, he, _, _, hc⟩
              rw [show (bSp m u used).pts.length = m from bPts_len m] at he
              exact ⟨A, c, he, hc⟩
            have HLn := Hid.mk hlen
            clear hlen
            by_cases hbig : 2000 < L
            · have hm20 : m ≤ 2000 := by omega
              clear hor
              go_wp2_with fail
              refine (HLn.out _ H3.out).mono ?_
              rintro e w4 ⟨A4, k4, rfl, c4⟩
              have H4 := Hid.mk (H3.out.nil c4)
              clear c4
              go_wp2_with fail
              refine (awake15_any _).mono ?_
              rintro e w5 ⟨rfl, c5⟩
              have H5 := Hid.mk ((HC3.out.trans H4.out.chg (fun _ _ h => h)).trans c5 (fun _ _ h => h))
              clear c5
              go_wp2_with fail
              go_ret
              exact ⟨rfl, H5.out⟩
            · have hmL2 : m = L := by omega
              clear hor
              obtain rfl := hmL2
              go_wp2_with fail
              refine (HLn.out _ H3.out).mono ?_
              rintro e w4 ⟨A4, k4, rfl, c4⟩
              have H4 := Hid.mk (H3.out.nil c4)
              clear c4
              go_wp2_with fail
              refine (HLn.out _ H4.out).mono ?_
              rintro e w5 ⟨A5, k5, rfl, c5⟩
              have H5 := Hid.mk (H4.out.nil c5)
              clear c5
              go_wp2_with fail
              refine (awake15_any _).mono ?_
              rintro e w6 ⟨rfl, c6⟩
              have H6 := Hid.mk ((HC3.out.trans H5.out.chg (fun _ _ h => h)).trans c6 (fun _ _ h => h))
              clear c6
              go_wp2_with fail
              go_ret
              exact ⟨rfl, H6.out⟩

end Go.Proofs.Ytanipieeegeheaa
