/- Joined for this seat from: XSlFits. -/
import Derived.Test.YtomlmedfiajfkaaLo
namespace Go.Proofs.Ytomlmedfiajfkaa
open Go.RowKit

def ptsK (n : Nat) : List Pt := (List.range n).map fun (i : Nat) => (⟨(i : Int) + 1, 0, 0, 0⟩ : Pt)
theorem ptsK_len (n : Nat) : (ptsK n).length = n := by simp [ptsK]
theorem ptsK_succ (n : Nat) : ptsK (n + 1) = ptsK n ++ [⟨(n : Int) + 1, 0, 0, 0⟩] := by simp [ptsK, List.range_succ]
theorem ptsK_get {n i : Nat} (h : i < n) : (ptsK n)[i]? = some ⟨(i : Int) + 1, 0, 0, 0⟩ := by simp [ptsK, h]
theorem ptsK_may (n : Nat) (h : n ≤ 20000) : mayP (ptsK n) = 0 := by
  refine mayP_yes (by rw [ptsK_len]; omega) ((risesP_iff _).2 ⟨(up_iff _).2 ?_, ?_⟩)
  · intro k p q hp hq
    have hk : k + 1 < n := by
      rcases Nat.lt_or_ge (k + 1) n with h | h
      · exact h
      · rw [List.getElem?_eq_none (by rw [ptsK_len]; exact h)] at hq; cases hq
    rw [ptsK_get (by omega)] at hp
    rw [ptsK_get hk] at hq
    injection hp with hp; injection hq with hq
    subst hp hq
    simp only
    omega
  · intro p hp
    obtain ⟨i, hi, rfl⟩ := List.mem_map.1 hp
    rw [List.mem_range] at hi
    simp [Pt.ok, keyOk, inOk]
    omega
set_option maxHeartbeats 4000000 in
set_option maxRecDepth 100000 in
theorem slotFits_walk (n k : Int) (w : World) :
    Calls Try.prog 4 #[.int .i64 n, .int .i64 k] w fun e w' => e = .returned (.bool true) ∧ Below w.heap.size w w' := by
  obtain ⟨i0, hi, hz0, hz1, hz2⟩ := info_parts Try.infoPt
  obtain ⟨N, hN, hNl⟩ := i64_and_mask n 255 8 (by decide) (by omega)
  obtain ⟨K, hK, hKl⟩ := i64_and_mask k 31 5 (by decide) (by omega)
  rw [show ((255 : Nat) : Int) = 255 from rfl] at hN
  rw [show ((31 : Nat) : Int) = 31 from rfl] at hK
  have HA := Hid.mk (fun W => awake14_any W)
  obtain ⟨m, hm, hm20⟩ : ∃ m : Nat, (N : Int) % 21 = (m : Int) ∧ m ≤ 20 := ⟨N % 21, by omega, by omega⟩
  have HM := Hid.mk hm
  clear hm
  have hb0 := Bk.new w 29 #[.int .u64 1, .int .u64 0, .slice none 0 0]
  have hA0 : Chg Nil w (w.alloc (.cells #[.int .u64 1, .int .u64 0, .slice none 0 0] 29)) := (Chg.refl _ _).alloc _
  have HR := Hid.mk (And.intro hb0 hA0)
  clear hb0 hA0
  go_enter Try.func4, Try.ntmps4
  go_wp2_with fail
  rw [HM.out]
  go_loopw [6] (fun i wr => ∃ j A c, j ≤ m ∧ i = .int .i64 ((j : Nat) : Int) ∧ Hid (Chg Nil w wr ∧ Bk wr w.heap.size 29 #[.int .u64 1, .int .u64 0, .slice A j c] ∧ wr.ownsRow (w.heap.size + 1) 42 4 (.slice A j c) j ((ptsK j).flatMap Pt.cs))) (fun i _ => m - (intOf i).toNat)
  case atStart => exact ⟨0, none, 0, Nat.zero_le _, rfl, Hid.mk ⟨HR.out.2, HR.out.1, ⟨rfl, .inl ⟨rfl, rfl⟩⟩⟩⟩
  case round =>
    obtain ⟨j, A, c, hj, rfl, HK⟩ := hrel
    have x0 := HK.out.2.1.cell 0 rfl
    have x1 := HK.out.2.1.cell 1 rfl
    have x2 := HK.out.2.1.cell 2 rfl
    have f2 := HK.out.2.1.free 2
    have hlt0 := HK.out.2.1.lt
    by_cases hlt : j < m
    · have HRo := Hid.mk (rdp_one wr ⟨(j : Int) + 1, 0, 0, 0⟩)
      have hin := own_form HK.out.2.2
      go_wp2_with (at_builtin; refine wpl_append rfl (.tmp 24) (.tmp 28) 27 rfl (w.heap.size + 1) 42 i0 _ 4 32 Try.underlying27 hi hz0 hz1 hz2 rfl (by omega) _ j _ rfl (own_keep HK.out.2.2 ((Chg.refl Nil wr).alloc _) (fun _ _ h => h)) _ (some ⟨wr.heap.size, 0, none⟩) 1 1 _ rfl HRo.out (pts_one _) (by simp only [maxLen]; omega) (by omega) (by simp; omega) ?_; intro v2 w2 o2 g2; obtain ⟨A2, k2, rfl, _, _⟩ := own_form o2; have hb2 := (HK.out.2.1.alloc (.cells #[.int .i64 ((j : Int) + 1), .int .i64 0, .int .i64 0, .int .i64 0] 42)).keep g2.chg (fun h => by have := own_ge HK.out.2.2 _ h; omega); have y0 := hb2.cell 0 rfl; have y1 := hb2.cell 1 rfl; have y2 := hb2.cell 2 rfl; have q2 := hb2.free 2; have H2 := Hid.mk (And.intro o2 (And.intro g2 hb2)); clear o2 g2 hb2 x0 x1 x2 f2)
      go_roundw
      case rel =>
        refine ⟨j + 1, A2, k2, by omega, by go_num, Hid.mk ⟨?_, ?_, ?_⟩⟩
        · exact (((HK.out.1.alloc _).trans H2.out.2.1.chg (fun i hi h => by have := own_ge HK.out.2.2 i h; omega)).setCell (fun h => absurd h (Nat.lt_irrefl _)) _)
        · exact H2.out.2.2.set 2 _
        · have h := own_keep H2.out.1 ((Chg.refl (· = w.heap.size) w2).setCell (p := ⟨w.heap.size, 2, none⟩) (fun _ => rfl) (.slice A2 (j + 1) k2)) (fun k hk h => by have := own_ge H2.out.1 k hk; omega)
          rw [ptsK_succ, List.flatMap_append]
          exact h
      case measure => simp [intOf]; omega
    · obtain rfl : j = m := by omega
      have hmay := ptsK_may j (by omega)
      have hpl := ptsK_len j
      have hok : Sn.ok ⟨1, 0, ptsK j⟩ = true := (Sn.ok_iff _).2 ⟨by simp only; omega, by simp only; omega, by simp only; omega, hmay⟩
      have hbl : (Sn.bytes ⟨1, 0, ptsK j⟩).length = 20 + 16 * j := by rw [Sn.len, hpl]
      have hrd : RdP wr (fun k => w.heap.size + 1 ≤ k ∧ k < wr.heap.size) A j (ptsK j) := (Rds.here (Rds.of_own HK.out.2.2) (by omega)).wider (fun k _ hk => ⟨own_ge HK.out.2.2 k hk.1, hk.2⟩) (by omega)
      obtain ⟨sz, hsz, hsz2⟩ : ∃ sz : Nat, 21 + 16 * (j : Int) + ((K : Int) - 15) = (sz : Int) ∧ sz = 6 + 16 * j + K := ⟨6 + 16 * j + K, by omega, rfl⟩
      have hN := dnew_any 600 wr
      have hnl : (Dp.new 600).now.length = 600 := new_len (n := 600) (by omega)
      generalize ptsK j = P at *
      have HH := Hid.mk (And.intro HK.out.1 (And.intro HK.out.2.1 (And.intro hrd (And.intro hN (And.intro hok (And.intro hbl hnl))))))
      have hfit : fitsS (sz : Int) ⟨1, 0, P⟩ = decide ((K : Int) ≥ 15) := by
        unfold fitsS
        rw [hok, hbl, Bool.true_and, decide_eq_decide]
        omega
      have HF := Hid.mk hfit
      clear HK hmay hpl hok hbl hrd hN hfit
      have hvars : ∀ (g : Nat) (M R : Nat → Prop) (W : World) (c1 : Chg Nil wr W) (d1 : Dk W g M R (Dp.new 600)) (low1 : ∀ k, M k ∨ R k → wr.heap.size ≤ k), Kept W M A j P ∧ Var W M w.heap.size 29 #[.int .u64 1, .int .u64 0, .slice A j c] ∧ Live w W g M R (Dp.new 600) := by
        intro g M R W c1 d1 low1
        refine ⟨⟨_, Rds.keep HH.out.2.2.1 c1 (fun _ _ h => h), fun k hk => ⟨by have := hk.2; have := c1.size; omega, fun hm => by have := low1 k (.inl hm); have := hk.2; omega⟩⟩, ⟨HH.out.2.1.keep c1 (fun h => h), fun hm => by have := low1 _ (.inl hm); omega⟩, ⟨HH.out.1.trans c1 (fun _ _ h => h), d1, fun k hk => by have := low1 k hk; omega⟩⟩
      have HV := Hid.mk hvars
      clear hvars
      by_cases hs : sz < 21
      · have e1 : decide ((sz : Int) < 21) = true := decide_eq_true (by omega)
        have e2 : decide (15 ≤ (K : Int)) = false := decide_eq_false (by omega)
        have e3 : fitsS (sz : Int) ⟨1, 0, P⟩ = false := by rw [HF.out]; exact decide_eq_false (by omega)
        have HE := Hid.mk (And.intro e3 hsz2)
        clear e3 hsz2
        go_wp2_with fail
        refine HH.out.2.2.2.1.mono ?_
        rintro e w1 ⟨g, M, R, rfl, c1, d1, low1⟩
        obtain ⟨hk1, hv1, hL1⟩ := HV.out g M R w1 c1 d1 low1
        obtain ⟨y0, y1, y2⟩ := hv1.c3
        have H1 := Hid.mk (And.intro hk1 (And.intro hv1 hL1))
        clear c1 d1 low1 hk1 hv1 hL1 x0 x1 x2 f2
        go_wp2_with fail
        refine (swrite_arg H1.out.2.2.dk 0 (sz : Int) 1 0 A j c P _ H1.out.1.rd (by omega) (.inl (by simp [thereB]; omega))).mono ?_
        rintro e w2 ⟨rfl, c2⟩
        have H2 := Hid.mk (And.intro (H1.out.1.nil c2) (And.intro (H1.out.2.1.nil c2) (H1.out.2.2.chg.trans c2 (fun _ _ h => h))))
        obtain ⟨z0, z1, z2⟩ := H2.out.2.1.c3
        clear c2 y0 y1 y2
        go_wp2_with fail
        refine (sfits_any (sz : Int) 1 0 A j c P _ w2 H2.out.1.rd (by omega)).mono ?_
        rintro e w3 ⟨rfl, c3⟩
        rw [show fitsS (sz : Int) { gen := 1, u := 0, pts := P } = false from HE.out.1]
        have H3 := Hid.mk (And.intro (H2.out.1.nil c3) (And.intro (H2.out.2.1.nil c3) (H2.out.2.2.trans c3 (fun _ _ h => h))))
        obtain ⟨v0, v1, v2⟩ := H3.out.2.1.c3
        clear c3 z0 z1 z2
        go_wp2_with fail
        refine (snapOk_any 1 0 A j c P _ w3 H3.out.1.rd (by omega)).mono ?_
        rintro e w4 ⟨rfl, c4⟩
        rw [HH.out.2.2.2.2.1]
        have H4 := Hid.mk (H3.out.2.2.trans c4 (fun _ _ h => h))
        clear c4 v0 v1 v2
        go_wp2_with fail
        refine (HA.out _).mono ?_
        rintro e w5 ⟨rfl, c5⟩
        have H5 := Hid.mk (H4.out.trans c5 (fun _ _ h => h))
        clear c5
        go_wp2_with fail
        go_ret
        exact ⟨rfl, H5.out.below_nil⟩
      · have e1 : decide ((sz : Int) < 21) = false := decide_eq_false (by omega)
        by_cases hk : K < 15
        · have e2 : decide (15 ≤ (K : Int)) = false := decide_eq_false (by omega)
          have e4 : decide ((K : Int) < 15) = true := decide_eq_true (by omega)
          have e3 : fitsS (sz : Int) ⟨1, 0, P⟩ = false := by rw [HF.out]; exact decide_eq_false (by omega)
          have HE := Hid.mk (And.intro e3 hsz2)
          clear e3 hsz2
          go_wp2_with fail
          refine HH.out.2.2.2.1.mono ?_
          rintro e w1 ⟨g, M, R, rfl, c1, d1, low1⟩
          obtain ⟨hk1, hv1, hL1⟩ := HV.out g M R w1 c1 d1 low1
          obtain ⟨y0, y1, y2⟩ := hv1.c3
          have H1 := Hid.mk (And.intro hk1 (And.intro hv1 hL1))
          clear c1 d1 low1 hk1 hv1 hL1 x0 x1 x2 f2
          go_wp2_with fail
          refine (swrite_full H1.out.2.2.dk 0 (sz : Int) 1 0 A j c P _ H1.out.1.rd (by have := HE.out.2; simp [thereB, HH.out.2.2.2.2.2.2]; omega) HH.out.2.2.2.2.1 (by have := HE.out.2; rw [HH.out.2.2.2.2.2.1]; omega)).mono ?_
          rintro e w2 ⟨rfl, c2⟩
          have H2 := Hid.mk (And.intro (H1.out.1.nil c2) (And.intro (H1.out.2.1.nil c2) (H1.out.2.2.chg.trans c2 (fun _ _ h => h))))
          obtain ⟨z0, z1, z2⟩ := H2.out.2.1.c3
          clear c2 y0 y1 y2
          go_wp2_with fail
          refine (sfits_any (sz : Int) 1 0 A j c P _ w2 H2.out.1.rd (by omega)).mono ?_
          rintro e w3 ⟨rfl, c3⟩
          rw [show fitsS (sz : Int) { gen := 1, u := 0, pts := P } = false from HE.out.1]
          have H3 := Hid.mk (And.intro (H2.out.1.nil c3) (And.intro (H2.out.2.1.nil c3) (H2.out.2.2.trans c3 (fun _ _ h => h))))
          obtain ⟨v0, v1, v2⟩ := H3.out.2.1.c3
          clear c3 z0 z1 z2
          go_wp2_with fail
          refine (snapOk_any 1 0 A j c P _ w3 H3.out.1.rd (by omega)).mono ?_
          rintro e w4 ⟨rfl, c4⟩
          rw [HH.out.2.2.2.2.1]
          have H4 := Hid.mk (H3.out.2.2.trans c4 (fun _ _ h => h))
          clear c4 v0 v1 v2
          go_wp2_with fail
          refine (HA.out _).mono ?_
          rintro e w5 ⟨rfl, c5⟩
          have H5 := Hid.mk (H4.out.trans c5 (fun _ _ h => h))
          clear c5
          go_wp2_with fail
          go_ret
          exact ⟨rfl, H5.out.below_nil⟩
        · have e2 : decide (15 ≤ (K : Int)) = true := decide_eq_true (by omega)
          have e4 : decide ((K : Int) < 15) = false := decide_eq_false (by omega)
          have e3 : fitsS (sz : Int) ⟨1, 0, P⟩ = true := by rw [HF.out]; exact decide_eq_true (by omega)
          have HE := Hid.mk (And.intro e3 hsz2)
          clear e3 hsz2
          go_wp2_with fail
          refine HH.out.2.2.2.1.mono ?_
          rintro e w1 ⟨g, M, R, rfl, c1, d1, low1⟩
          obtain ⟨hk1, hv1, hL1⟩ := HV.out g M R w1 c1 d1 low1
          obtain ⟨y0, y1, y2⟩ := hv1.c3
          have H1 := Hid.mk (And.intro hk1 (And.intro hv1 hL1))
          clear c1 d1 low1 hk1 hv1 hL1 x0 x1 x2 f2
          go_wp2_with fail
          refine (swrite_go H1.out.2.2.dk 0 sz 1 0 A j c P _ H1.out.1.rd (by omega) (by have := HE.out.2; rw [HH.out.2.2.2.2.2.2]; omega) HH.out.2.2.2.2.1 (by have := HE.out.2; rw [HH.out.2.2.2.2.2.1]; omega) (by show (0 : Nat) ≤ _; omega)).mono ?_
          rintro e w2 ⟨M2, R2, he, ww2, d2⟩
          rw [(slot_free (Dp.free_new 600) 0 _).1] at he
          subst he
          have H2 := Hid.mk (And.intro (H1.out.1.went ww2) (And.intro (H1.out.2.1.went ww2) (H1.out.2.2.went ww2 d2).chg))
          obtain ⟨z0, z1, z2⟩ := H2.out.2.1.c3
          clear ww2 d2 y0 y1 y2
          go_wp2_with fail
          refine (sfits_any (sz : Int) 1 0 A j c P _ w2 H2.out.1.rd (by omega)).mono ?_
          rintro e w3 ⟨rfl, c3⟩
          rw [show fitsS (sz : Int) { gen := 1, u := 0, pts := P } = true from HE.out.1]
          have H3 := Hid.mk (And.intro (H2.out.1.nil c3) (And.intro (H2.out.2.1.nil c3) (H2.out.2.2.trans c3 (fun _ _ h => h))))
          obtain ⟨v0, v1, v2⟩ := H3.out.2.1.c3
          clear c3 z0 z1 z2
          go_wp2_with fail
          refine (snapOk_any 1 0 A j c P _ w3 H3.out.1.rd (by omega)).mono ?_
          rintro e w4 ⟨rfl, c4⟩
          rw [HH.out.2.2.2.2.1]
          have H4 := Hid.mk (H3.out.2.2.trans c4 (fun _ _ h => h))
          clear c4 v0 v1 v2
          go_wp2_with fail
          refine (HA.out _).mono ?_
          rintro e w5 ⟨rfl, c5⟩
          have H5 := Hid.mk (H4.out.trans c5 (fun _ _ h => h))
          clear c5
          go_wp2_with fail
          go_ret
          exact ⟨rfl, H5.out.below_nil⟩

end Go.Proofs.Ytomlmedfiajfkaa
