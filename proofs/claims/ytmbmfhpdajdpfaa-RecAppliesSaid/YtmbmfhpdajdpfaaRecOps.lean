/- The contract of rec.Ops. -/
import Derived.Test.YtmbmfhpdajdpfaaRefOpsB
namespace Go.Proofs.Ytmbmfhpdajdpfaa
open Go.RowKit

/-- The reader behind some ops: what is to come, or it is bad. -/
def RSt (w : World) (p : Nat) (S : Nat → Prop) (bs : List UInt8) (X : List Oq) : Prop :=
  ∃ A n c bad, Bk w p 83 #[.slice A n c, .bool bad] ∧ n ≤ c ∧ c ≤ maxLen ∧ ((bad = false ∧ ∃ R, RdB w S A n R ∧ Dec bs R X) ∨ (bad = true ∧ n = 0 ∧ opsD bs = none))
theorem RSt.keep {w w' : World} {p : Nat} {S T : Nat → Prop} {bs : List UInt8} {X : List Oq} (h : RSt w p S bs X) (hc : Chg T w w') (hp : ¬ T p) (hS : ∀ k, S k → T k → False) : RSt w' p S bs X := by
  obtain ⟨A, n, c, bad, h1, h2, h3, h4⟩ := h
  refine ⟨A, n, c, bad, h1.keep hc hp, h2, h3, ?_⟩
  rcases h4 with ⟨h5, R, h6, h7⟩ | h5
  · exact .inl ⟨h5, R, h6.keep hc hS, h7⟩
  · exact .inr h5
theorem pt_step (p : Nat) (A : Option Addr) (c n : Nat) (bs t : List UInt8) (X : List Oq) (S : Nat → Prop) (w : World)
    (hp : Bk w p 83 #[.slice A n c, .bool false]) (hr : RdB w S A n t) (hS : ¬ S p) (hSw : ∀ k, S k → k < w.heap.size) (hc : n ≤ c) (hcm : c ≤ maxLen) (hd : Dec bs (1 :: t) X) :
    Calls Try.prog 46 #[.pointer (some ⟨p, 0, none⟩)] w fun e w' => ∃ q : Pt, e = .returned (.agg q.cs.toArray) ∧ Chg (· = p) w w' ∧ RSt w' p S bs (X ++ [⟨1, q⟩]) := by
  have hl := hr.len
  have h16 : opLen 1 = 16 := rfl
  by_cases h : 16 ≤ n
  · refine (takePt_ok p A c n t false S w hp hr hS hSw h hc hcm).mono ?_
    rintro e w1 ⟨rfl, hc1, A1, hp1, hr1⟩
    refine ⟨_, rfl, hc1, A1, n - 16, c - 16, false, hp1, by omega, by omega, .inl ⟨rfl, _, hr1, ?_⟩⟩
    have := hd.step (by rw [h16]; omega)
    rw [h16] at this
    exact this
  · refine (takePt_short p A c n t false S w hp hr hS (by omega) hc hcm).mono ?_
    rintro e w1 ⟨⟨q, rfl⟩, hc1, hp1⟩
    exact ⟨q, rfl, hc1, none, 0, 0, true, hp1, Nat.le_refl _, by simp [maxLen], .inr ⟨rfl, rfl, hd.short (by rw [h16]; omega)⟩⟩
theorem key_step (p : Nat) (A : Option Addr) (c n : Nat) (bs t : List UInt8) (k : UInt8) (X : List Oq) (S : Nat → Prop) (w : World)
    (hp : Bk w p 83 #[.slice A n c, .bool false]) (hr : RdB w S A n t) (hS : ¬ S p) (hc : n ≤ c) (hcm : c ≤ maxLen) (hd : Dec bs (k :: t) X) (hk : k ≠ 1) :
    Calls Try.prog 45 #[.pointer (some ⟨p, 0, none⟩), .int .i64 4] w fun e w' => ∃ N : Nat, N < 4294967296 ∧ e = .returned (.int .u64 N) ∧ Chg (· = p) w w' ∧ RSt w' p S bs (X ++ [⟨(k.toNat : Int), ⟨N, 0, 0, 0⟩⟩]) := by
  have hl := hr.len
  have h4 : opLen k = 4 := by unfold opLen; rw [if_neg hk]
  by_cases h : 4 ≤ n
  · refine (take_any p A c n t false S 4 w hp hr hS (by omega) (by omega) h hc hcm).mono ?_
    rintro e w1 ⟨rfl, hc1, A1, hp1, hr1⟩
    refine ⟨_, unB4 t, rfl, hc1, A1, n - 4, c - 4, false, hp1, by omega, by omega, .inl ⟨rfl, _, hr1, ?_⟩⟩
    have := hd.step (by rw [h4]; omega)
    have ho : opAt k t = ⟨(k.toNat : Int), ⟨(unB (t.take 4) : Nat), 0, 0, 0⟩⟩ := by unfold opAt; rw [if_neg hk]
    rw [h4, ho] at this
    exact this
  · refine (take_short p A c n false 4 w hp (by omega)).mono ?_
    rintro e w1 ⟨rfl, hc1, hp1⟩
    exact ⟨0, by omega, rfl, hc1, none, 0, 0, true, hp1, Nat.le_refl _, by simp [maxLen], .inr ⟨rfl, rfl, hd.short (by rw [h4]; omega)⟩⟩
/-- Batch of a row, whatever it holds. -/
theorem batch_any (A : Option Addr) (n c : Nat) (l : List Oq) (S : Nat → Prop) (w : World) (hr : RdO w S A n l) (hc : n ≤ c) (hcm : c ≤ maxLen) :
    Calls Try.prog 19 #[.slice A n c] w fun e w' => ∃ (E : Nat) (A' : Option Addr) (n' c' : Nat), e = .returned (.tuple #[.slice A' n' c', .int .i64 (E : Int)]) ∧ E = batE l ∧ Chg Nil w w' := by
  by_cases h0 : batE l = 0
  · refine (batch_ok A n c l S w hr hc hcm h0).mono ?_
    rintro e w1 ⟨v, rfl, hc1, hown⟩
    obtain ⟨A1, c1, rfl, _, _⟩ := own_form hown
    exact ⟨0, A1, _, c1, rfl, h0.symm, hc1⟩
  · refine (batch_bad A n c l S w hr hc hcm h0).mono ?_
    rintro e w1 ⟨rfl, hc1⟩
    exact ⟨_, none, 0, 0, rfl, rfl, hc1⟩

def sliceLen : Value → Nat
  | .slice _ n _ => n
  | _ => 0

set_option maxHeartbeats 4000000 in
set_option maxRecDepth 100000 in
theorem recops_any (A : Option Addr) (c n : Nat) (bs : List UInt8) (S : Nat → Prop) (w : World) (hr : RdB w S A n bs) (hc : n ≤ c) (hcm : c ≤ maxLen) :
    Calls Try.prog 24 #[.slice A n c] w fun e w' => OpsIs w.heap.size (opsD bs) e w' ∧ Chg Nil w w' := by
  obtain ⟨i0, hi, hz0, hz1, hz2⟩ := info_parts Try.infoOp5
  have hr' := hr.here
  go_enter Try.func24, Try.ntmps24
  go_upto_region 3 with fail
  have hp0 := Bk.new w 83 #[.slice A n c, .bool false]
  have hs0 : (w.alloc (.cells #[.slice A n c, .bool false] 83)).heap.size = w.heap.size + 1 := by simp
  have hA : Chg Nil w (w.alloc (.cells #[.slice A n c, .bool false] 83)) := (Chg.refl _ _).alloc _
  generalize w.alloc (.cells #[.slice A n c, .bool false] 83) = wb at *
  have hR0 : RSt wb w.heap.size (fun k => S k ∧ k < w.heap.size) bs [] := ⟨A, n, c, false, hp0, hc, hcm, .inl ⟨rfl, bs, hr'.keep hA (fun _ _ h => h), Dec.start bs⟩⟩
  have H0 := Hid.mk (And.intro hA (And.intro hs0 hR0))
  clear hp0 hA hR0 hr hr'
  go_loopw [5, 6] (fun out o wr => ∃ X : List Oq, X.length ≤ 501 ∧ wr.ownsRow wb.heap.size 46 5 out X.length (X.flatMap Oq.cs) ∧ Chg (· = w.heap.size) wb wr ∧ RSt wr w.heap.size (fun k => S k ∧ k < w.heap.size) bs X) (fun out _ _ => 501 - sliceLen out)
  case atStart => exact ⟨[], by simp, ⟨rfl, .inl ⟨rfl, rfl⟩⟩, Chg.refl _ _, H0.out.2.2⟩
  case round =>
    obtain ⟨X, hX, hown, hch, hst⟩ := hrel
    obtain ⟨G, gc, rfl, hgc, hgm⟩ := own_form hown
    have hwr : Chg Nil w wr := H0.out.1.trans hch (fun i hi h => by omega)
    have hBat := batch_any G X.length gc X _ wr (Rds.of_own hown) hgc hgm
    obtain ⟨A1, n1, c1, bad, hp, hc1, hm1, hst⟩ := hst
    have x0 := hp.cell 0 rfl
    have x1 := hp.cell 1 rfl
    rcases hst with ⟨rfl, R, hR, hD⟩ | ⟨rfl, rfl, hno⟩
    · have hRl := hR.len
      cases R with
      | nil =>
        obtain rfl : n1 = 0 := by simpa using hRl.symm
        have hd := hD.done
        have HB := Hid.mk hBat
        have HK := Hid.mk (And.intro hd (And.intro hwr (And.intro hown hp)))
        clear hD hd hBat hch hwr hown hp hR hRl
        go_wp2_with fail
        refine HB.out.mono ?_
        rintro e w1 ⟨E, A2, n2, c2, rfl, hE, hcb⟩
        have hp1 := HK.out.2.2.2.keep hcb (fun h => h)
        have z1 := hp1.cell 1 rfl
        have H1 := Hid.mk (And.intro (HK.out.2.1.trans hcb (fun _ _ h => h)) (own_keep HK.out.2.2.1 hcb (fun _ _ h => h)))
        clear hcb hp1
        by_cases h0 : E = 0
        · subst h0
          have hr : opsD bs = some X := by rw [HK.out.1, if_pos hE.symm]
          have HR := Hid.mk hr
          clear hr hE
          go_wp2_with fail
          go_ret2
          rw [HR.out]
          exact ⟨⟨_, rfl, own_base H1.out.2 (fun k hk => by have := own_ge H1.out.2 k hk; omega)⟩, H1.out.1⟩
        · have hr : opsD bs = none := by rw [HK.out.1, if_neg (by omega)]
          have HR := Hid.mk hr
          have hEb : ((E : Int) == 0) = false := by rw [beq_eq_false_iff_ne]; omega
          clear hr hE
          go_wp2_with fail
          go_ret2
          rw [HR.out]
          exact ⟨rfl, H1.out.1⟩
      | cons k t =>
        have hn1 : n1 = t.length + 1 := by simpa using hRl.symm
        by_cases h500 : 500 < X.length
        · have hno := hD.long h500
          have hbl := batE_long h500
          have HB := Hid.mk hBat
          have HK := Hid.mk (And.intro hno (And.intro hwr (And.intro hown hp)))
          clear hno hBat hch hwr hown hp hR hD hRl
          go_wp2_with fail
          refine HB.out.mono ?_
          rintro e w1 ⟨E, A2, n2, c2, rfl, hE, hcb⟩
          have hp1 := HK.out.2.2.2.keep hcb (fun h => h)
          have z1 := hp1.cell 1 rfl
          have H1 := Hid.mk (HK.out.2.1.trans hcb (fun _ _ h => h))
          have hEb : ((E : Int) == 0) = false := by rw [beq_eq_false_iff_ne]; omega
          clear hcb hp1 hE hbl
          go_wp2_with fail
          go_ret2
          rw [HK.out.1]
          exact ⟨rfl, H1.out⟩
        have hsz := hch.size
        have hs0 := H0.out.2.1
        have hunk : unB ((k :: t).take 1) = k.toNat := by simp [unB]
        have h256 := k.toNat_lt
        have HT := Hid.mk (take_any w.heap.size A1 c1 n1 (k :: t) false (fun k => S k ∧ k < w.heap.size) 1 wr hp hR (fun h => Nat.lt_irrefl _ h.2) (by omega) (by omega) (by omega) hc1 hm1)
        rw [hunk] at HT
        have HK := Hid.mk (And.intro hD (And.intro hch hown))
        clear hBat hch hwr hown hp hR hD hRl hunk
        by_cases hk1 : k = 1
        · subst hk1
          have ht1 : (1 : UInt8).toNat = 1 := rfl
          rw [ht1] at HT
          go_wp2_with fail
          refine HT.out.mono ?_
          rintro e w1 ⟨rfl, hc1', A2, hp2, hr2⟩
          have hz := hc1'.size
          have HS := Hid.mk (And.intro hc1' (And.intro hp2 hr2))
          clear hc1' hp2 hr2
          go_wp2_with fail
          refine (pt_step w.heap.size A2 (c1 - 1) (n1 - 1) bs t X (fun k => S k ∧ k < w.heap.size) _ (HS.out.2.1.alloc _) (HS.out.2.2.keep ((Chg.refl Nil w1).alloc _) (fun _ _ h => h)) (fun h => Nat.lt_irrefl _ h.2) (fun k h => by have := h.2; simp; omega) (by omega) (by omega) HK.out.1).mono ?_
          rintro e w2 ⟨q, he, hc2, hst2⟩
          obtain ⟨ky, x, y, v⟩ := q
          have he' : e = .returned (.agg #[.int .i64 ky, .int .i64 x, .int .i64 y, .int .i64 v]) := he
          subst he'
          clear he
          have hB : Bk w2 w1.heap.size 46 #[.int .i64 1, .int .i64 0, .int .i64 0, .int .i64 0, .int .i64 0] := (Bk.new w1 _ _).keep hc2 (fun h => by have h' : w1.heap.size = w.heap.size := h; omega)
          have f1 := hB.free 1
          have f2 := hB.free 2
          have f3 := hB.free 3
          have f4 := hB.free 4
          have d0 := hB.cell 0 rfl
          have d1 := hB.cell 1 rfl
          have d2 := hB.cell 2 rfl
          have d3 := hB.cell 3 rfl
          have d4 := hB.cell 4 rfl
          have HW := Hid.mk (And.intro ((HS.out.1.alloc _).trans hc2 (fun _ _ h => h)) (And.intro hst2 hB.lt))
          clear hB hc2 hst2
          have hwz := HW.out.2.2
          have HC : Hid (∀ W, W = ((((w2.setCell ⟨w1.heap.size, 1, none⟩ (.int .i64 ky)).setCell ⟨w1.heap.size, 2, none⟩ (.int .i64 x)).setCell ⟨w1.heap.size, 3, none⟩ (.int .i64 y)).setCell ⟨w1.heap.size, 4, none⟩ (.int .i64 v)) →
              Chg (· = w.heap.size) wr W ∧ Chg (fun j => w.heap.size < j) w2 W ∧ RdO (W.alloc (.cells #[.int .i64 1, .int .i64 ky, .int .i64 x, .int .i64 y, .int .i64 v] 46)) (fun j => j = w2.heap.size) (some ⟨w2.heap.size, 0, none⟩) 1 [⟨1, ⟨ky, x, y, v⟩⟩]) := Hid.mk (fun W hW => by
            have hs1 : W.heap.size = w2.heap.size := by rw [hW]; simp
            have h2 := rdo_one W ⟨1, ⟨ky, x, y, v⟩⟩
            rw [hs1] at h2
            refine ⟨?_, ?_, h2⟩
            · rw [hW]
              exact ((((HW.out.1.setCell (fun h => absurd (show w1.heap.size < wr.heap.size from h) (by omega)) _).setCell (fun h => absurd (show w1.heap.size < wr.heap.size from h) (by omega)) _).setCell (fun h => absurd (show w1.heap.size < wr.heap.size from h) (by omega)) _).setCell (fun h => absurd (show w1.heap.size < wr.heap.size from h) (by omega)) _)
            · rw [hW]
              exact (((((Chg.refl (fun j => w.heap.size < j) w2).setCell (p := ⟨w1.heap.size, 1, none⟩) (fun _ => by show w.heap.size < w1.heap.size; omega) _).setCell (p := ⟨w1.heap.size, 2, none⟩) (fun _ => by show w.heap.size < w1.heap.size; omega) _).setCell (p := ⟨w1.heap.size, 3, none⟩) (fun _ => by show w.heap.size < w1.heap.size; omega) _).setCell (p := ⟨w1.heap.size, 4, none⟩) (fun _ => by show w.heap.size < w1.heap.size; omega) _))
          go_wp2_with (at_builtin; obtain ⟨W, hW⟩ : ∃ W, W = ((((w2.setCell ⟨w1.heap.size, 1, none⟩ (.int .i64 ky)).setCell ⟨w1.heap.size, 2, none⟩ (.int .i64 x)).setCell ⟨w1.heap.size, 3, none⟩ (.int .i64 y)).setCell ⟨w1.heap.size, 4, none⟩ (.int .i64 v)) := ⟨_, rfl⟩; rw [← hW]; have HD := Hid.mk (HC.out W hW); clear hW; refine wpl_append rfl (.tmp 38) (.tmp 40) 42 rfl wb.heap.size 46 i0 _ 5 40 Try.underlying42 hi hz0 hz1 hz2 rfl (by omega) _ X.length _ rfl (own_keep HK.out.2.2 (HD.out.1.alloc _) (fun k hk h => by have := own_ge HK.out.2.2 k hk; omega)) _ (some ⟨w2.heap.size, 0, none⟩) 1 1 _ rfl HD.out.2.2 (ops_one _) (by simp only [maxLen]; omega) (by omega) (by have := HK.out.2.1.size; have := HD.out.1.size; simp; omega) ?_; intro v2 w3 o2 g2; have H2 := Hid.mk (And.intro (ops_row (o := ⟨1, ⟨ky, x, y, v⟩⟩) HK.out.2.2 HK.out.2.1 HD.out.1 (by simpa using o2) g2) ((HD.out.2.1.alloc _).trans g2.chg (fun i _ hm => by have := own_ge HK.out.2.2 i hm; show w.heap.size < i; omega))); obtain ⟨A9, c9, hv9, _, _⟩ := own_form o2; subst hv9; clear o2 g2)
          go_roundw
          case rel => exact ⟨_, by simp; omega, H2.out.1.1, H2.out.1.2, HW.out.2.1.keep H2.out.2 (fun h => absurd h (Nat.lt_irrefl _)) (fun k hk hj => by have := hk.2; have hj' : w.heap.size < k := hj; omega)⟩
          case measure => simp [sliceLen]; omega
        · have hkb : ((k.toNat : Int) == 1) = false := by
            rw [beq_eq_false_iff_ne]
            exact fun h => hk1 (UInt8.toNat_inj.1 (by show k.toNat = 1; omega))
          have HKS := Hid.mk (fun W A2 hp2 hr2 => key_step w.heap.size A2 (c1 - 1) (n1 - 1) bs t k X (fun k => S k ∧ k < w.heap.size) W hp2 hr2 (fun h => Nat.lt_irrefl _ h.2) (by omega) (by omega) HK.out.1 hk1)
          clear hk1
          go_wp2_with fail
          refine HT.out.mono ?_
          rintro e w1 ⟨rfl, hc1', A2, hp2, hr2⟩
          have hz := hc1'.size
          have HS := Hid.mk (And.intro hc1' (And.intro hp2 hr2))
          clear hc1' hp2 hr2
          go_wp2_with fail
          refine (HKS.out _ A2 (HS.out.2.1.alloc _) (HS.out.2.2.keep ((Chg.refl Nil w1).alloc _) (fun _ _ h => h))).mono ?_
          rintro e w2 ⟨N, hN, rfl, hc2, hst2⟩
          have hB : Bk w2 w1.heap.size 46 #[.int .i64 (k.toNat : Int), .int .i64 0, .int .i64 0, .int .i64 0, .int .i64 0] := (Bk.new w1 _ _).keep hc2 (fun h => by have h' : w1.heap.size = w.heap.size := h; omega)
          have f1 := hB.free 1
          have d0 := hB.cell 0 rfl
          have d1 := hB.cell 1 rfl
          have d2 := hB.cell 2 rfl
          have d3 := hB.cell 3 rfl
          have d4 := hB.cell 4 rfl
          have HW := Hid.mk (And.intro ((HS.out.1.alloc _).trans hc2 (fun _ _ h => h)) (And.intro hst2 hB.lt))
          clear hB hc2 hst2
          have hwz := HW.out.2.2
          have HC : Hid (∀ W, W = (w2.setCell ⟨w1.heap.size, 1, none⟩ (.int .i64 N)) →
              Chg (· = w.heap.size) wr W ∧ Chg (fun j => w.heap.size < j) w2 W ∧ RdO (W.alloc (.cells #[.int .i64 (k.toNat : Int), .int .i64 N, .int .i64 0, .int .i64 0, .int .i64 0] 46)) (fun j => j = w2.heap.size) (some ⟨w2.heap.size, 0, none⟩) 1 [⟨(k.toNat : Int), ⟨N, 0, 0, 0⟩⟩]) := Hid.mk (fun W hW => by
            have hs1 : W.heap.size = w2.heap.size := by rw [hW]; simp
            have h2 := rdo_one W ⟨(k.toNat : Int), ⟨N, 0, 0, 0⟩⟩
            rw [hs1] at h2
            refine ⟨?_, ?_, h2⟩
            · rw [hW]
              exact (HW.out.1.setCell (fun h => absurd (show w1.heap.size < wr.heap.size from h) (by omega)) _)
            · rw [hW]
              exact ((Chg.refl (fun j => w.heap.size < j) w2).setCell (p := ⟨w1.heap.size, 1, none⟩) (fun _ => by show w.heap.size < w1.heap.size; omega) _))
          go_wp2_with (at_builtin; obtain ⟨W, hW⟩ : ∃ W, W = (w2.setCell ⟨w1.heap.size, 1, none⟩ (.int .i64 N)) := ⟨_, rfl⟩; rw [← hW]; have HD := Hid.mk (HC.out W hW); clear hW; refine wpl_append rfl (.tmp 38) (.tmp 40) 42 rfl wb.heap.size 46 i0 _ 5 40 Try.underlying42 hi hz0 hz1 hz2 rfl (by omega) _ X.length _ rfl (own_keep HK.out.2.2 (HD.out.1.alloc _) (fun k hk h => by have := own_ge HK.out.2.2 k hk; omega)) _ (some ⟨w2.heap.size, 0, none⟩) 1 1 _ rfl HD.out.2.2 (ops_one _) (by simp only [maxLen]; omega) (by omega) (by have := HK.out.2.1.size; have := HD.out.1.size; simp; omega) ?_; intro v2 w3 o2 g2; have H2 := Hid.mk (And.intro (ops_row (o := ⟨(k.toNat : Int), ⟨N, 0, 0, 0⟩⟩) HK.out.2.2 HK.out.2.1 HD.out.1 (by simpa using o2) g2) ((HD.out.2.1.alloc _).trans g2.chg (fun i _ hm => by have := own_ge HK.out.2.2 i hm; show w.heap.size < i; omega))); obtain ⟨A9, c9, hv9, _, _⟩ := own_form o2; subst hv9; clear o2 g2)
          go_roundw
          case rel => exact ⟨_, by simp; omega, H2.out.1.1, H2.out.1.2, HW.out.2.1.keep H2.out.2 (fun h => absurd h (Nat.lt_irrefl _)) (fun k hk hj => by have := hk.2; have hj' : w.heap.size < k := hj; omega)⟩
          case measure => simp [sliceLen]; omega
    · have HB := Hid.mk hBat
      have HK := Hid.mk (And.intro hno (And.intro hwr (And.intro hown hp)))
      clear hno hBat hch hwr hown hp
      go_wp2_with fail
      refine HB.out.mono ?_
      rintro e w1 ⟨E, A2, n2, c2, rfl, hE, hcb⟩
      have hp1 := HK.out.2.2.2.keep hcb (fun h => h)
      have z1 := hp1.cell 1 rfl
      have H1 := Hid.mk (HK.out.2.1.trans hcb (fun _ _ h => h))
      clear hcb hp1 hE
      go_wp2_with fail
      go_ret2
      rw [HK.out.1]
      exact ⟨rfl, H1.out⟩
end Go.Proofs.Ytmbmfhpdajdpfaa
