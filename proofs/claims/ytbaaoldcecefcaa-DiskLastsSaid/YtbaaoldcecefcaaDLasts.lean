/- The walk of DiskLasts: it returns true, whatever the input. -/
import Derived.Test.YtbaaoldcecefcaaDCopies
import Derived.Test.YtbaaoldcecefcaaCopyStr
namespace Go.Proofs.Ytbaaoldcecefcaa
open Go.RowKit

theorem crashB_append (ps qs : List (Nat × List UInt8)) : ∀ (l : List UInt8) (k : Nat), crashB l k (ps ++ qs) = crashB (crashB l k ps) (k - sumW ps) qs := by
  induction ps with
  | nil => intro l k; simp [crashB, sumW]
  | cons p r ih =>
    intro l k
    simp only [List.cons_append, crashB, sumW]
    rw [ih]
    congr 1
    omega
theorem extract_mk (l : List UInt8) (t : Nat) : (ByteArray.mk l.toArray).extract 0 t = ⟨(l.take t).toArray⟩ := by
  apply ByteArray.ext
  simp
/-- One disk and a row of the call's own beside it. -/
structure LaInv (w w' : World) (g nb : Nat) (d : Dp) (x : List UInt8) : Prop where
  live : ∃ M R, Live w w' g M R d ∧ ¬ M nb ∧ ¬ R nb
  low : w.heap.size ≤ nb
  row : Row w' 5 1 (.slice (some ⟨nb, 0, none⟩) 100 100) 100 (x.map bv)
  len : d.now.length = 100
  alive : d.dead = false
  free : d.stop = 0
theorem LaInv.nil {w a b : World} {g nb : Nat} {d : Dp} {x : List UInt8} (h : LaInv w a g nb d x) (hc : Chg Nil a b) : LaInv w b g nb d x := by
  obtain ⟨⟨M, R, h1, h2, h3⟩, h4, h5, h6, h7, h8⟩ := h
  exact ⟨⟨M, R, h1.nil hc, h2, h3⟩, h4, h5.keep hc (fun _ _ h => h), h6, h7, h8⟩
theorem LaInv.chg {w a : World} {g nb : Nat} {d : Dp} {x : List UInt8} (h : LaInv w a g nb d x) : Chg Nil w a := by
  obtain ⟨⟨M, R, h1, _⟩, _⟩ := h
  exact h1.chg
theorem LaInv.went {w a b : World} {g nb : Nat} {d d' : Dp} {x : List UInt8} {M R M' R' : Nat → Prop} (h : LaInv w a g nb d x) (hl : Live w a g M R d) (hm : ¬ M nb) (hr : ¬ R nb) (hw : Went a b M R M' R') (hd : Dk b g M' R' d') (h1 : d'.now.length = 100) (h2 : d'.dead = false) (h3 : d'.stop = 0) : LaInv w b g nb d' x := by
  have hlt := h.row.lt nb rfl
  exact ⟨⟨M', R', hl.went hw hd, fun h => hm (hw.m nb hlt h), fun h => hr (hw.r nb hlt h)⟩, h.low, h.row.keep hw.chg (fun k hk hM => by have := own_at hk; subst this; exact hm hM), h1, h2, h3⟩
theorem LaInv.rowed {w a b : World} {g nb : Nat} {d : Dp} {x y : List UInt8} (h : LaInv w a g nb d x) (hrow : Row b 5 1 (.slice (some ⟨nb, 0, none⟩) 100 100) 100 (y.map bv)) (hc : Chg (Own (.slice (some ⟨nb, 0, none⟩) 100 100)) a b) : LaInv w b g nb d y := by
  obtain ⟨⟨M, R, h1, h2, h3⟩, h4, h5, h6, h7, h8⟩ := h
  exact ⟨⟨M, R, h1.far hc (fun k hk => by have := own_at hk; omega) (fun k hk ho => by
    have := own_at ho
    subst this
    rcases hk with hk | hk
    · exact h2 hk
    · exact h3 hk), h2, h3⟩, h4, hrow, h6, h7, h8⟩
/-- A write of a text. -/
theorem la_write {w a0 a : World} {g nb : Nat} {d : Dp} {x : List UInt8} (h0 : LaInv w a0 g nb d x) (hc : Chg Nil a0 a) (p : Nat) (hp : p ≤ 63) (ys : List UInt8) (hy : ys.length ≤ 7) (B : Option Addr) (mc : Nat) (hlong : d.waits.length ≤ 100) (S : Nat → Prop) (hr : RdB a S B ys.length ys)
    (hS : ∀ k, S k → a0.heap.size ≤ k) :
    Calls Try.prog 11 #[.pointer (some ⟨g, 0, none⟩), .int .i64 (p : Int), .slice B ys.length mc] a fun e b => e = .returned (.int .i64 0) ∧ LaInv w b g nb { d with now := splice d.now p ys, waits := d.waits ++ [(p, ys)] } x := by
  have h := h0.nil hc
  obtain ⟨M, R, h1', h2, h3⟩ := h0.live
  have h1 := h1'.nil hc
  have hl := h.len
  refine (dwrite_ok h1.dk p B ys.length mc ys hr (fun k hk hm => by have := hS k hk; have := h1'.dk.lt k (.inl hm); omega) (by rw [hl]; omega) h.alive (by omega)).mono ?_
  rintro e b ⟨M', R', rfl, hw, hd⟩
  have hwr : d.write p ys = { d with now := splice d.now p ys, waits := d.waits ++ [(p, ys)] } := by rw [Dp.write, called_zero h.free]
  rw [hwr] at hd
  exact ⟨rfl, h.went h1 h2 h3 hw hd (by show (splice d.now p ys).length = 100; rw [splice_len _ _ _ (by rw [hl]; omega)]; exact hl) h.alive h.free⟩

set_option maxHeartbeats 2000000 in
set_option maxRecDepth 100000 in
theorem lasts_walk (A B : Option Addr) (n c m dc : Nat) (za zb : List Int) (keep : Int) (S T : Nat → Prop) (w : World) (ha : Rds w S 1 A n (za.map (Value.int .i64))) (hb : Rds w T 1 B m (zb.map (Value.int .i64))) (hn : n ≤ 9223372036854775807) (hm : m ≤ 9223372036854775807) :
    Calls Try.prog 5 #[.slice A n c, .slice B m dc, .int .i64 keep] w fun e w' => e = .returned (.bool true) ∧ Chg Nil w w' := by
  obtain ⟨i0, hi, hz0, hz1, hz2⟩ := info_parts Try.infoU8
  have hla : za.length = n := by simpa using ha.len
  have hlb : zb.length = m := by simpa using hb.len
  have HR := Hid.mk (And.intro ha hb)
  clear ha hb
  have handk := i64_and_127 keep
  have hK : (keep % 128).toNat ≤ 127 := by omega
  generalize (keep % 128).toNat = K at handk hK
  go_enter Try.func5, Try.ntmps5
  go_wp2_with fail
  refine (dnew_any 100 w).mono ?_
  rintro e w1 ⟨g, M, R, rfl, hc1, h1, hlow⟩
  have L1 := Hid.mk (Live.mk hc1 h1 hlow)
  clear hc1 h1 hlow
  go_wp2_with (at_make; refine wpl_make rfl (.const (.int .i64 100)) (.const (.int .i64 100)) 22 rfl 5 i0 _ 1 Try.underlying22 hi hz0 hz1 hz2 rfl 100 rfl rfl (by omega) (by simp only [maxLen]; omega) ?_; intro w2 o2 ch2 l2; have hr2 := Row.of_own o2; have H2 := Hid.mk (And.intro hr2 ch2); clear o2 hr2 ch2)
  have hrep : List.replicate 100 (Value.int .u8 0) = ((Dp.new 100).now).map bv := rfl
  have hla2 : LaInv w w2 g w1.heap.size (Dp.new 100) (Dp.new 100).now :=
    ⟨⟨M, R, L1.out.nil H2.out.2, fun h => by have := L1.out.dk.lt _ (.inl h); omega, fun h => by have := L1.out.dk.lt _ (.inr h); omega⟩, L1.out.chg.size, by rw [← hrep]; exact H2.out.1, rfl, rfl, rfl⟩
  have HI := Hid.mk hla2
  clear hla2 hrep
  generalize w1.heap.size = nb at *
  go_wp2_with fail
  go_loopw [9] (fun i wr => ∃ (k : Nat) (d : Dp), k ≤ 20 ∧ k ≤ n ∧ i = .int .i64 (k : Int) ∧ LaInv w wr g nb d d.now ∧ d.waits.length ≤ k) (fun i _ => 20 - (intOf i).toNat)
  case atStart => exact ⟨0, Dp.new 100, by omega, by omega, rfl, HI.out, Nat.zero_le _⟩
  case round =>
    obtain ⟨k, d, hk20, hkn, rfl, hinv, hwl⟩ := hrel
    by_cases hlt : k < n
    · by_cases hlt20 : k < 20
      · have d20 : decide ((k : Int) < 20) = true := by rw [decide_eq_true_iff]; omega
        obtain ⟨b, off, rfl, _, _, hx⟩ := HR.out.1.plain (by omega) (by omega)
        have hcell := hinv.chg.cell (hx k (.int .i64 (za[k]'(by omega))) (by rw [List.getElem?_map, List.getElem?_eq_getElem (by omega)]; rfl)) (fun h => h)
        generalize za[k]'(by omega) = z at hcell
        have hand7 := i64_and_7 z
        have hL : (z % 8).toNat ≤ 7 := by omega
        generalize (z % 8).toNat = L at hand7 hL
        have hand63 := i64_and_63 (z / 8)
        have hP : (z / 8 % 64).toNat ≤ 63 := by omega
        generalize (z / 8 % 64).toNat = P at hand63 hP
        have HV := Hid.mk hinv
        clear hinv hx
        go_wp2_with fail
        refine (text12_any (k : Int) L wr (by omega)).mono ?_
        rintro e w4 ⟨rfl, hc4⟩
        have hcell4 := hc4.cell hcell (fun h => h)
        have H4 := Hid.mk (HV.out.nil hc4)
        clear hc4
        obtain ⟨C, W2, hcv, hcw⟩ := conv_bytes Try.prog 9 22 5 Try.underlying9 Try.underlying22 Try.underlying5 (txt k L) (by rw [txt_len]; simp only [maxLen]; omega)
        have HCW := Hid.mk hcw
        clear hcw
        have hsl := txt_len (k : Int) L
        generalize txt (k : Int) L = s at *
        subst hsl
        go_wp2_with fail
        refine (la_write H4.out (HCW.out w4).2.2.2 P hP s (by omega) _ (C w4) (by omega) _ (HCW.out w4).2.2.1.rd (fun i hi => by have := own_at hi; omega)).mono ?_
        rintro e w5 ⟨rfl, h5⟩
        have H5 := Hid.mk h5
        clear h5
        have hdp : ∀ g' : Nat, some (⟨nb, 0, none⟩ : Addr) = some ⟨g', 0, none⟩ → P < 100 → some (⟨nb, P, none⟩ : Addr) = some ⟨g', P, none⟩ := by
          intro g' hg _
          injection hg with hg
          injection hg with hg
          subst hg
          rfl
        go_wp2_with ((with_reducible refine wpl_copy_str (o := ⟨some 57, _, _, _, _, _⟩) rfl (.tmp 55) (.tmp 56) 22 9 rfl 5 5 Try.underlying22 Try.sizeU8 (some ⟨nb, 0, none⟩) 100 100 P (100 - P) _ H5.out.row _ hdp s (by omega) rfl rfl ?_); intro w6 hr6 hc6; have H6 := Hid.mk (H5.out.rowed (by rw [splice_map] at hr6; exact hr6) hc6); clear hr6 hc6)
        go_roundw
        case rel => exact ⟨k + 1, _, by omega, by omega, by go_num, H6.out, by simp only [List.length_append, List.length_cons, List.length_nil]; omega⟩
        case measure => simp [intOf]; omega
      · have d20 : decide ((k : Int) < 20) = false := by rw [decide_eq_false_iff_not]; omega
        have HV := Hid.mk hinv
        clear hinv
        go_wp2_with fail
        obtain ⟨Mo, Ro, hq1, hq2, hq3⟩ := HV.out.live
        have hdal := HV.out.alive
        refine (dsync_ok hq1.dk hdal).mono ?_
        rintro e w3 ⟨rfl, hc3, h3⟩
        have hsy : d.sync = { d with lasts := d.now, waits := [] } := by rw [Dp.sync, called_zero HV.out.free]
        rw [hsy] at h3
        have h3' := HV.out.went hq1 hq2 hq3 (Went.of_chg hc3) h3 HV.out.len HV.out.alive HV.out.free
        have H3 := Hid.mk h3'
        clear h3' hc3 h3 hq1 hq2 hq3 hsy
        go_wp2_with fail
        obtain ⟨Mp, Rp, hq1, hq2, hq3⟩ := H3.out.live
        refine (dwaits_any hq1.dk (Nat.zero_le _)).mono ?_
        rintro e w4 ⟨rfl, hc4⟩
        rw [show sumW ({ d with lasts := d.now, waits := [] } : Dp).waits = 0 from rfl]
        have H4 := Hid.mk (H3.out.nil hc4)
        clear hc4 hq1 hq2 hq3
        generalize hX0 : d.now = X0 at *
        go_wp2_with fail
        go_loopw [12, 13, 14] (fun lf tt i wr => ∃ (k2 : Nat) (d2 : Dp) (y : List UInt8), k2 ≤ 20 ∧ k2 ≤ m ∧ i = .int .i64 (k2 : Int) ∧ lf = .int .i64 ((K - sumW d2.waits : Nat) : Int) ∧ tt = .int .i64 (sumW d2.waits : Int) ∧ LaInv w wr g nb d2 y ∧ d2.waits.length ≤ k2 ∧ d2.lasts = X0 ∧ crashB X0 K d2.waits = y ∧ sumW d2.waits ≤ 7 * k2) (fun _ _ i _ => 20 - (intOf i).toNat)
        case atStart => exact ⟨0, _, X0, by omega, by omega, rfl, rfl, rfl, H4.out, Nat.zero_le _, rfl, rfl, Nat.zero_le _⟩
        case round =>
          obtain ⟨k2, d2, y, hk220, hkm, rfl, rfl, rfl, hinv, hwl2, hlast, hcr, hsum⟩ := hrel
          by_cases hlt : k2 < m
          · by_cases hlt20 : k2 < 20
            · have d20 : decide ((k2 : Int) < 20) = true := by rw [decide_eq_true_iff]; omega
              obtain ⟨b, off, rfl, _, _, hx⟩ := HR.out.2.plain (by omega) (by omega)
              have hcell := hinv.chg.cell (hx k2 (.int .i64 (zb[k2]'(by omega))) (by rw [List.getElem?_map, List.getElem?_eq_getElem (by omega)]; rfl)) (fun h => h)
              generalize zb[k2]'(by omega) = z at hcell
              have hand7 := i64_and_7 z
              have hL : (z % 8).toNat ≤ 7 := by omega
              generalize (z % 8).toNat = L at hand7 hL
              have hand63 := i64_and_63 (z / 8)
              have hP : (z / 8 % 64).toNat ≤ 63 := by omega
              generalize (z / 8 % 64).toNat = P at hand63 hP
              have HV := Hid.mk hinv
              clear hinv hx
              go_wp2_with fail
              refine (text12_any (100 + (k2 : Int)) L wr (by omega)).mono ?_
              rintro e w4 ⟨rfl, hc4⟩
              have hcell4 := hc4.cell hcell (fun h => h)
              have H4 := Hid.mk (HV.out.nil hc4)
              clear hc4
              obtain ⟨C, W2, hcv, hcw⟩ := conv_bytes Try.prog 9 22 5 Try.underlying9 Try.underlying22 Try.underlying5 (txt (100 + (k2 : Int)) L) (by rw [txt_len]; simp only [maxLen]; omega)
              have HCW := Hid.mk hcw
              clear hcw
              have hsl := txt_len (100 + (k2 : Int)) L
              generalize txt (100 + (k2 : Int)) L = s at *
              subst hsl
              go_wp2_with fail
              refine (la_write H4.out (HCW.out w4).2.2.2 P hP s (by omega) _ (C w4) (by omega) _ (HCW.out w4).2.2.1.rd (fun i hi => by have := own_at hi; omega)).mono ?_
              rintro e w5 ⟨rfl, h5⟩
              have H5 := Hid.mk h5
              clear h5
              have hdp : ∀ g' : Nat, some (⟨nb, 0, none⟩ : Addr) = some ⟨g', 0, none⟩ → P < 100 → some (⟨nb, P, none⟩ : Addr) = some ⟨g', P, none⟩ := by
                intro g' hg _
                injection hg with hg
                injection hg with hg
                subst hg
                rfl
              generalize hsw : sumW d2.waits = q at *
              by_cases hmin : s.length < K - q
              · go_wp2_with fail
                refine wp_region_tail 6 (by kernel_rfl) (by kernel_rfl) fun W hW => ?_
                simp only [List.take_succ_cons, List.take_zero, List.drop_succ_cons, List.drop_zero]
                have hch : Chg Nil w5 W := by subst hW; exact (Chg.refl Nil w5).drew
                clear hW
                repeat (go_big_quiet_step (fail))
                refine wpQuiet_nil ?_
                rw [extract_mk]
                refine wpl_copy_str rfl (.tmp 105) (.tmp 108) 22 9 rfl 5 5 Try.underlying22 Try.sizeU8 (some ⟨nb, 0, none⟩) 100 100 P (100 - P) _ (H5.out.row.keep hch (fun _ _ h => h)) _ hdp (s.take s.length) (by rw [List.length_take]; omega) rfl rfl ?_
                intro w6 hr6 hc6
                rw [splice_map, List.take_length, ← List.take_of_length_le (show s.length ≤ K - q by omega)] at hr6
                have H6 := Hid.mk ((H5.out.nil hch).rowed hr6 hc6)
                clear hr6 hc6 hch
                have hqs : sumW (d2.waits ++ [(P, s)]) = q + s.length := by rw [sumW_append, hsw]; rfl
                have hcr2 : crashB X0 K (d2.waits ++ [(P, s)]) = splice y P (s.take (K - q)) := by rw [crashB_append, hcr, hsw, crash_one]
                go_wp2_with fail
                go_roundw
                case rel => exact ⟨k2 + 1, _, _, by omega, by omega, by go_num, by rw [hqs]; (congr 1; omega), by rw [hqs]; go_num, H6.out, by simp only [List.length_append, List.length_cons, List.length_nil]; omega, hlast, hcr2, by rw [hqs]; omega⟩
                case measure => simp [intOf]; omega
              · go_wp2_with fail
                refine wp_region_tail 6 (by kernel_rfl) (by kernel_rfl) fun W hW => ?_
                simp only [List.take_succ_cons, List.take_zero, List.drop_succ_cons, List.drop_zero]
                have hch : Chg Nil w5 W := by subst hW; exact (Chg.refl Nil w5).drew
                clear hW
                repeat (go_big_quiet_step (fail))
                refine wpQuiet_nil ?_
                rw [extract_mk]
                refine wpl_copy_str rfl (.tmp 105) (.tmp 108) 22 9 rfl 5 5 Try.underlying22 Try.sizeU8 (some ⟨nb, 0, none⟩) 100 100 P (100 - P) _ (H5.out.row.keep hch (fun _ _ h => h)) _ hdp (s.take (K - q)) (by rw [List.length_take]; omega) rfl rfl ?_
                intro w6 hr6 hc6
                rw [splice_map] at hr6
                have H6 := Hid.mk ((H5.out.nil hch).rowed hr6 hc6)
                clear hr6 hc6 hch
                have hqs : sumW (d2.waits ++ [(P, s)]) = q + s.length := by rw [sumW_append, hsw]; rfl
                have hcr2 : crashB X0 K (d2.waits ++ [(P, s)]) = splice y P (s.take (K - q)) := by rw [crashB_append, hcr, hsw, crash_one]
                go_wp2_with fail
                go_roundw
                case rel => exact ⟨k2 + 1, _, _, by omega, by omega, by go_num, by rw [hqs]; (congr 1; omega), by rw [hqs]; go_num, H6.out, by simp only [List.length_append, List.length_cons, List.length_nil]; omega, hlast, hcr2, by rw [hqs]; omega⟩
                case measure => simp [intOf]; omega
            · have d20 : decide ((k2 : Int) < 20) = false := by rw [decide_eq_false_iff_not]; omega
              have HV := Hid.mk hinv
              clear hinv
              go_wp2_with fail
              obtain ⟨Mq, Rq, hq1, hq2, hq3⟩ := HV.out.live
              refine (dwaits_any hq1.dk (by omega)).mono ?_
              rintro e w6 ⟨rfl, hc6⟩
              have H6 := Hid.mk (HV.out.nil hc6)
              clear hc6 hq1 hq2 hq3
              go_wp2_with fail
              obtain ⟨Mr, Rr, hq1, hq2, hq3⟩ := H6.out.live
              refine (dcrash_any hq1.dk (K : Int) (by omega) (by omega) (by omega)).mono ?_
              rintro e w7 ⟨⟨v7, rfl⟩, hc7, h7⟩
              have hnow : (d2.crash (K : Int)).now = y := by
                rw [Dp.crash, hlast]
                exact hcr
              have hyl : y.length = 100 := by rw [← hnow, crash_now hq1.dk.ok]; exact H6.out.len
              have h7' := H6.out.went hq1 hq2 hq3 (Went.of_chg hc7) h7 (by rw [hnow]; exact hyl) rfl rfl
              have H7 := Hid.mk h7'
              clear h7' hc7 h7 hq1 hq2 hq3
              go_wp2_with fail
              obtain ⟨Mt, Rt, hq1, hq2, hq3⟩ := H7.out.live
              refine (dread_ok hq1.dk 0 100 (by rw [hnow]; omega) rfl).mono ?_
              rintro e w8 ⟨v8, rfl, o8, hc8⟩
              rw [hnow, List.drop_zero, List.take_of_length_le (by omega)] at o8
              obtain ⟨A8, c8, rfl, hx8, hy8⟩ := own_form o8
              have hcv8 := run_bytes_str (P := Try.prog) (c := c8) (Rds.of_own o8 : RdB w8 _ A8 100 y) 22 9 5 Try.underlying22 Try.underlying5 Try.underlying9
              have H8 := Hid.mk (H7.out.nil hc8)
              have hcvn := run_bytes_str (P := Try.prog) (c := 100) (H8.out.row.rd : RdB w8 _ (some ⟨nb, 0, none⟩) 100 y) 22 9 5 Try.underlying22 Try.underlying5 Try.underlying9
              clear o8 hc8 hq1 hq2 hq3
              go_wp2_with fail
              refine (awakeD_any _).mono ?_
              rintro e w9 ⟨rfl, hc9⟩
              have H9 := Hid.mk (H8.out.nil hc9)
              clear hc9
              go_wp2_with fail
              go_ret
              exact ⟨rfl, H9.out.chg⟩
          · have HV := Hid.mk hinv
            clear hinv
            go_wp2_with fail
            obtain ⟨Mq, Rq, hq1, hq2, hq3⟩ := HV.out.live
            refine (dwaits_any hq1.dk (by omega)).mono ?_
            rintro e w6 ⟨rfl, hc6⟩
            have H6 := Hid.mk (HV.out.nil hc6)
            clear hc6 hq1 hq2 hq3
            go_wp2_with fail
            obtain ⟨Mr, Rr, hq1, hq2, hq3⟩ := H6.out.live
            refine (dcrash_any hq1.dk (K : Int) (by omega) (by omega) (by omega)).mono ?_
            rintro e w7 ⟨⟨v7, rfl⟩, hc7, h7⟩
            have hnow : (d2.crash (K : Int)).now = y := by
              rw [Dp.crash, hlast]
              exact hcr
            have hyl : y.length = 100 := by rw [← hnow, crash_now hq1.dk.ok]; exact H6.out.len
            have h7' := H6.out.went hq1 hq2 hq3 (Went.of_chg hc7) h7 (by rw [hnow]; exact hyl) rfl rfl
            have H7 := Hid.mk h7'
            clear h7' hc7 h7 hq1 hq2 hq3
            go_wp2_with fail
            obtain ⟨Mt, Rt, hq1, hq2, hq3⟩ := H7.out.live
            refine (dread_ok hq1.dk 0 100 (by rw [hnow]; omega) rfl).mono ?_
            rintro e w8 ⟨v8, rfl, o8, hc8⟩
            rw [hnow, List.drop_zero, List.take_of_length_le (by omega)] at o8
            obtain ⟨A8, c8, rfl, hx8, hy8⟩ := own_form o8
            have hcv8 := run_bytes_str (P := Try.prog) (c := c8) (Rds.of_own o8 : RdB w8 _ A8 100 y) 22 9 5 Try.underlying22 Try.underlying5 Try.underlying9
            have H8 := Hid.mk (H7.out.nil hc8)
            have hcvn := run_bytes_str (P := Try.prog) (c := 100) (H8.out.row.rd : RdB w8 _ (some ⟨nb, 0, none⟩) 100 y) 22 9 5 Try.underlying22 Try.underlying5 Try.underlying9
            clear o8 hc8 hq1 hq2 hq3
            go_wp2_with fail
            refine (awakeD_any _).mono ?_
            rintro e w9 ⟨rfl, hc9⟩
            have H9 := Hid.mk (H8.out.nil hc9)
            clear hc9
            go_wp2_with fail
            go_ret
            exact ⟨rfl, H9.out.chg⟩
    · have HV := Hid.mk hinv
      clear hinv
      go_wp2_with fail
      obtain ⟨Mo, Ro, hq1, hq2, hq3⟩ := HV.out.live
      have hdal := HV.out.alive
      refine (dsync_ok hq1.dk hdal).mono ?_
      rintro e w3 ⟨rfl, hc3, h3⟩
      have hsy : d.sync = { d with lasts := d.now, waits := [] } := by rw [Dp.sync, called_zero HV.out.free]
      rw [hsy] at h3
      have h3' := HV.out.went hq1 hq2 hq3 (Went.of_chg hc3) h3 HV.out.len HV.out.alive HV.out.free
      have H3 := Hid.mk h3'
      clear h3' hc3 h3 hq1 hq2 hq3 hsy
      go_wp2_with fail
      obtain ⟨Mp, Rp, hq1, hq2, hq3⟩ := H3.out.live
      refine (dwaits_any hq1.dk (Nat.zero_le _)).mono ?_
      rintro e w4 ⟨rfl, hc4⟩
      rw [show sumW ({ d with lasts := d.now, waits := [] } : Dp).waits = 0 from rfl]
      have H4 := Hid.mk (H3.out.nil hc4)
      clear hc4 hq1 hq2 hq3
      generalize hX0 : d.now = X0 at *
      go_wp2_with fail
      go_loopw [12, 13, 14] (fun lf tt i wr => ∃ (k2 : Nat) (d2 : Dp) (y : List UInt8), k2 ≤ 20 ∧ k2 ≤ m ∧ i = .int .i64 (k2 : Int) ∧ lf = .int .i64 ((K - sumW d2.waits : Nat) : Int) ∧ tt = .int .i64 (sumW d2.waits : Int) ∧ LaInv w wr g nb d2 y ∧ d2.waits.length ≤ k2 ∧ d2.lasts = X0 ∧ crashB X0 K d2.waits = y ∧ sumW d2.waits ≤ 7 * k2) (fun _ _ i _ => 20 - (intOf i).toNat)
      case atStart => exact ⟨0, _, X0, by omega, by omega, rfl, rfl, rfl, H4.out, Nat.zero_le _, rfl, rfl, Nat.zero_le _⟩
      case round =>
        obtain ⟨k2, d2, y, hk220, hkm, rfl, rfl, rfl, hinv, hwl2, hlast, hcr, hsum⟩ := hrel
        by_cases hlt : k2 < m
        · by_cases hlt20 : k2 < 20
          · have d20 : decide ((k2 : Int) < 20) = true := by rw [decide_eq_true_iff]; omega
            obtain ⟨b, off, rfl, _, _, hx⟩ := HR.out.2.plain (by omega) (by omega)
            have hcell := hinv.chg.cell (hx k2 (.int .i64 (zb[k2]'(by omega))) (by rw [List.getElem?_map, List.getElem?_eq_getElem (by omega)]; rfl)) (fun h => h)
            generalize zb[k2]'(by omega) = z at hcell
            have hand7 := i64_and_7 z
            have hL : (z % 8).toNat ≤ 7 := by omega
            generalize (z % 8).toNat = L at hand7 hL
            have hand63 := i64_and_63 (z / 8)
            have hP : (z / 8 % 64).toNat ≤ 63 := by omega
            generalize (z / 8 % 64).toNat = P at hand63 hP
            have HV := Hid.mk hinv
            clear hinv hx
            go_wp2_with fail
            refine (text12_any (100 + (k2 : Int)) L wr (by omega)).mono ?_
            rintro e w4 ⟨rfl, hc4⟩
            have hcell4 := hc4.cell hcell (fun h => h)
            have H4 := Hid.mk (HV.out.nil hc4)
            clear hc4
            obtain ⟨C, W2, hcv, hcw⟩ := conv_bytes Try.prog 9 22 5 Try.underlying9 Try.underlying22 Try.underlying5 (txt (100 + (k2 : Int)) L) (by rw [txt_len]; simp only [maxLen]; omega)
            have HCW := Hid.mk hcw
            clear hcw
            have hsl := txt_len (100 + (k2 : Int)) L
            generalize txt (100 + (k2 : Int)) L = s at *
            subst hsl
            go_wp2_with fail
            refine (la_write H4.out (HCW.out w4).2.2.2 P hP s (by omega) _ (C w4) (by omega) _ (HCW.out w4).2.2.1.rd (fun i hi => by have := own_at hi; omega)).mono ?_
            rintro e w5 ⟨rfl, h5⟩
            have H5 := Hid.mk h5
            clear h5
            have hdp : ∀ g' : Nat, some (⟨nb, 0, none⟩ : Addr) = some ⟨g', 0, none⟩ → P < 100 → some (⟨nb, P, none⟩ : Addr) = some ⟨g', P, none⟩ := by
              intro g' hg _
              injection hg with hg
              injection hg with hg
              subst hg
              rfl
            generalize hsw : sumW d2.waits = q at *
            by_cases hmin : s.length < K - q
            · go_wp2_with fail
              refine wp_region_tail 6 (by kernel_rfl) (by kernel_rfl) fun W hW => ?_
              simp only [List.take_succ_cons, List.take_zero, List.drop_succ_cons, List.drop_zero]
              have hch : Chg Nil w5 W := by subst hW; exact (Chg.refl Nil w5).drew
              clear hW
              repeat (go_big_quiet_step (fail))
              refine wpQuiet_nil ?_
              rw [extract_mk]
              refine wpl_copy_str rfl (.tmp 105) (.tmp 108) 22 9 rfl 5 5 Try.underlying22 Try.sizeU8 (some ⟨nb, 0, none⟩) 100 100 P (100 - P) _ (H5.out.row.keep hch (fun _ _ h => h)) _ hdp (s.take s.length) (by rw [List.length_take]; omega) rfl rfl ?_
              intro w6 hr6 hc6
              rw [splice_map, List.take_length, ← List.take_of_length_le (show s.length ≤ K - q by omega)] at hr6
              have H6 := Hid.mk ((H5.out.nil hch).rowed hr6 hc6)
              clear hr6 hc6 hch
              have hqs : sumW (d2.waits ++ [(P, s)]) = q + s.length := by rw [sumW_append, hsw]; rfl
              have hcr2 : crashB X0 K (d2.waits ++ [(P, s)]) = splice y P (s.take (K - q)) := by rw [crashB_append, hcr, hsw, crash_one]
              go_wp2_with fail
              go_roundw
              case rel => exact ⟨k2 + 1, _, _, by omega, by omega, by go_num, by rw [hqs]; (congr 1; omega), by rw [hqs]; go_num, H6.out, by simp only [List.length_append, List.length_cons, List.length_nil]; omega, hlast, hcr2, by rw [hqs]; omega⟩
              case measure => simp [intOf]; omega
            · go_wp2_with fail
              refine wp_region_tail 6 (by kernel_rfl) (by kernel_rfl) fun W hW => ?_
              simp only [List.take_succ_cons, List.take_zero, List.drop_succ_cons, List.drop_zero]
              have hch : Chg Nil w5 W := by subst hW; exact (Chg.refl Nil w5).drew
              clear hW
              repeat (go_big_quiet_step (fail))
              refine wpQuiet_nil ?_
              rw [extract_mk]
              refine wpl_copy_str rfl (.tmp 105) (.tmp 108) 22 9 rfl 5 5 Try.underlying22 Try.sizeU8 (some ⟨nb, 0, none⟩) 100 100 P (100 - P) _ (H5.out.row.keep hch (fun _ _ h => h)) _ hdp (s.take (K - q)) (by rw [List.length_take]; omega) rfl rfl ?_
              intro w6 hr6 hc6
              rw [splice_map] at hr6
              have H6 := Hid.mk ((H5.out.nil hch).rowed hr6 hc6)
              clear hr6 hc6 hch
              have hqs : sumW (d2.waits ++ [(P, s)]) = q + s.length := by rw [sumW_append, hsw]; rfl
              have hcr2 : crashB X0 K (d2.waits ++ [(P, s)]) = splice y P (s.take (K - q)) := by rw [crashB_append, hcr, hsw, crash_one]
              go_wp2_with fail
              go_roundw
              case rel => exact ⟨k2 + 1, _, _, by omega, by omega, by go_num, by rw [hqs]; (congr 1; omega), by rw [hqs]; go_num, H6.out, by simp only [List.length_append, List.length_cons, List.length_nil]; omega, hlast, hcr2, by rw [hqs]; omega⟩
              case measure => simp [intOf]; omega
          · have d20 : decide ((k2 : Int) < 20) = false := by rw [decide_eq_false_iff_not]; omega
            have HV := Hid.mk hinv
            clear hinv
            go_wp2_with fail
            obtain ⟨Mq, Rq, hq1, hq2, hq3⟩ := HV.out.live
            refine (dwaits_any hq1.dk (by omega)).mono ?_
            rintro e w6 ⟨rfl, hc6⟩
            have H6 := Hid.mk (HV.out.nil hc6)
            clear hc6 hq1 hq2 hq3
            go_wp2_with fail
            obtain ⟨Mr, Rr, hq1, hq2, hq3⟩ := H6.out.live
            refine (dcrash_any hq1.dk (K : Int) (by omega) (by omega) (by omega)).mono ?_
            rintro e w7 ⟨⟨v7, rfl⟩, hc7, h7⟩
            have hnow : (d2.crash (K : Int)).now = y := by
              rw [Dp.crash, hlast]
              exact hcr
            have hyl : y.length = 100 := by rw [← hnow, crash_now hq1.dk.ok]; exact H6.out.len
            have h7' := H6.out.went hq1 hq2 hq3 (Went.of_chg hc7) h7 (by rw [hnow]; exact hyl) rfl rfl
            have H7 := Hid.mk h7'
            clear h7' hc7 h7 hq1 hq2 hq3
            go_wp2_with fail
            obtain ⟨Mt, Rt, hq1, hq2, hq3⟩ := H7.out.live
            refine (dread_ok hq1.dk 0 100 (by rw [hnow]; omega) rfl).mono ?_
            rintro e w8 ⟨v8, rfl, o8, hc8⟩
            rw [hnow, List.drop_zero, List.take_of_length_le (by omega)] at o8
            obtain ⟨A8, c8, rfl, hx8, hy8⟩ := own_form o8
            have hcv8 := run_bytes_str (P := Try.prog) (c := c8) (Rds.of_own o8 : RdB w8 _ A8 100 y) 22 9 5 Try.underlying22 Try.underlying5 Try.underlying9
            have H8 := Hid.mk (H7.out.nil hc8)
            have hcvn := run_bytes_str (P := Try.prog) (c := 100) (H8.out.row.rd : RdB w8 _ (some ⟨nb, 0, none⟩) 100 y) 22 9 5 Try.underlying22 Try.underlying5 Try.underlying9
            clear o8 hc8 hq1 hq2 hq3
            go_wp2_with fail
            refine (awakeD_any _).mono ?_
            rintro e w9 ⟨rfl, hc9⟩
            have H9 := Hid.mk (H8.out.nil hc9)
            clear hc9
            go_wp2_with fail
            go_ret
            exact ⟨rfl, H9.out.chg⟩
        · have HV := Hid.mk hinv
          clear hinv
          go_wp2_with fail
          obtain ⟨Mq, Rq, hq1, hq2, hq3⟩ := HV.out.live
          refine (dwaits_any hq1.dk (by omega)).mono ?_
          rintro e w6 ⟨rfl, hc6⟩
          have H6 := Hid.mk (HV.out.nil hc6)
          clear hc6 hq1 hq2 hq3
          go_wp2_with fail
          obtain ⟨Mr, Rr, hq1, hq2, hq3⟩ := H6.out.live
          refine (dcrash_any hq1.dk (K : Int) (by omega) (by omega) (by omega)).mono ?_
          rintro e w7 ⟨⟨v7, rfl⟩, hc7, h7⟩
          have hnow : (d2.crash (K : Int)).now = y := by
            rw [Dp.crash, hlast]
            exact hcr
          have hyl : y.length = 100 := by rw [← hnow, crash_now hq1.dk.ok]; exact H6.out.len
          have h7' := H6.out.went hq1 hq2 hq3 (Went.of_chg hc7) h7 (by rw [hnow]; exact hyl) rfl rfl
          have H7 := Hid.mk h7'
          clear h7' hc7 h7 hq1 hq2 hq3
          go_wp2_with fail
          obtain ⟨Mt, Rt, hq1, hq2, hq3⟩ := H7.out.live
          refine (dread_ok hq1.dk 0 100 (by rw [hnow]; omega) rfl).mono ?_
          rintro e w8 ⟨v8, rfl, o8, hc8⟩
          rw [hnow, List.drop_zero, List.take_of_length_le (by omega)] at o8
          obtain ⟨A8, c8, rfl, hx8, hy8⟩ := own_form o8
          have hcv8 := run_bytes_str (P := Try.prog) (c := c8) (Rds.of_own o8 : RdB w8 _ A8 100 y) 22 9 5 Try.underlying22 Try.underlying5 Try.underlying9
          have H8 := Hid.mk (H7.out.nil hc8)
          have hcvn := run_bytes_str (P := Try.prog) (c := 100) (H8.out.row.rd : RdB w8 _ (some ⟨nb, 0, none⟩) 100 y) 22 9 5 Try.underlying22 Try.underlying5 Try.underlying9
          clear o8 hc8 hq1 hq2 hq3
          go_wp2_with fail
          refine (awakeD_any _).mono ?_
          rintro e w9 ⟨rfl, hc9⟩
          have H9 := Hid.mk (H8.out.nil hc9)
          clear hc9
          go_wp2_with fail
          go_ret
          exact ⟨rfl, H9.out.chg⟩
theorem lasts_law (A B : Option Addr) (n c m dc : Nat) (za zb : List Int) (keep : Int) (S T : Nat → Prop) (w : World) (ha : Rds w S 1 A n (za.map (Value.int .i64))) (hb : Rds w T 1 B m (zb.map (Value.int .i64))) (hn : n ≤ 9223372036854775807) (hm : m ≤ 9223372036854775807) :
    Calls Try.prog 5 #[.slice A n c, .slice B m dc, .int .i64 keep] w fun e w' => e = .returned (.bool true) ∧ Below w.heap.size w w' :=
  (lasts_walk A B n c m dc za zb keep S T w ha hb hn hm).mono fun _ _ h => ⟨h.1, h.2.below_nil⟩
end Go.Proofs.Ytbaaoldcecefcaa
