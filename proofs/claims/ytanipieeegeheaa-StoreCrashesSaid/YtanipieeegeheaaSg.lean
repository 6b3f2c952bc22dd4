/- Joined for this seat from: XSlA XSlB XSlC. -/
import Derived.Test.YtanipieeegeheaaSf
namespace Go.Proofs.Ytanipieeegeheaa
open Go.RowKit

set_option maxHeartbeats 2000000 in
set_option maxRecDepth 100000 in
theorem sbytes_ok (gen u : Nat) (A : Option Addr) (n c : Nat) (l : List Pt) (S : Nat → Prop) (w : World) (hr : RdP w S A n l) (hok : Sn.ok ⟨gen, u, l⟩ = true) :
    Calls Try.prog 68 #[.agg #[.int .u64 (gen : Int), .int .u64 (u : Int), .slice A n c]] w fun e w' => ∃ v, e = .returned (.tuple #[v, .bool true]) ∧ Chg Nil w w' ∧ w'.ownsRow w.heap.size 5 1 v (Sn.bytes ⟨gen, u, l⟩).length ((Sn.bytes ⟨gen, u, l⟩).map bv) := by
  obtain ⟨i0, hi, hz0, hz1, hz2⟩ := info_parts Try.infoByte
  obtain ⟨h1, h2, h3, h4⟩ := (Sn.ok_iff _).1 hok
  simp only at h1 h2 h3 h4
  obtain rfl := hr.len
  have hn := (mayP_zero h4).1
  have hpl := ptsB_len l
  have hA : Chg Nil w (w.alloc (.cells #[.int .u64 (gen : Int), .int .u64 (u : Int), .slice A l.length c] 78)) := (Chg.refl _ _).alloc _
  have hbk := Bk.new w 78 #[.int .u64 (gen : Int), .int .u64 (u : Int), .slice A l.length c]
  have hP := points_ok A l.length c l S _ (Rds.keep hr hA (fun _ _ h => h)) h4
  have hbytes : Sn.bytes ⟨gen, u, l⟩ = numB gen 8 ++ (numB u 8 ++ (numB l.length 4 ++ ptsB l)) := rfl
  have HB := Hid.mk (And.intro hP (And.intro hA (And.intro hbytes hpl)))
  have x0 := hbk.cell 0 rfl
  have x1 := hbk.cell 1 rfl
  have x2 := hbk.cell 2 rfl
  have hs0 : (w.alloc (.cells #[.int .u64 (gen : Int), .int .u64 (u : Int), .slice A l.length c] 78)).heap.size = w.heap.size + 1 := by simp
  have HX := Hid.mk (And.intro hbk hs0)
  clear hr hok hP hA hbytes hpl h4 hbk hs0 x0 x1 x2
  go_enter Try.func68, Try.ntmps68
  go_wp2_with fail
  refine HB.out.1.mono ?_
  rintro e w1 ⟨v1, rfl, c1, o1⟩
  rw [HB.out.2.2.2] at o1
  obtain ⟨A1, k1, rfl, _, _⟩ := own_form o1
  have hb1 := HX.out.1.keep c1 (fun h => h)
  have y0 := hb1.cell 0 rfl
  have y1 := hb1.cell 1 rfl
  have H1 := Hid.mk (And.intro (HB.out.2.1.trans c1 (fun _ _ h => h)) (And.intro hb1 o1))
  clear c1 o1 hb1
  go_wp2_with fail
  refine (number_any w1.heap.size (.slice none 0 0) 0 [] gen 8 w1 (by omega) (by omega) (by omega) (World.ownsRow_nil w1 _ _ _) (Nat.le_refl _)).mono ?_
  rintro e w2 ⟨v2, rfl, o2, g2⟩
  have c2 : Chg Nil w1 w2 := g2.chg.wider (fun k _ h => by cases h)
  have hb2 := H1.out.2.1.keep c2 (fun h => h)
  have z1 := hb2.cell 1 rfl
  have H2 := Hid.mk (And.intro o2 (And.intro c2 hb2))
  clear o2 g2 c2 hb2 y0 y1
  go_wp2_with fail
  refine (number_any w1.heap.size v2 (0 + 8) _ u 8 w2 (by omega) (by omega) (by omega) H2.out.1 H2.out.2.1.size).mono ?_
  rintro e w3 ⟨v3, rfl, o3, g3⟩
  have c3 : Chg Nil w1 w3 := H2.out.2.1.trans g3.chg (fun k hk h => by have := own_ge H2.out.1 k h; omega)
  have hb3 := H1.out.2.1.keep c3 (fun h => h)
  have t2 := hb3.cell 2 rfl
  have H3 := Hid.mk (And.intro o3 (And.intro c3 hb3))
  clear o3 g3 c3 hb3 z1
  go_wp2_with fail
  refine (number_any w1.heap.size v3 (0 + 8 + 8) _ l.length 4 w3 (by omega) (by omega) (by omega) H3.out.1 H3.out.2.1.size).mono ?_
  rintro e w4 ⟨v4, rfl, o4, g4⟩
  have c4 : Chg Nil w1 w4 := H3.out.2.1.trans g4.chg (fun k hk h => by have := own_ge H3.out.1 k h; omega)
  have H4 := Hid.mk (And.intro o4 (And.intro c4 (show Rds w4 _ 1 A1 (16 * l.length) _ from Rds.of_own (own_keep H1.out.2.2 c4 (fun _ _ h => h)))))
  clear o4 g4 c4 t2
  go_wp2_with (at_builtin; refine wpl_append rfl (.tmp 43) (.tmp 44) 46 rfl w1.heap.size 5 i0 _ 1 1 Try.underlying46 hi hz0 hz1 hz2 rfl (by omega) _ (0 + 8 + 8 + 4) _ rfl H4.out.1 _ A1 (16 * l.length) k1 _ rfl H4.out.2.2 (bv_one _) (by simp only [maxLen]; omega) (by omega) H4.out.2.1.size ?_; intro v5 w5 o5 g5; have H5 := Hid.mk (And.intro o5 g5); clear o5 g5)
  go_ret2
  refine ⟨v5, rfl, (H1.out.1.trans H4.out.2.1 (fun _ _ h => h)).trans H5.out.2.chg (fun k hk h => by have := own_ge H4.out.1 k h; have := H1.out.1.size; omega), ?_⟩
  have h := own_base H5.out.1 (base' := w.heap.size) (fun k hk => by have := own_ge H5.out.1 k hk; have := H1.out.1.size; omega)
  rw [HB.out.2.2.1]
  simp only [List.map_append, List.length_append, numB_len, HB.out.2.2.2, List.nil_append] at h ⊢
  rw [show 8 + (8 + (4 + 16 * l.length)) = 0 + 8 + 8 + 4 + 16 * l.length by omega]
  simpa only [List.append_assoc] using h
set_option maxHeartbeats 2000000 in
set_option maxRecDepth 100000 in
theorem sbytes_no (gen u : Nat) (A : Option Addr) (n c : Nat) (l : List Pt) (S : Nat → Prop) (w : World) (hr : RdP w S A n l) (hn : n ≤ 9223372036854775807) (hok : Sn.ok ⟨gen, u, l⟩ = false) :
    Calls Try.prog 68 #[.agg #[.int .u64 (gen : Int), .int .u64 (u : Int), .slice A n c]] w fun e w' => e = .returned (.tuple #[.slice none 0 0, .bool false]) ∧ Chg Nil w w' := by
  have hbad : gen < 1 ∨ 4611686018427387904 < gen ∨ 4611686018427387904 < u ∨ mayP l ≠ 0 := by
    rcases Nat.lt_or_ge gen 1 with h | h
    · exact .inl h
    rcases Nat.lt_or_ge 4611686018427387904 gen with h2 | h2
    · exact .inr (.inl h2)
    rcases Nat.lt_or_ge 4611686018427387904 u with h3 | h3
    · exact .inr (.inr (.inl h3))
    by_cases h4 : mayP l = 0
    · rw [(Sn.ok_iff _).2 ⟨h, h2, h3, h4⟩] at hok; cases hok
    · exact .inr (.inr (.inr h4))
  have hA : Chg Nil w (w.alloc (.cells #[.int .u64 (gen : Int), .int .u64 (u : Int), .slice A n c] 78)) := (Chg.refl _ _).alloc _
  have hbk := Bk.new w 78 #[.int .u64 (gen : Int), .int .u64 (u : Int), .slice A n c]
  have HX := Hid.mk (And.intro hbk hA)
  by_cases h4 : mayP l = 0
  · have hP := points_ok A n c l S _ (Rds.keep hr hA (fun _ _ h => h)) h4
    have HP := Hid.mk hP
    have hbad' : gen < 1 ∨ 4611686018427387904 < gen ∨ 4611686018427387904 < u := by omega
    clear hP hA hbk hr hok hbad h4
    rcases hbad' with hb | hb | hb
    all_goals
      go_enter Try.func68, Try.ntmps68
      go_wp2_with fail
      refine HP.out.mono ?_
      rintro e w1 ⟨v1, rfl, c1, o1⟩
      have hb1 := HX.out.1.keep c1 (fun h => h)
      have y0 := hb1.cell 0 rfl
      have y1 := hb1.cell 1 rfl
      have H1 := Hid.mk (HX.out.2.trans c1 (fun _ _ h => h))
      clear c1 o1 hb1
      go_wp2_with fail
      all_goals (go_ret2; exact ⟨rfl, H1.out⟩)
  · have hP := points_bad A n c l S _ (Rds.keep hr hA (fun _ _ h => h)) hn h4
    generalize mayP l = E at *
    have HP := Hid.mk hP
    have hE : ((E : Int) == 0) = false := by rw [beq_eq_false_iff_ne]; omega
    have hE2 : ((E : Int) != 0) = true := by rw [bne_iff_ne]; omega
    clear hP hA hbk hr hok hbad
    go_enter Try.func68, Try.ntmps68
    go_wp2_with fail
    refine HP.out.mono ?_
    rintro e w1 ⟨rfl, c1⟩
    have hb1 := HX.out.1.keep c1 (fun h => h)
    have y0 := hb1.cell 0 rfl
    have y1 := hb1.cell 1 rfl
    have H1 := Hid.mk (HX.out.2.trans c1 (fun _ _ h => h))
    clear c1 hb1
    go_wp2_with fail
    all_goals (go_ret2; exact ⟨rfl, H1.out⟩)

end Go.Proofs.Ytanipieeegeheaa
namespace Go.Proofs.Ytanipieeegeheaa
open Go.RowKit

def thereB (d : Dp) (p n : Int) : Bool := decide (0 ≤ p) && decide (21 ≤ n) && decide (p ≤ d.now.length) && decide (n ≤ (d.now.length : Int) - p)
theorem thereB_nat {d : Dp} {p n : Nat} (h1 : 21 ≤ n) (h2 : p + n ≤ d.now.length) : thereB d p n = true := by simp [thereB]; omega
set_option maxHeartbeats 2000000 in
set_option maxRecDepth 100000 in
theorem there_any {g : Nat} {M R : Nat → Prop} {d : Dp} {w : World} (h : Dk w g M R d) (p n : Int) :
    Calls Try.prog 65 #[.pointer (some ⟨g, 0, none⟩), .int .i64 p, .int .i64 n] w fun e w' => e = .returned (.bool (thereB d p n)) ∧ w' = w := by
  have hm := h.ok.most
  have HS := Hid.mk (size_any h)
  clear h
  unfold thereB
  generalize d.now.length = L at *
  by_cases h1 : 0 ≤ p
  · by_cases h2 : 21 ≤ n
    · by_cases h3 : p ≤ (L : Int)
      · have d1 : decide (0 ≤ p) = true := decide_eq_true h1
        have d2 : decide (21 ≤ n) = true := decide_eq_true h2
        have d3 : decide (p ≤ (L : Int)) = true := decide_eq_true h3
        by_cases h4 : n ≤ (L : Int) - p
        · have d4 : decide (n ≤ (L : Int) - p) = true := decide_eq_true h4
          rw [d1, d2, d3, d4]
          go_enter Try.func65, Try.ntmps65
          go_wp2_with fail
          refine HS.out.mono ?_
          rintro e w1 ⟨rfl, rfl⟩
          go_wp2_with fail
          refine HS.out.mono ?_
          rintro e w1 ⟨rfl, rfl⟩
          go_wp2_with fail
          go_ret
          exact ⟨by first | rfl | simp [*], rfl⟩
        · have d4 : decide (n ≤ (L : Int) - p) = false := decide_eq_false h4
          rw [d1, d2, d3, d4]
          go_enter Try.func65, Try.ntmps65
          go_wp2_with fail
          refine HS.out.mono ?_
          rintro e w1 ⟨rfl, rfl⟩
          go_wp2_with fail
          refine HS.out.mono ?_
          rintro e w1 ⟨rfl, rfl⟩
          go_wp2_with fail
          go_ret
          exact ⟨by first | rfl | simp [*], rfl⟩
      · have d1 : decide (0 ≤ p) = true := decide_eq_true h1
        have d2 : decide (21 ≤ n) = true := decide_eq_true h2
        have d3 : decide (p ≤ (L : Int)) = false := decide_eq_false h3
        rw [d1, d2, d3]
        go_enter Try.func65, Try.ntmps65
        go_wp2_with fail
        refine HS.out.mono ?_
        rintro e w1 ⟨rfl, rfl⟩
        go_wp2_with fail
        go_ret
        exact ⟨by first | rfl | simp [*], rfl⟩
    · have d1 : decide (0 ≤ p) = true := decide_eq_true h1
      have d2 : decide (21 ≤ n) = false := decide_eq_false h2
      rw [d1, d2]
      go_enter Try.func65, Try.ntmps65
      go_wp2_with fail
      go_ret
      exact ⟨by first | rfl | simp [*], rfl⟩
  · have d1 : decide (0 ≤ p) = false := decide_eq_false h1
    rw [d1]
    go_enter Try.func65, Try.ntmps65
    go_wp2_with fail
    go_ret
    exact ⟨by first | rfl | simp [*], rfl⟩
/-- Fits. -/
def fitsS (size : Int) (s : Sn) : Bool := s.ok && decide ((s.bytes.length : Int) < size)
set_option maxHeartbeats 2000000 in
set_option maxRecDepth 100000 in
theorem sfits_any (size : Int) (gen u : Nat) (A : Option Addr) (n c : Nat) (l : List Pt) (S : Nat → Prop) (w : World) (hr : RdP w S A n l) (hn : n ≤ 9223372036854775807) :
    Calls Try.prog 58 #[.int .i64 size, .agg #[.int .u64 (gen : Int), .int .u64 (u : Int), .slice A n c]] w fun e w' => e = .returned (.bool (fitsS size ⟨gen, u, l⟩)) ∧ Chg Nil w w' := by
  have hA : Chg Nil w (w.alloc (.cells #[.int .u64 (gen : Int), .int .u64 (u : Int), .slice A n c] 78)) := (Chg.refl _ _).alloc _
  have hr' := Rds.keep hr hA (fun _ _ h => h)
  unfold fitsS
  cases hok : Sn.ok ⟨gen, u, l⟩ with
  | true =>
    have HB := Hid.mk (And.intro (sbytes_ok gen u A n c l S _ hr' hok) hA)
    generalize Sn.bytes ⟨gen, u, l⟩ = bs at *
    clear hr hr' hA hok
    simp only [Bool.true_and]
    go_enter Try.func58, Try.ntmps58
    go_wp2_with fail
    refine HB.out.1.mono ?_
    rintro e w1 ⟨v1, rfl, c1, o1⟩
    obtain ⟨A1, k1, rfl, _, _⟩ := own_form o1
    have H1 := Hid.mk (HB.out.2.trans c1 (fun _ _ h => h))
    clear c1 o1
    go_wp2_with fail
    go_ret
    exact ⟨by first | rfl | simp, H1.out⟩
  | false =>
    have HB := Hid.mk (And.intro (sbytes_no gen u A n c l S _ hr' hn hok) hA)
    clear hr hr' hA hok
    simp only [Bool.false_and]
    go_enter Try.func58, Try.ntmps58
    go_wp2_with fail
    refine HB.out.1.mono ?_
    rintro e w1 ⟨rfl, c1⟩
    have H1 := Hid.mk (HB.out.2.trans c1 (fun _ _ h => h))
    clear c1
    go_wp2_with fail
    go_ret
    exact ⟨by first | rfl | simp, H1.out⟩

end Go.Proofs.Ytanipieeegeheaa
namespace Go.Proofs.Ytanipieeegeheaa
open Go.RowKit

def StepIs (g : Nat) (M R : Nat → Prop) (d : Dp) (p : Nat) (ys : List UInt8) (e : Ending) (w w' : World) : Prop :=
  (d.dead = true ∧ e = .returned (.int .i64 9) ∧ Chg Nil w w') ∨ (d.dead = false ∧ ∃ M' R', e = .returned (.int .i64 0) ∧ Went w w' M R M' R' ∧ Dk w' g M' R' (d.write p ys))
theorem Went.alloc_left {w w' : World} {M R M' R' : Nat → Prop} {o : Obj} (h : Went (w.alloc o) w' M R M' R') : Went w w' M R M' R' :=
  ⟨((Chg.refl M w).alloc o).trans h.chg (fun _ _ h => h), fun k hk h' => h.m k (by simp; omega) h', fun k hk h' => h.r k (by simp; omega) h'⟩
theorem one_byte (w : World) (b : UInt8) : RdB (w.alloc (.cells #[bv b] 5)) (· = w.heap.size) (some ⟨w.heap.size, 0, none⟩) 1 [b] := rds_one w (bv b) _
set_option maxHeartbeats 1000000 in
set_option maxRecDepth 100000 in
theorem clear_any {g : Nat} {M R : Nat → Prop} {d : Dp} {w : World} (h : Dk w g M R d) (p : Nat) (v : Value) (hp : p + 1 ≤ d.now.length) (hlong : d.waits.length ≤ 1000000) :
    Calls Try.prog 80 #[.agg #[.pointer (some ⟨g, 0, none⟩), .int .i64 (p : Int), v]] w fun e w' => StepIs g M R d p [0] e w w' := by
  have hlt := h.lt
  have hA : ∀ o1 o2, Chg Nil w ((w.alloc o1).alloc o2) := fun o1 o2 => ((Chg.refl _ _).alloc _).alloc _
  have hw := fun o1 o2 => h.keep_nil (hA o1 o2)
  have hf := Dp.fits_nat hp
  cases hd : d.dead with
  | true =>
    have hE := Dp.opE_dead hf hd
    have HD := Hid.mk (fun o1 o2 B mc => (dwrite_no (hw o1 o2) p B 1 mc (by rw [show ((1 : Nat) : Int) = 1 by rfl] at hE; rw [show ((1 : Nat) : Int) = 1 by rfl, hE]; decide)))
    have HE := Hid.mk (And.intro hE hd)
    clear h hlt hw hf hd hE
    go_enter Try.func80, Try.ntmps80
    go_wp2_with fail
    refine (HD.out _ _ _ _).mono ?_
    rintro e w1 ⟨rfl, c1⟩
    rw [HE.out.1]
    have H1 := Hid.mk ((hA _ _).trans c1 (fun _ _ h => h))
    clear c1
    go_wp2_with fail
    go_ret
    exact .inl ⟨HE.out.2, rfl, H1.out⟩
  | false =>
    have HD := Hid.mk (fun o1 mc => dwrite_ok (hw o1 (.cells #[bv 0] 5)) p (some ⟨(w.alloc o1).heap.size, 0, none⟩) 1 mc [0] (one_byte (w.alloc o1) 0) (fun k hk hm => by have h1 := hlt k (.inl hm); have h2 : k = (w.alloc o1).heap.size := hk; simp at h2; omega) hp hd hlong)
    have HE := Hid.mk hd
    clear h hlt hw hf hd
    simp only [World.size_alloc] at HD
    go_enter Try.func80, Try.ntmps80
    go_wp2_with fail
    refine (HD.out _ _).mono ?_
    rintro e w1 ⟨M', R', rfl, h1, h2⟩
    have H1 := Hid.mk (And.intro h1.alloc_left.alloc_left h2)
    clear h1 h2
    go_wp2_with fail
    go_ret
    exact .inr ⟨HE.out, M', R', rfl, H1.out.1, H1.out.2⟩
set_option maxHeartbeats 1000000 in
set_option maxRecDepth 100000 in
theorem seal_any {g : Nat} {M R : Nat → Prop} {d : Dp} {w : World} (h : Dk w g M R d) (p : Nat) (v : Value) (hp : p + 1 ≤ d.now.length) (hlong : d.waits.length ≤ 1000000) :
    Calls Try.prog 82 #[.agg #[.pointer (some ⟨g, 0, none⟩), .int .i64 (p : Int), v]] w fun e w' => StepIs g M R d p [197] e w w' := by
  have hlt := h.lt
  have hA : ∀ o1 o2, Chg Nil w ((w.alloc o1).alloc o2) := fun o1 o2 => ((Chg.refl _ _).alloc _).alloc _
  have hw := fun o1 o2 => h.keep_nil (hA o1 o2)
  have hf := Dp.fits_nat hp
  cases hd : d.dead with
  | true =>
    have hE := Dp.opE_dead hf hd
    have HD := Hid.mk (fun o1 o2 B mc => (dwrite_no (hw o1 o2) p B 1 mc (by rw [show ((1 : Nat) : Int) = 1 by rfl] at hE; rw [show ((1 : Nat) : Int) = 1 by rfl, hE]; decide)))
    have HE := Hid.mk (And.intro hE hd)
    clear h hlt hw hf hd hE
    go_enter Try.func82, Try.ntmps82
    go_wp2_with fail
    refine (HD.out _ _ _ _).mono ?_
    rintro e w1 ⟨rfl, c1⟩
    rw [HE.out.1]
    have H1 := Hid.mk ((hA _ _).trans c1 (fun _ _ h => h))
    clear c1
    go_wp2_with fail
    go_ret
    exact .inl ⟨HE.out.2, rfl, H1.out⟩
  | false =>
    have HD := Hid.mk (fun o1 mc => dwrite_ok (hw o1 (.cells #[bv 197] 5)) p (some ⟨(w.alloc o1).heap.size, 0, none⟩) 1 mc [197] (one_byte (w.alloc o1) 197) (fun k hk hm => by have h1 := hlt k (.inl hm); have h2 : k = (w.alloc o1).heap.size := hk; simp at h2; omega) hp hd hlong)
    have HE := Hid.mk hd
    clear h hlt hw hf hd
    simp only [World.size_alloc] at HD
    go_enter Try.func82, Try.ntmps82
    go_wp2_with fail
    refine (HD.out _ _).mono ?_
    rintro e w1 ⟨M', R', rfl, h1, h2⟩
    have H1 := Hid.mk (And.intro h1.alloc_left.alloc_left h2)
    clear h1 h2
    go_wp2_with fail
    go_ret
    exact .inr ⟨HE.out, M', R', rfl, H1.out.1, H1.out.2⟩
set_option maxHeartbeats 1000000 in
set_option maxRecDepth 100000 in
theorem fill_any {g : Nat} {M R S : Nat → Prop} {d : Dp} {w : World} (h : Dk w g M R d) (p : Nat) (B : Option Addr) (m mc : Nat) (ys : List UInt8) (hr : RdB w S B m ys) (hS : ∀ k, S k → ¬ M k) (hp : p + 1 + m ≤ d.now.length) (hlong : d.waits.length ≤ 1000000) :
    Calls Try.prog 81 #[.agg #[.pointer (some ⟨g, 0, none⟩), .int .i64 (p : Int), .slice B m mc]] w fun e w' => StepIs g M R d (p + 1) ys e w w' := by
  have hlt := h.lt
  have hmost := h.ok.most
  have hA : ∀ o1, Chg Nil w (w.alloc o1) := fun o1 => (Chg.refl _ _).alloc _
  have hw := fun o1 => h.keep_nil (hA o1)
  have hr' := fun o1 => hr.keep (hA o1) (fun _ _ h => h)
  have hf := Dp.fits_nat hp
  rw [show ((p + 1 : Nat) : Int) = (p : Int) + 1 by omega] at hf
  cases hd : d.dead with
  | true =>
    have hE := Dp.opE_dead hf hd
    have HD := Hid.mk (fun o1 => (dwrite_no (hw o1) ((p : Int) + 1) B m mc (by rw [hE]; decide)))
    have HE := Hid.mk (And.intro hE hd)
    clear h hlt hw hf hd hE hr hr'
    go_enter Try.func81, Try.ntmps81
    go_wp2_with fail
    refine (HD.out _).mono ?_
    rintro e w1 ⟨rfl, c1⟩
    rw [HE.out.1]
    have H1 := Hid.mk ((hA _).trans c1 (fun _ _ h => h))
    clear c1
    go_wp2_with fail
    go_ret
    exact .inl ⟨HE.out.2, rfl, H1.out⟩
  | false =>
    have hD := fun o1 => dwrite_ok (hw o1) (p + 1) B m mc ys (hr' o1) hS hp hd hlong
    rw [show ((p + 1 : Nat) : Int) = (p : Int) + 1 by omega] at hD
    have HD := Hid.mk hD
    have HE := Hid.mk hd
    clear h hlt hw hf hd hr hr' hD
    go_enter Try.func81, Try.ntmps81
    go_wp2_with fail
    refine (HD.out _).mono ?_
    rintro e w1 ⟨M', R', rfl, h1, h2⟩
    have H1 := Hid.mk (And.intro h1.alloc_left h2)
    clear h1 h2
    go_wp2_with fail
    go_ret
    exact .inr ⟨HE.out, M', R', rfl, H1.out.1, H1.out.2⟩

end Go.Proofs.Ytanipieeegeheaa
