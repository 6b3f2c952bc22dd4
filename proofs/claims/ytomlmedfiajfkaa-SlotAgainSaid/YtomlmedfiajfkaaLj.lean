/- Joined for this seat from: XSlF. -/
import Derived.Test.YtomlmedfiajfkaaLi
namespace Go.Proofs.Ytomlmedfiajfkaa
open Go.RowKit

theorem neq_pt (a b c d a' b' c' d' : Int) (h : (⟨a, b, c, d⟩ : Pt) ≠ ⟨a', b', c', d'⟩) (W : World) : (binOp .neq 42 (.agg #[.int .i64 a, .int .i64 b, .int .i64 c, .int .i64 d]) (.agg #[.int .i64 a', .int .i64 b', .int .i64 c', .int .i64 d'])).run Try.prog W = .ok (.bool true) W := by
  go_simp
  rintro rfl rfl rfl rfl
  exact h rfl
theorem same_step {l1 l2 : List Pt} {k : Nat} {o : Pt} (ht : l1.take k = l2.take k) (h1 : l1[k]? = some o) (h2 : l2[k]? = some o) : l1.take (k + 1) = l2.take (k + 1) := by
  rw [List.take_add_one, List.take_add_one, ht, h1, h2]
set_option maxHeartbeats 1000000 in
set_option maxRecDepth 100000 in
theorem samePts_gen (A1 A2 : Option Addr) (n1 n2 c1 c2 : Nat) (l1 l2 : List Pt) (S1 S2 : Nat → Prop) (w : World) (h1 : RdP w S1 A1 n1 l1) (h2 : RdP w S2 A2 n2 l2) (hn1 : n1 ≤ 9223372036854775807) (hn2 : n2 ≤ 9223372036854775807) (hne : l1 ≠ l2) :
    Calls Try.prog 36 #[.slice A1 n1 c1, .slice A2 n2 c2] w fun e w' => e = .returned (.bool false) ∧ Chg Nil w w' := by
  have hl1 := h1.len
  have hl2 := h2.len
  by_cases hlen : n1 = n2
  rotate_left
  · have hd : ((n1 : Int) != n2) = true := by rw [bne_iff_ne]; omega
    clear h1 h2 hne
    go_enter Try.func36, Try.ntmps36
    go_wp2_with fail
    go_ret
    exact ⟨rfl, Chg.refl _ _⟩
  subst hlen
  have HR := Hid.mk (And.intro h1 (And.intro h2 hne))
  clear h1 h2 hne
  go_enter Try.func36, Try.ntmps36
  go_wp2_with fail
  go_loopw [5] (fun i wr => ∃ k : Nat, k ≤ n1 ∧ i = .int .i64 (k : Int) ∧ Chg Nil w wr ∧ l1.take k = l2.take k) (fun i _ => n1 - (intOf i).toNat)
  case atStart => exact ⟨0, Nat.zero_le _, rfl, Chg.refl _ _, rfl⟩
  case round =>
    obtain ⟨k, hk, rfl, hch, htk⟩ := hrel
    by_cases hlt : k < n1
    · obtain ⟨b, off, rfl, _, hat⟩ := HR.out.1.at4 (by omega)
      obtain ⟨b', off', rfl, _, hat'⟩ := HR.out.2.1.at4 (by omega)
      have ho : l1[k]? = some (l1[k]'(by omega)) := List.getElem?_eq_getElem (by omega)
      generalize l1[k]'(by omega) = o at ho
      have ho' : l2[k]? = some (l2[k]'(by omega)) := List.getElem?_eq_getElem (by omega)
      generalize l2[k]'(by omega) = o' at ho'
      by_cases hoo : o = o'
      · subst hoo
        obtain ⟨ky, x, y, v⟩ := o
        have x0 := fun nq => (hat (wr.drewN nq) (hch.drewN nq) k ky x y v ho).1
        have x1 := fun nq => (hat (wr.drewN nq) (hch.drewN nq) k ky x y v ho).2.1
        have x2 := fun nq => (hat (wr.drewN nq) (hch.drewN nq) k ky x y v ho).2.2.1
        have x3 := fun nq => (hat (wr.drewN nq) (hch.drewN nq) k ky x y v ho).2.2.2
        have y0 := fun nq => (hat' (wr.drewN nq) (hch.drewN nq) k ky x y v ho').1
        have y1 := fun nq => (hat' (wr.drewN nq) (hch.drewN nq) k ky x y v ho').2.1
        have y2 := fun nq => (hat' (wr.drewN nq) (hch.drewN nq) k ky x y v ho').2.2.1
        have y3 := fun nq => (hat' (wr.drewN nq) (hch.drewN nq) k ky x y v ho').2.2.2
        have HK := Hid.mk (And.intro hch (same_step htk ho ho'))
        clear hch hat hat' ho htk ho'
        go_wp2_with fail
        go_quiet (fail)
        go_wp2_with fail
        go_roundw
        case rel => exact ⟨k + 1, by omega, by go_num, HK.out.1.drewN _, HK.out.2⟩
        case measure => simp [intOf]; omega
      · obtain ⟨ky, x, y, v⟩ := o
        obtain ⟨ky', x', y', v'⟩ := o'
        have hq := neq_pt ky x y v ky' x' y' v' hoo
        have x0 := fun nq => (hat (wr.drewN nq) (hch.drewN nq) k ky x y v ho).1
        have x1 := fun nq => (hat (wr.drewN nq) (hch.drewN nq) k ky x y v ho).2.1
        have x2 := fun nq => (hat (wr.drewN nq) (hch.drewN nq) k ky x y v ho).2.2.1
        have x3 := fun nq => (hat (wr.drewN nq) (hch.drewN nq) k ky x y v ho).2.2.2
        have y0 := fun nq => (hat' (wr.drewN nq) (hch.drewN nq) k ky' x' y' v' ho').1
        have y1 := fun nq => (hat' (wr.drewN nq) (hch.drewN nq) k ky' x' y' v' ho').2.1
        have y2 := fun nq => (hat' (wr.drewN nq) (hch.drewN nq) k ky' x' y' v' ho').2.2.1
        have y3 := fun nq => (hat' (wr.drewN nq) (hch.drewN nq) k ky' x' y' v' ho').2.2.2
        have HK := Hid.mk hch
        clear hch hat hat' ho htk ho' hoo
        go_wp2_with fail
        go_quiet (fail)
        go_wp2_with fail
        go_ret
        exact ⟨rfl, HK.out.drewN _⟩
    · have hkn : k = n1 := by omega
      subst hkn
      exact absurd (by rw [List.take_of_length_le (by omega), List.take_of_length_le (by omega)] at htk; exact htk) HR.out.2.2

/-- A proposition as a Bool. -/
noncomputable def eqB (p : Prop) : Bool := @decide p (Classical.propDecidable p)
theorem eqB_true {p : Prop} (h : p) : eqB p = true := by unfold eqB; exact @decide_eq_true p (Classical.propDecidable p) h
theorem eqB_false {p : Prop} (h : ¬ p) : eqB p = false := by unfold eqB; exact @decide_eq_false p (Classical.propDecidable p) h
theorem samePts_eqB (A1 A2 : Option Addr) (n1 n2 c1 c2 : Nat) (l1 l2 : List Pt) (S1 S2 : Nat → Prop) (w : World) (h1 : RdP w S1 A1 n1 l1) (h2 : RdP w S2 A2 n2 l2) (hn1 : n1 ≤ 9223372036854775807) (hn2 : n2 ≤ 9223372036854775807) :
    Calls Try.prog 36 #[.slice A1 n1 c1, .slice A2 n2 c2] w fun e w' => e = .returned (.bool (eqB (l1 = l2))) ∧ Chg Nil w w' := by
  by_cases h : l1 = l2
  · rw [eqB_true h]
    subst h
    obtain rfl : n1 = n2 := by rw [← h1.len, ← h2.len]
    exact samePts_any A1 A2 n1 c1 c2 l1 S1 S2 w h1 h2 hn1
  · rw [eqB_false h]
    exact samePts_gen A1 A2 n1 n2 c1 c2 l1 l2 S1 S2 w h1 h2 hn1 hn2 h
set_option maxHeartbeats 1000000 in
set_option maxRecDepth 100000 in
theorem same14_any (g1 u1 g2 u2 : Nat) (A1 A2 : Option Addr) (n1 n2 c1 c2 : Nat) (l1 l2 : List Pt) (S1 S2 : Nat → Prop) (w : World) (h1 : RdP w S1 A1 n1 l1) (h2 : RdP w S2 A2 n2 l2) (hn1 : n1 ≤ 9223372036854775807) (hn2 : n2 ≤ 9223372036854775807) :
    Calls Try.prog 15 #[.agg #[.int .u64 (g1 : Int), .int .u64 (u1 : Int), .slice A1 n1 c1], .agg #[.int .u64 (g2 : Int), .int .u64 (u2 : Int), .slice A2 n2 c2]] w fun e w' =>
      e = .returned (.bool (eqB ((⟨g1, u1, l1⟩ : Sn) = ⟨g2, u2, l2⟩))) ∧ Chg Nil w w' := by
  have hA : ∀ o1 o2, Chg Nil w ((w.alloc o1).alloc o2) := fun o1 o2 => ((Chg.refl _ _).alloc _).alloc _
  have hS := fun o1 o2 => samePts_eqB A1 A2 n1 n2 c1 c2 l1 l2 S1 S2 _ (Rds.keep h1 (hA o1 o2) (fun _ _ h => h)) (Rds.keep h2 (hA o1 o2) (fun _ _ h => h)) hn1 hn2
  have HS := Hid.mk (And.intro hS hA)
  clear h1 h2 hS hA
  by_cases hg : g1 = g2
  · by_cases hu : u1 = u2
    · subst hg hu
      have he : eqB ((⟨g1, u1, l1⟩ : Sn) = ⟨g1, u1, l2⟩) = eqB (l1 = l2) := by
        by_cases h : l1 = l2
        · rw [eqB_true h, eqB_true (by rw [h])]
        · rw [eqB_false h, eqB_false (fun e => h (by injection e))]
      rw [he]
      clear he
      generalize eqB (l1 = l2) = r at *
      go_enter Try.func15, Try.ntmps15
      go_wp2_with fail
      refine (HS.out.1 _ _).mono ?_
      rintro e w1 ⟨rfl, c1⟩
      have H1 := Hid.mk ((HS.out.2 _ _).trans c1 (fun _ _ h => h))
      clear c1
      go_wp2_with fail
      go_ret
      exact ⟨rfl, H1.out⟩
    · subst hg
      rw [eqB_false (fun e => hu (by injection e))]
      have hb : ((u1 : Int) == u2) = false := by rw [beq_eq_false_iff_ne]; omega
      go_enter Try.func15, Try.ntmps15
      go_wp2_with fail
      go_ret
      exact ⟨rfl, HS.out.2 _ _⟩
  · rw [eqB_false (fun e => hg (by injection e))]
    have hb : ((g1 : Int) == g2) = false := by rw [beq_eq_false_iff_ne]; omega
    go_enter Try.func15, Try.ntmps15
    go_wp2_with fail
    go_ret
    exact ⟨rfl, HS.out.2 _ _⟩
set_option maxHeartbeats 1000000 in
set_option maxRecDepth 100000 in
theorem snapOk_any (gen u : Nat) (A : Option Addr) (n c : Nat) (l : List Pt) (S : Nat → Prop) (w : World) (hr : RdP w S A n l) (hn : n ≤ 9223372036854775807) :
    Calls Try.prog 18 #[.agg #[.int .u64 (gen : Int), .int .u64 (u : Int), .slice A n c]] w fun e w' => e = .returned (.bool (Sn.ok ⟨gen, u, l⟩)) ∧ Chg Nil w w' := by
  have hA : ∀ o1, Chg Nil w (w.alloc o1) := fun o1 => (Chg.refl _ _).alloc _
  have hM := fun o1 => pointsMay_any A n c l S _ (Rds.keep hr (hA o1) (fun _ _ h => h)) hn
  have HM := Hid.mk (And.intro hM hA)
  clear hM hr hA
  by_cases h1 : 1 ≤ gen
  · have d1 : decide (1 ≤ gen) = true := decide_eq_true h1
    have d1' : decide ((gen : Int) ≥ 1) = true := decide_eq_true (by omega)
    by_cases h2 : gen ≤ 4611686018427387904
    · have d2 : decide (gen ≤ 4611686018427387904) = true := decide_eq_true h2
      have d2' : decide ((gen : Int) ≤ 4611686018427387904) = true := decide_eq_true (by omega)
      by_cases h3 : u ≤ 4611686018427387904
      · have d3 : decide (u ≤ 4611686018427387904) = true := decide_eq_true h3
        have d3' : decide ((u : Int) ≤ 4611686018427387904) = true := decide_eq_true (by omega)
        have he : Sn.ok ⟨gen, u, l⟩ = (((mayP l : Nat) : Int) == 0) := by
          rw [Bool.eq_iff_iff, Sn.ok_iff, beq_iff_eq]
          constructor
          · intro h; have := h.2.2.2; simp only at this; omega
          · intro h; exact ⟨h1, h2, h3, by simp only; omega⟩
        rw [he]
        generalize mayP l = M at *
        clear he d1 d2 d3
        go_enter Try.func18, Try.ntmps18
        go_wp2_with fail
        refine (HM.out.1 _).mono ?_
        rintro e w1 ⟨rfl, c1⟩
        have H1 := Hid.mk ((HM.out.2 _).trans c1 (fun _ _ h => h))
        clear c1
        go_wp2_with fail
        go_ret
        exact ⟨rfl, H1.out⟩
      · have d3' : decide ((u : Int) ≤ 4611686018427387904) = false := decide_eq_false (by omega)
        have he : Sn.ok ⟨gen, u, l⟩ = false := by
          cases hc : Sn.ok ⟨gen, u, l⟩ with
          | false => rfl
          | true => exact absurd ((Sn.ok_iff _).1 hc).2.2.1 h3
        rw [he]
        clear he d1 d2
        go_enter Try.func18, Try.ntmps18
        go_wp2_with fail
        go_ret
        exact ⟨rfl, HM.out.2 _⟩
    · have d2' : decide ((gen : Int) ≤ 4611686018427387904) = false := decide_eq_false (by omega)
      have he : Sn.ok ⟨gen, u, l⟩ = false := by
        cases hc : Sn.ok ⟨gen, u, l⟩ with
        | false => rfl
        | true => exact absurd ((Sn.ok_iff _).1 hc).2.1 h2
      rw [he]
      clear he d1
      go_enter Try.func18, Try.ntmps18
      go_wp2_with fail
      go_ret
      exact ⟨rfl, HM.out.2 _⟩
  · have d1' : decide ((gen : Int) ≥ 1) = false := decide_eq_false (by omega)
    have he : Sn.ok ⟨gen, u, l⟩ = false := by
      cases hc : Sn.ok ⟨gen, u, l⟩ with
      | false => rfl
      | true => exact absurd ((Sn.ok_iff _).1 hc).1 h1
    rw [he]
    clear he
    go_enter Try.func18, Try.ntmps18
    go_wp2_with fail
    go_ret
    exact ⟨rfl, HM.out.2 _⟩
theorem u64_and_65535 (n : Nat) : bits .and .u64 (n : Int) 65535 = ((n % 65536 : Nat) : Int) := by
  have h : (BitVec.ofInt 64 65535).toNat = 2 ^ 16 - 1 := by decide
  have key : (BitVec.ofInt 64 (n : Int) &&& BitVec.ofInt 64 65535).toNat = n % 2 ^ 16 := by
    rw [BitVec.toNat_and, BitVec.toNat_ofInt, h, Nat.and_two_pow_sub_one_eq_mod]
    omega
  show IntKind.u64.wrap ((BitVec.ofInt 64 (n : Int) &&& BitVec.ofInt 64 65535).toNat : Nat) = _
  rw [key, IntKind.wrap_u64]
  omega

/-- What Snap of the statements makes. -/
def snapP (gen u : Nat) (l : List Oq) : Sn := ⟨gen % 65536 + 1, u % 65536, doP [] (goodL (l.take 30))⟩
set_option maxHeartbeats 2000000 in
set_option maxRecDepth 100000 in
theorem snap14_any (gen u : Nat) (A : Option Addr) (n c : Nat) (l : List Oq) (S : Nat → Prop) (w : World) (hr : RdO w S A n l) (hn : n ≤ 100) :
    Calls Try.prog 10 #[.int .u64 (gen : Int), .int .u64 (u : Int), .slice A n c] w fun e w' => ∃ A' c', e = .returned (.agg #[.int .u64 ((snapP gen u l).gen : Int), .int .u64 ((snapP gen u l).u : Int), .slice A' (snapP gen u l).pts.length c']) ∧
      RdP w' (fun k => w.heap.size ≤ k) A' (snapP gen u l).pts.length (snapP gen u l).pts ∧ Chg Nil w w' := by
  have hl := hr.len
  obtain ⟨i0, hi, hz0, hz1, hz2⟩ := info_parts Try.infoOp5
  have hb0 := Bk.new w 29 #[.int .u64 0, .int .u64 0, .slice none 0 0]
  have hA0 : Chg Nil w (w.alloc (.cells #[.int .u64 0, .int .u64 0, .slice none 0 0] 29)) := (Chg.refl _ _).alloc _
  have hu1 := u64_and_65535 gen
  have hu2 := u64_and_65535 u
  have hsz0 : (w.alloc (.cells #[.int .u64 0, .int .u64 0, .slice none 0 0] 29)).heap.size = w.heap.size + 1 := by simp
  have HR := Hid.mk (And.intro hr (And.intro hb0 (And.intro hA0 hsz0)))
  have HU := Hid.mk (And.intro hu1 hu2)
  clear hr hb0 hA0 hu1 hu2 hsz0
  unfold snapP
  simp only
  obtain ⟨P, hP⟩ : ∃ P, P = doP [] (goodL (l.take 30)) := ⟨_, rfl⟩
  rw [← hP]
  have HP := Hid.mk hP
  clear hP
  go_enter Try.func10, Try.ntmps10
  go_wp2_with fail
  go_loopw [7, 8] (fun out i wr => ∃ k : Nat, k ≤ n ∧ k ≤ 30 ∧ i = .int .i64 (k : Int) ∧ Chg Nil w wr ∧ Bk wr w.heap.size 29 #[.int .u64 0, .int .u64 0, .slice none 0 0] ∧ wr.ownsRow (w.heap.size + 1) 58 5 out (goodL (l.take k)).length ((goodL (l.take k)).flatMap Oq.cs)) (fun _ i _ => n - (intOf i).toNat)
  case atStart => exact ⟨0, Nat.zero_le _, Nat.zero_le _, rfl, HR.out.2.2.1, HR.out.2.1, ⟨rfl, .inl ⟨rfl, rfl⟩⟩⟩
  case round =>
    obtain ⟨k, hk, hk30, rfl, hch, hbk, hown⟩ := hrel
    have hgl := goodL_len (l.take k)
    rw [List.length_take, Nat.min_eq_left (by omega)] at hgl
    obtain ⟨G, gc, rfl, hgc, hgm⟩ := own_form hown
    by_cases hlt : k < n ∧ k < 30
    · obtain ⟨hlt, hlt30⟩ := hlt
      obtain ⟨b, off, rfl, _, hat⟩ := HR.out.1.at5 (by omega)
      have ho : l[k]? = some (l[k]'(by omega)) := List.getElem?_eq_getElem (by omega)
      generalize l[k]'(by omega) = o at ho
      have hstep := goodL_take l k o ho
      have HO := Hid.mk (fun W => ropOk_any o W)
      have HB := Hid.mk (fun W => rdo_one W o)
      generalize hb : o.ok = bo at *
      obtain ⟨kd, ky, x, y, v⟩ := o
      simp only [Oq.cs, Pt.cs] at HO HB
      obtain ⟨c0, c1, c2, c3, c4⟩ := hat wr hch k kd ky x y v ho
      generalize hX : goodL (l.take k) = X at *
      have HK := Hid.mk (And.intro hch (And.intro hown (And.intro hat (And.intro ho (And.intro hstep hbk)))))
      clear hch hown hat ho hstep hbk
      go_wp2_with fail
      refine (HO.out _).mono ?_
      rintro e w1 ⟨rfl, hc1⟩
      have H1 := Hid.mk (And.intro (HK.out.1.trans hc1 (fun _ _ h => h)) (And.intro (own_keep HK.out.2.1 hc1 (fun _ _ h => h)) (HK.out.2.2.2.2.2.keep hc1 (fun h => h))))
      obtain ⟨d0, d1, d2, d3, d4⟩ := HK.out.2.2.1 w1 H1.out.1 k kd ky x y v HK.out.2.2.2.1
      clear hc1
      cases bo
      · go_wp2_with fail
        go_roundw
        case rel => exact ⟨k + 1, by omega, by omega, by go_num, H1.out.1, H1.out.2.2, by rw [HK.out.2.2.2.2.1]; simpa using H1.out.2.1⟩
        case measure => simp [intOf]; omega
      · go_wp2_with (at_builtin; refine wpl_append rfl (.tmp 24) (.tmp 29) 24 rfl (w.heap.size + 1) 58 i0 _ 5 40 Try.underlying24 hi hz0 hz1 hz2 rfl (by omega) _ X.length _ rfl (own_keep H1.out.2.1 ((Chg.refl Nil w1).alloc _) (fun _ _ h => h)) _ (some ⟨w1.heap.size, 0, none⟩) 1 1 _ rfl (HB.out w1) (ops_one _) (by simp only [maxLen]; omega) (by omega) (by have := H1.out.2.2.lt; simp; omega) ?_; intro v2 w2 o2 g2; have H2 := Hid.mk (And.intro o2 g2); clear o2 g2)
        go_roundw
        case rel =>
          refine ⟨k + 1, by omega, by omega, by go_num, ?_, ?_, ?_⟩
          · exact (H1.out.1.trans ((Chg.refl Nil w1).alloc _) (fun _ _ h => h)).trans H2.out.2.chg (fun i hi hm => by
              have := own_ge H1.out.2.1 i hm
              omega)
          · exact (H1.out.2.2.alloc _).keep H2.out.2.chg (fun h => by
              have := own_ge H1.out.2.1 _ h
              omega)
          · rw [HK.out.2.2.2.2.1]
            have := H2.out.1
            simpa using this
        case measure => simp [intOf]; omega
    · have htk : l.take k = l.take 30 := by
        rcases Nat.lt_or_ge k n with h | h
        · obtain rfl : k = 30 := by omega
          rfl
        · rw [List.take_of_length_le (by omega), List.take_of_length_le (by omega)]
      have hend : ((k : Int) < n ∧ (k : Int) < 30) = False := by simp; omega
      rw [htk] at hown hgl
      have hkk : ∀ o ∈ goodL (l.take 30), o.kind = 1 ∨ o.kind = 2 := fun o ho => ok_kinds (goodL_oks _ o ho)
      have hAp := rapply_any none G 0 0 (goodL (l.take 30)).length gc [] (goodL (l.take 30)) (fun _ => False) _ wr (rdp_nil _ _) (Rds.of_own hown) (by omega) (by omega) up_nil hkk
      rw [htk] at hgc
      rw [← HP.out] at hAp
      rw [htk]
      generalize goodL (l.take 30) = X at *
      have HK := Hid.mk (And.intro hch (And.intro hbk hAp))
      clear hch hbk hown hAp hkk htk
      have hkc : (decide (k < n) = false) ∨ (decide (k < n) = true ∧ decide ((k : Int) < 30) = false) := by
        by_cases h : k < n
        · exact .inr ⟨decide_eq_true (by omega), decide_eq_false (by omega)⟩
        · exact .inl (decide_eq_false (by omega))
      have hw1 : IntKind.u64.wrap (((gen % 65536 : Nat) : Int) + 1) = ((gen % 65536 + 1 : Nat) : Int) := by
        rw [IntKind.wrap_u64]
        omega
      clear hend hlt hgl hgc hgm
      rcases hkc with hk1 | ⟨hk1, hk2⟩
      all_goals
        go_wp2_with fail
        refine HK.out.2.2.mono ?_
        rintro e w2 ⟨v2, rfl, o2, c2⟩
        obtain ⟨A2, k2, rfl, _, _⟩ := own_form o2
        have hb2 := HK.out.2.1.keep c2 (fun h => h)
        have x0 : w2.cell? ⟨w.heap.size, 0, none⟩ = some (.int .u64 0) := hb2.cell 0 rfl
        have x1 : w2.cell? ⟨w.heap.size, 1, none⟩ = some (.int .u64 0) := hb2.cell 1 rfl
        have x2 : w2.cell? ⟨w.heap.size, 2, none⟩ = some (.slice none 0 0) := hb2.cell 2 rfl
        have f0 := fun j => hb2.free j
        have hwlt := HK.out.2.1.lt
        have H2 := Hid.mk (And.intro hb2 (And.intro (HK.out.1.trans c2 (fun _ _ h => h)) o2))
        clear hb2 c2 o2
        go_wp2_with fail
        rw [HU.out.1, HU.out.2, hw1]
        have hb3 := ((H2.out.1.set 0 (.int .u64 ((gen % 65536 + 1 : Nat) : Int))).set 1 (.int .u64 ((u % 65536 : Nat) : Int))).set 2 (.slice A2 P.length k2)
        have hlies := own_ge H2.out.2.2
        exact bodyPost_ret (results_cell_row rfl _ _ w.heap.size 29 _ (0, 0) _ rfl hb3 Try.underlying29 rfl (by kernel_rfl)) rfl ⟨A2, k2, rfl,
          (((Rds.of_own H2.out.2.2).wider (T := fun k => wr.heap.size ≤ k) (fun k _ hk => hlies k hk) (by omega)).keep (T := (· = w.heap.size)) ((((Chg.refl (· = w.heap.size) w2).setCell (p := ⟨w.heap.size, 0, none⟩) (fun _ => rfl) _).setCell (p := ⟨w.heap.size, 1, none⟩) (fun _ => rfl) _).setCell (p := ⟨w.heap.size, 2, none⟩) (fun _ => rfl) _) (fun k hk hm => by have h1 : wr.heap.size ≤ k := hk; have h2 : k = w.heap.size := hm; omega)).wider (fun k _ hk => by have h1 : wr.heap.size ≤ k := hk; show w.heap.size ≤ k; omega) (by omega),
          ((H2.out.2.1.setCell (fun h => absurd h (Nat.lt_irrefl _)) _).setCell (fun h => absurd h (Nat.lt_irrefl _)) _).setCell (fun h => absurd h (Nat.lt_irrefl _)) _⟩

/-- No death is set. -/
structure Dp.free (d : Dp) : Prop where
  dead : d.dead = false
  stop : d.stop = 0
theorem Dp.free_new (n : Int) : (Dp.new n).free := ⟨rfl, rfl⟩
theorem Dp.free_crash (d : Dp) (k : Int) : (d.crash k).free := ⟨rfl, rfl⟩
theorem Dp.called_free {d : Dp} (h : d.free) : d.called = d := by unfold Dp.called; rw [h.stop, if_neg (by omega)]
theorem Dp.free_write {d : Dp} (h : d.free) (p : Nat) (ys : List UInt8) : (d.write p ys).free := by
  unfold Dp.write; rw [Dp.called_free h]; exact ⟨h.dead, h.stop⟩
theorem Dp.free_sync {d : Dp} (h : d.free) : d.sync.free := by
  unfold Dp.sync; rw [Dp.called_free h]; exact ⟨h.dead, h.stop⟩
theorem step_free {d : Dp} (h : d.free) (p : Nat) (ys : List UInt8) : (stepW d p ys).2 = 0 ∧ (stepW d p ys).1.free := by
  rw [stepW_go h.dead (Dp.free_write h p ys).dead]
  exact ⟨rfl, Dp.free_sync (Dp.free_write h p ys)⟩
theorem slot_free {d : Dp} (h : d.free) (p : Nat) (b : List UInt8) : (slotW d p b).2 = 0 ∧ (slotW d p b).1.free := by
  obtain ⟨a1, a2⟩ := step_free h p [0]
  obtain ⟨b1, b2⟩ := step_free a2 (p + 1) b
  unfold slotW
  rw [if_neg (by rw [a1]; decide), if_neg (by rw [b1]; decide)]
  exact step_free b2 p [197]
theorem slot_free_all {d : Dp} (hc : d.clean) (h : d.free) (p : Nat) (b : List UInt8) (hl : p + 1 + b.length ≤ d.now.length) :
    (slotW d p b).2 = 0 ∧ (slotW d p b).1.free ∧ (slotW d p b).1.clean ∧ (slotW d p b).1.now = splice d.now p (197 :: b) := by
  obtain ⟨a1, a2⟩ := slot_free h p b
  rcases slot_cases hc p b hl with ⟨_, c, n, _⟩ | ⟨e, _⟩
  · exact ⟨a1, a2, c, n⟩
  · rw [a1] at e; cases e
theorem new_len {n : Nat} (h : n ≤ 1000000) : (Dp.new n).now.length = n := by
  show (List.replicate (newN n) (0 : UInt8)).length = n
  rw [List.length_replicate]
  unfold newN
  omega
theorem new_get {n j : Nat} (h : n ≤ 1000000) (hj : j < n) : (Dp.new n).now[j]? = some 0 := by
  have hl := new_len h
  have : (Dp.new n).now = List.replicate (newN n) 0 := rfl
  rw [this] at hl ⊢
  rw [List.length_replicate] at hl
  rw [List.getElem?_replicate, if_pos (by omega)]
theorem new_none {n p k : Nat} (h : n ≤ 1000000) (hp : p < n) (hk : 0 < k) : readS (winS (Dp.new n).now p k) = none := by
  apply readS_zero
  rw [winS_get, if_pos hk]
  exact new_get h (by omega)
theorem chg_sub {M : Nat → Prop} {w0 w w' : World} (h : Chg Nil w0 w) (hc : Chg M w w') (hm : ∀ k, M k → w0.heap.size ≤ k) : Chg Nil w0 w' := h.trans hc (fun i hi hM => absurd (hm i hM) (by omega))
theorem rdp_nilB (w : World) (B : Nat) : RdP w (fun k => B ≤ k) none 0 [] := rdp_nil w _
set_option maxHeartbeats 2000000 in
set_option maxRecDepth 100000 in
theorem awake14_any (w : World) : Calls Try.prog 8 #[] w fun e w' => e = .returned (.bool true) ∧ Chg Nil w w' := by
  have hs1 : Sn.ok ⟨3, 4, []⟩ = true := by decide
  have hlen : (Sn.bytes ⟨3, 4, []⟩).length = 20 := by rw [Sn.len]; rfl
  have hnl : (Dp.new 100).now.length = 100 := new_len (n := 100) (by omega)
  obtain ⟨f1, f2, f3, f4⟩ := slot_free_all (Dp.clean_new 100) (Dp.free_new 100) 0 (Sn.bytes ⟨3, 4, []⟩) (by rw [hlen, hnl]; omega)
  have hrd : readS (winS (slotW (Dp.new 100) 0 (Sn.bytes ⟨3, 4, []⟩)).1.now 0 50) = some ⟨3, 4, []⟩ := by
    rw [f4]
    exact new_read hs1 (by rw [hnl]; omega) (by rw [hlen]; omega)
  have hnn : readS (winS (Dp.new 100).now 0 50) = none := new_none (n := 100) (by omega) (by omega) (by omega)
  have hnw : (slotW (Dp.new 100) 0 (Sn.bytes ⟨3, 4, []⟩)).1.now.length = 100 := by rw [f4, splice_len _ _ _ (by rw [List.length_cons, hlen, hnl]; omega), hnl]
  have hN := dnew_any 100 w
  have hr1 := fun {g : Nat} {M R : Nat → Prop} {w1 : World} (h : Dk w1 g M R (Dp.new 100)) => sread_ok h 0 50 (by omega) (by rw [hnl]; omega) rfl
  have hw1 := fun {g : Nat} {M R : Nat → Prop} {w1 : World} (h : Dk w1 g M R (Dp.new 100)) => swrite_go h 0 50 3 4 none 0 0 [] (fun _ => False) Rds.nil (by omega) (by rw [hnl]; omega) hs1 (by rw [hlen]; omega) (by show (0 : Nat) ≤ _; omega)
  rw [f1] at hw1
  rw [hnn] at hr1
  generalize (slotW (Dp.new 100) 0 (Sn.bytes ⟨3, 4, []⟩)).1 = D at *
  have hr2 := fun {g : Nat} {M R : Nat → Prop} {w1 : World} (h : Dk w1 g M R D) => sread_ok h 0 50 (by omega) (by rw [hnw]; omega) f2.dead
  rw [hrd] at hr2
  have HH := Hid.mk (And.intro hN (And.intro (@hr1) (And.intro (@hw1) (@hr2))))
  clear hN hr1 hw1 hr2 f1 f2 f3 f4 hrd hnn hnw hnl hlen hs1
  go_enter Try.func8, Try.ntmps8
  go_wp2_with fail
  refine HH.out.1.mono ?_
  rintro e w1 ⟨g, M, R, rfl, c1, d1, low1⟩
  have H1 := Hid.mk (Live.mk c1 d1 low1)
  clear c1 d1 low1
  go_wp2_with fail
  refine (HH.out.2.1 H1.out.dk).mono ?_
  rintro e w2 ⟨he, c2⟩
  obtain rfl : e = _ := he
  have H2 := Hid.mk ((H1.out.nil c2).nil ((Chg.refl Nil w2).alloc (.cells #[.int .u64 0, .int .u64 0, .slice none 0 0] 29)))
  clear c2
  go_wp2_with fail
  refine (HH.out.2.2.1 H2.out.dk).mono ?_
  rintro e w3 ⟨M', R', rfl, w3w, d3⟩
  have H3 := Hid.mk (H2.out.went w3w d3)
  clear w3w d3
  go_wp2_with fail
  refine (HH.out.2.2.2 H3.out.dk).mono ?_
  rintro e w4 ⟨he, c4⟩
  obtain ⟨A4, k4, rfl, o4⟩ := he
  have H4 := Hid.mk (H3.out.nil c4)
  clear c4 o4
  go_wp2_with fail
  go_ret
  exact ⟨rfl, H4.out.chg.alloc _⟩

end Go.Proofs.Ytomlmedfiajfkaa
