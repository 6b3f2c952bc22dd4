/- Joined for this seat from: XSlD. -/
import Derived.Test.YtanipieeegeheaaSg
namespace Go.Proofs.Ytanipieeegeheaa
open Go.RowKit

/-- What is still to be done of a writing. -/
def contW (p : Nat) (b : List UInt8) : Nat → Dp → Dp × Int
  | 0, D => slotW D p b
  | 1, D => if (stepW D (p + 1) b).2 ≠ 0 then stepW D (p + 1) b else stepW (stepW D (p + 1) b).1 p [197]
  | 2, D => stepW D p [197]
  | _, D => (D, 0)
def stpP (p : Nat) : Nat → Nat
  | 1 => p + 1
  | _ => p
def stpB (b : List UInt8) : Nat → List UInt8
  | 0 => [0]
  | 1 => b
  | _ => [197]
theorem contW_stop {p : Nat} {b : List UInt8} {k : Nat} {D : Dp} (hk : k < 3) (h : (stepW D (stpP p k) (stpB b k)).2 ≠ 0) : contW p b k D = stepW D (stpP p k) (stpB b k) := by
  have : k = 0 ∨ k = 1 ∨ k = 2 := by omega
  rcases this with rfl | rfl | rfl
  · show slotW D p b = _
    unfold slotW
    rw [if_pos (show (stepW D p [0]).2 ≠ 0 from h)]; rfl
  · show (if _ then _ else _) = _
    rw [if_pos (show (stepW D (p + 1) b).2 ≠ 0 from h)]; rfl
  · rfl
theorem contW_go {p : Nat} {b : List UInt8} {k : Nat} {D : Dp} (hk : k < 3) (h : (stepW D (stpP p k) (stpB b k)).2 = 0) : contW p b k D = contW p b (k + 1) (stepW D (stpP p k) (stpB b k)).1 := by
  have : k = 0 ∨ k = 1 ∨ k = 2 := by omega
  rcases this with rfl | rfl | rfl
  · show slotW D p b = contW p b 1 _
    unfold slotW
    rw [if_neg (by show ¬ (stepW D p [0]).2 ≠ 0; rw [show (stepW D p [0]).2 = 0 from h]; decide)]; rfl
  · show (if _ then _ else _) = contW p b 2 _
    rw [if_neg (by rw [show (stepW D (p + 1) b).2 = 0 from h]; decide)]; rfl
  · show stepW D p [197] = ((stepW D p [197]).1, 0)
    rw [← show (stepW D p [197]).2 = 0 from h]
theorem stepW_dead {d : Dp} (p : Nat) (ys : List UInt8) (h : d.dead = true) : stepW d p ys = (d, 9) := by simp [stepW, h]
theorem stepW_die {d : Dp} {p : Nat} {ys : List UInt8} (h : d.dead = false) (h2 : (d.write p ys).dead = true) : stepW d p ys = (d.write p ys, 9) := by simp [stepW, h, h2]
theorem stepW_go {d : Dp} {p : Nat} {ys : List UInt8} (h : d.dead = false) (h2 : (d.write p ys).dead = false) : stepW d p ys = ((d.write p ys).sync, 0) := by simp [stepW, h, h2]
theorem stepW_len {d : Dp} {p : Nat} {ys : List UInt8} (h : p + ys.length ≤ d.now.length) : (stepW d p ys).1.now.length = d.now.length := by
  unfold stepW
  split
  · rfl
  · split
    · rw [Dp.write_now, splice_len _ _ _ h]
    · rw [Dp.sync_now, Dp.write_now, splice_len _ _ _ h]
theorem stepW_waits {d : Dp} {p : Nat} {ys : List UInt8} (h : (stepW d p ys).2 = 0) : (stepW d p ys).1.waits = [] := by
  unfold stepW at *
  split
  · rename_i h1; rw [if_pos h1] at h; cases h
  · split
    · rename_i h1 h2; rw [if_neg h1, if_pos h2] at h; cases h
    · rfl
theorem enter_clear (args : Array Value) (W : World) : (callFunc 80 args).run Try.prog W = .ok (.enter 80 args) W := by kernel_rfl
theorem enter_fill (args : Array Value) (W : World) : (callFunc 81 args).run Try.prog W = .ok (.enter 81 args) W := by kernel_rfl
theorem enter_seal (args : Array Value) (W : World) : (callFunc 82 args).run Try.prog W = .ok (.enter 82 args) W := by kernel_rfl
theorem nine_ne : ¬ ((9 : Int) = 0) := by decide
/-- All that a round of the loop needs. -/
structure WrAt (w wr : World) (g : Nat) (M R M' R' : Nat → Prop) (D : Dp) (S : Nat → Prop) (B : Option Addr) (nb : Nat) (bs : List UInt8) (cb : Nat) (t : TypeId) (cs : Array Value) : Prop where
  went : Went w wr M R M' R'
  dk : Dk wr g M' R' D
  rd : RdB wr S B nb bs
  far : ∀ k, S k → ¬ M' k
  bk : Bk wr cb t cs
  bfar : ¬ M' cb
theorem Went.trans {w w1 w2 : World} {M R M1 R1 M2 R2 : Nat → Prop} (h : Went w w1 M R M1 R1) (k : Went w1 w2 M1 R1 M2 R2) : Went w w2 M R M2 R2 :=
  ⟨h.chg.trans k.chg (fun i hi hm => h.m i hi hm), fun i hi hm => h.m i hi (k.m i (Nat.lt_of_lt_of_le hi h.chg.size) hm), fun i hi hm => h.r i hi (k.r i (Nat.lt_of_lt_of_le hi h.chg.size) hm)⟩
theorem Went.nil {w w1 : World} {M R : Nat → Prop} (h : Chg Nil w w1) : Went w w1 M R M R := ⟨h.wider (fun _ _ h => h.elim), fun _ _ h => h, fun _ _ h => h⟩
theorem WrAt.step {w wr w1 : World} {g : Nat} {M R M' R' M1 R1 S : Nat → Prop} {D D1 : Dp} {B : Option Addr} {nb : Nat} {bs : List UInt8} {cb : Nat} {t : TypeId} {cs : Array Value}
    (h : WrAt w wr g M R M' R' D S B nb bs cb t cs) (hw : Went wr w1 M' R' M1 R1) (hd : Dk w1 g M1 R1 D1) : WrAt w w1 g M R M1 R1 D1 (fun k => S k ∧ k < wr.heap.size) B nb bs cb t cs :=
  { went := h.went.trans hw, dk := hd, rd := h.rd.here.keep hw.chg (fun k hk hm => h.far k hk.1 hm), far := fun k hk hm => h.far k hk.1 (hw.m k hk.2 hm),
    bk := h.bk.keep hw.chg h.bfar, bfar := fun hm => h.bfar (hw.m cb h.bk.lt hm) }

set_option maxHeartbeats 2000000 in
set_option maxRecDepth 100000 in
theorem swrite_arg {g : Nat} {M R : Nat → Prop} {d : Dp} {w : World} (h : Dk w g M R d) (p size : Int) (gen u : Nat) (A : Option Addr) (n c : Nat) (l : List Pt) (S : Nat → Prop) (hr : RdP w S A n l) (hn : n ≤ 9223372036854775807)
    (hbad : thereB d p size = false ∨ Sn.ok ⟨gen, u, l⟩ = false) :
    Calls Try.prog 59 #[.pointer (some ⟨g, 0, none⟩), .int .i64 p, .int .i64 size, .agg #[.int .u64 (gen : Int), .int .u64 (u : Int), .slice A n c]] w fun e w' => e = .returned (.int .i64 1) ∧ Chg Nil w w' := by
  have hA : Chg Nil w (w.alloc (.cells #[.int .u64 (gen : Int), .int .u64 (u : Int), .slice A n c] 78)) := (Chg.refl _ _).alloc _
  have hr' := Rds.keep hr hA (fun _ _ h => h)
  have hT := fun W (hW : Chg Nil w W) => there_any (h.keep_nil hW) p size
  cases hok : Sn.ok ⟨gen, u, l⟩ with
  | true =>
    have ht : thereB d p size = false := by
      rcases hbad with h | h
      · exact h
      · rw [hok] at h; cases h
    rw [ht] at hT
    have HB := Hid.mk (And.intro (sbytes_ok gen u A n c l S _ hr' hok) (And.intro hA hT))
    generalize Sn.bytes ⟨gen, u, l⟩ = bs at *
    clear hr hr' hA hok hbad hT ht h
    go_enter Try.func59, Try.ntmps59
    go_wp2_with fail
    refine HB.out.1.mono ?_
    rintro e w1 ⟨v1, rfl, c1, o1⟩
    obtain ⟨A1, k1, rfl, _, _⟩ := own_form o1
    have H1 := Hid.mk (HB.out.2.1.trans c1 (fun _ _ h => h))
    clear c1 o1
    go_wp2_with fail
    refine (HB.out.2.2 w1 H1.out).mono ?_
    rintro e w2 ⟨rfl, he⟩
    have he' := he.symm
    subst he'
    clear he
    go_wp2_with fail
    go_ret
    exact ⟨rfl, H1.out⟩
  | false =>
    have HB := Hid.mk (And.intro (sbytes_no gen u A n c l S _ hr' hn hok) (And.intro hA hT))
    clear hr hr' hA hok hbad hT h
    generalize thereB d p size = tb at *
    go_enter Try.func59, Try.ntmps59
    go_wp2_with fail
    refine HB.out.1.mono ?_
    rintro e w1 ⟨rfl, c1⟩
    have H1 := Hid.mk (HB.out.2.1.trans c1 (fun _ _ h => h))
    clear c1
    go_wp2_with fail
    refine (HB.out.2.2 w1 H1.out).mono ?_
    rintro e w2 ⟨rfl, he⟩
    have he' := he.symm
    subst he'
    clear he
    cases tb
    all_goals
      go_wp2_with fail
      go_ret
      exact ⟨rfl, H1.out⟩
set_option maxHeartbeats 2000000 in
set_option maxRecDepth 100000 in
theorem swrite_full {g : Nat} {M R : Nat → Prop} {d : Dp} {w : World} (h : Dk w g M R d) (p size : Int) (gen u : Nat) (A : Option Addr) (n c : Nat) (l : List Pt) (S : Nat → Prop) (hr : RdP w S A n l)
    (ht : thereB d p size = true) (hok : Sn.ok ⟨gen, u, l⟩ = true) (hf : size ≤ ((Sn.bytes ⟨gen, u, l⟩).length : Int)) :
    Calls Try.prog 59 #[.pointer (some ⟨g, 0, none⟩), .int .i64 p, .int .i64 size, .agg #[.int .u64 (gen : Int), .int .u64 (u : Int), .slice A n c]] w fun e w' => e = .returned (.int .i64 12) ∧ Chg Nil w w' := by
  have hA : Chg Nil w (w.alloc (.cells #[.int .u64 (gen : Int), .int .u64 (u : Int), .slice A n c] 78)) := (Chg.refl _ _).alloc _
  have hr' := Rds.keep hr hA (fun _ _ h => h)
  have hT := fun W (hW : Chg Nil w W) => there_any (h.keep_nil hW) p size
  rw [ht] at hT
  have HB := Hid.mk (And.intro (sbytes_ok gen u A n c l S _ hr' hok) (And.intro hA hT))
  generalize Sn.bytes ⟨gen, u, l⟩ = bs at *
  have hdd : decide (size ≤ (bs.length : Int)) = true := decide_eq_true hf
  clear hr hr' hA hok hT ht h
  go_enter Try.func59, Try.ntmps59
  go_wp2_with fail
  refine HB.out.1.mono ?_
  rintro e w1 ⟨v1, rfl, c1, o1⟩
  obtain ⟨A1, k1, rfl, _, _⟩ := own_form o1
  have H1 := Hid.mk (HB.out.2.1.trans c1 (fun _ _ h => h))
  clear c1 o1
  go_wp2_with fail
  refine (HB.out.2.2 w1 H1.out).mono ?_
  rintro e w2 ⟨rfl, he⟩
  have he' := he.symm
  subst he'
  clear he
  go_wp2_with fail
  go_ret
  exact ⟨rfl, H1.out⟩
set_option maxHeartbeats 4000000 in
set_option maxRecDepth 100000 in
theorem swrite_go {g : Nat} {M R : Nat → Prop} {d : Dp} {w : World} (h : Dk w g M R d) (p size : Nat) (gen u : Nat) (A : Option Addr) (n c : Nat) (l : List Pt) (S : Nat → Prop) (hr : RdP w S A n l)
    (hs : 21 ≤ size) (hp : p + size ≤ d.now.length) (hok : Sn.ok ⟨gen, u, l⟩ = true) (hf : (Sn.bytes ⟨gen, u, l⟩).length < size) (hlong : d.waits.length ≤ 1000000) :
    Calls Try.prog 59 #[.pointer (some ⟨g, 0, none⟩), .int .i64 (p : Int), .int .i64 (size : Int), .agg #[.int .u64 (gen : Int), .int .u64 (u : Int), .slice A n c]] w fun e w' =>
      ∃ M' R', e = .returned (.int .i64 (slotW d p (Sn.bytes ⟨gen, u, l⟩)).2) ∧ Went w w' M R M' R' ∧ Dk w' g M' R' (slotW d p (Sn.bytes ⟨gen, u, l⟩)).1 := by
  have hA : Chg Nil w (w.alloc (.cells #[.int .u64 (gen : Int), .int .u64 (u : Int), .slice A n c] 78)) := (Chg.refl _ _).alloc _
  have hr' := Rds.keep hr hA (fun _ _ h => h)
  have hT := fun W (hW : Chg Nil w W) => there_any (h.keep_nil hW) p size
  rw [thereB_nat hs hp] at hT
  have hmost := h.ok.most
  have HB := Hid.mk (And.intro (sbytes_ok gen u A n c l S _ hr' hok) (And.intro hA (And.intro hT h)))
  generalize Sn.bytes ⟨gen, u, l⟩ = bs at *
  have hdd : decide (size ≤ bs.length) = false := decide_eq_false (by omega)
  clear hr hr' hA hok hT h
  go_enter Try.func59, Try.ntmps59
  go_wp2_with fail
  refine HB.out.1.mono ?_
  rintro e w1 ⟨v1, rfl, c1, o1⟩
  obtain ⟨A1, k1, rfl, _, _⟩ := own_form o1
  have hlow : ∀ k, Own (.slice A1 bs.length k1) k → w.heap.size ≤ k := fun k hk => by have := own_ge o1 k hk; simp at this; omega
  have H1 := Hid.mk (And.intro (HB.out.2.1.trans c1 (fun _ _ h => h)) (And.intro (show RdB w1 (Own (.slice A1 bs.length k1)) A1 bs.length bs from Rds.of_own o1) hlow))
  clear c1 o1 hlow
  go_wp2_with fail
  refine (HB.out.2.2.1 w1 H1.out.1).mono ?_
  rintro e w2 ⟨rfl, he⟩
  have he' := he.symm
  subst he'
  clear he
  go_wp2_with fail
  have hBc := Bk.new (w1.alloc (.cells #[.pointer (some ⟨g, 0, none⟩), .int .i64 (p : Int), .slice A1 bs.length k1] 123)) 34 #[.func (.func 80) #[.agg #[.pointer (some ⟨g, 0, none⟩), .int .i64 (p : Int), .slice A1 bs.length k1]] #[], .func (.func 81) #[.agg #[.pointer (some ⟨g, 0, none⟩), .int .i64 (p : Int), .slice A1 bs.length k1]] #[], .func (.func 82) #[.agg #[.pointer (some ⟨g, 0, none⟩), .int .i64 (p : Int), .slice A1 bs.length k1]] #[]]
  have hAc : Chg Nil w1 ((w1.alloc (.cells #[.pointer (some ⟨g, 0, none⟩), .int .i64 (p : Int), .slice A1 bs.length k1] 123)).alloc (.cells #[.func (.func 80) #[.agg #[.pointer (some ⟨g, 0, none⟩), .int .i64 (p : Int), .slice A1 bs.length k1]] #[], .func (.func 81) #[.agg #[.pointer (some ⟨g, 0, none⟩), .int .i64 (p : Int), .slice A1 bs.length k1]] #[], .func (.func 82) #[.agg #[.pointer (some ⟨g, 0, none⟩), .int .i64 (p : Int), .slice A1 bs.length k1]] #[]] 34)) := ((Chg.refl _ _).alloc _).alloc _
  have hs1 : ((w1.alloc (.cells #[.pointer (some ⟨g, 0, none⟩), .int .i64 (p : Int), .slice A1 bs.length k1] 123))).heap.size = w1.heap.size + 1 := by simp
  rw [hs1] at hBc
  generalize (w1.alloc (.cells #[.pointer (some ⟨g, 0, none⟩), .int .i64 (p : Int), .slice A1 bs.length k1] 123)).alloc (.cells #[.func (.func 80) #[.agg #[.pointer (some ⟨g, 0, none⟩), .int .i64 (p : Int), .slice A1 bs.length k1]] #[], .func (.func 81) #[.agg #[.pointer (some ⟨g, 0, none⟩), .int .i64 (p : Int), .slice A1 bs.length k1]] #[], .func (.func 82) #[.agg #[.pointer (some ⟨g, 0, none⟩), .int .i64 (p : Int), .slice A1 bs.length k1]] #[]] 34) = wb at *
  have hW : WrAt w wb g M R M R d (Own (.slice A1 bs.length k1)) A1 bs.length bs (w1.heap.size + 1) 34 #[.func (.func 80) #[.agg #[.pointer (some ⟨g, 0, none⟩), .int .i64 (p : Int), .slice A1 bs.length k1]] #[], .func (.func 81) #[.agg #[.pointer (some ⟨g, 0, none⟩), .int .i64 (p : Int), .slice A1 bs.length k1]] #[], .func (.func 82) #[.agg #[.pointer (some ⟨g, 0, none⟩), .int .i64 (p : Int), .slice A1 bs.length k1]] #[]] :=
    { went := Went.nil (H1.out.1.trans hAc (fun _ _ h => h)), dk := (HB.out.2.2.2.keep_nil H1.out.1).keep_nil hAc, rd := H1.out.2.1.keep hAc (fun _ _ h => h),
      far := fun k hk hm => by have h1 := H1.out.2.2 k hk; have h2 := HB.out.2.2.2.lt k (.inl hm); omega,
      bk := hBc, bfar := fun hm => by have h1 := HB.out.2.2.2.lt _ (.inl hm); have h2 := H1.out.1.size; omega }
  have HW := Hid.mk hW
  clear hW hBc hAc hs1
  go_loopw [48] (fun i wr => ∃ (k : Nat) (M' R' SB : Nat → Prop) (D : Dp), k ≤ 3 ∧ i = .int .i64 (k : Int) ∧ Hid (WrAt w wr g M R M' R' D SB A1 bs.length bs (w1.heap.size + 1) 34 #[.func (.func 80) #[.agg #[.pointer (some ⟨g, 0, none⟩), .int .i64 (p : Int), .slice A1 bs.length k1]] #[], .func (.func 81) #[.agg #[.pointer (some ⟨g, 0, none⟩), .int .i64 (p : Int), .slice A1 bs.length k1]] #[], .func (.func 82) #[.agg #[.pointer (some ⟨g, 0, none⟩), .int .i64 (p : Int), .slice A1 bs.length k1]] #[]] ∧ contW p bs k D = slotW d p bs ∧ D.waits.length ≤ 1000000 ∧ D.now.length = d.now.length)) (fun i _ => 3 - (intOf i).toNat)
  case atStart => exact ⟨0, M, R, _, d, by omega, rfl, Hid.mk ⟨HW.out, rfl, hlong, rfl⟩⟩
  case round =>
    obtain ⟨k, M', R', SB, D, hk, rfl, HR⟩ := hrel
    by_cases hlt : k < 3
    · have hstop := contW_stop (p := p) (b := bs) (D := D) hlt
      have hgo := contW_go (p := p) (b := bs) (D := D) hlt
      have hpp : stpP p k + (stpB bs k).length ≤ D.now.length := by
        rw [HR.out.2.2.2]
        have : k = 0 ∨ k = 1 ∨ k = 2 := by omega
        rcases this with rfl | rfl | rfl <;> simp [stpP, stpB] <;> omega
      have hcall : ∃ f, wr.cell? ⟨w1.heap.size + 1, k, none⟩ = some (.func (.func f) #[.agg #[.pointer (some ⟨g, 0, none⟩), .int .i64 (p : Int), .slice A1 bs.length k1]] #[]) ∧ (Calls Try.prog f #[.agg #[.pointer (some ⟨g, 0, none⟩), .int .i64 (p : Int), .slice A1 bs.length k1]] wr fun e w' => StepIs g M' R' D (stpP p k) (stpB bs k) e wr w') ∧ ∀ args W, (callFunc f args).run Try.prog W = .ok (.enter f args) W := by
        have hl := HR.out.2.2.2
        have : k = 0 ∨ k = 1 ∨ k = 2 := by omega
        rcases this with rfl | rfl | rfl
        · exact ⟨_, HR.out.1.bk.cell 0 rfl, clear_any HR.out.1.dk p _ (by omega) HR.out.2.2.1, enter_clear⟩
        · exact ⟨_, HR.out.1.bk.cell 1 rfl, fill_any HR.out.1.dk p A1 bs.length k1 bs HR.out.1.rd HR.out.1.far (by omega) HR.out.2.2.1, enter_fill⟩
        · exact ⟨_, HR.out.1.bk.cell 2 rfl, seal_any HR.out.1.dk p _ (by omega) HR.out.2.2.1, enter_seal⟩
      obtain ⟨f, hcell, hcall, heg⟩ := hcall
      have HC := Hid.mk (And.intro hcall (And.intro hstop (And.intro hgo hpp)))
      clear hcall hstop hgo hpp
      go_wp2_with fail
      refine HC.out.1.mono ?_
      rintro e w2 (⟨hd, rfl, c2⟩ | ⟨hd, M1, R1, rfl, hw, hdk⟩)
      · have hfin : slotW d p bs = (D, 9) := by
          have h := stepW_dead (stpP p k) (stpB bs k) hd
          rw [← HR.out.2.1, HC.out.2.1 (by rw [h]; exact nine_ne), h]
        have H2 := Hid.mk (And.intro (HR.out.1.went.trans (Went.nil c2)) (And.intro (HR.out.1.dk.keep_nil c2) hfin))
        clear c2 hfin hd hcell heg
        go_wp2_with fail
        go_ret
        rw [H2.out.2.2]
        exact ⟨_, _, rfl, H2.out.1, H2.out.2.1⟩
      · have hlen : (D.write (stpP p k) (stpB bs k)).now.length = D.now.length := splice_len _ _ _ HC.out.2.2.2
        have hst := HR.out.1.step hw hdk
        cases hd2 : (D.write (stpP p k) (stpB bs k)).dead with
        | true =>
          have hfin : slotW d p bs = (D.write (stpP p k) (stpB bs k), 9) := by
            have h := stepW_die hd hd2
            rw [← HR.out.2.1, HC.out.2.1 (by rw [h]; exact nine_ne), h]
          have hsy := dsync_dead hdk hd2
          have H2 := Hid.mk (And.intro hst (And.intro hfin hsy))
          clear hst hfin hsy hw hdk hd hd2 hlen hcell heg
          go_wp2_with fail
          refine H2.out.2.2.mono ?_
          rintro e w3 ⟨rfl, rfl⟩
          go_wp2_with fail
          go_ret
          rw [H2.out.2.1]
          exact ⟨_, _, rfl, H2.out.1.went, H2.out.1.dk⟩
        | false =>
          have hsg := stepW_go hd hd2
          have hnx : contW p bs (k + 1) (D.write (stpP p k) (stpB bs k)).sync = slotW d p bs := by
            rw [← HR.out.2.1, HC.out.2.2.1 (by rw [hsg]), hsg]
          have hln : (D.write (stpP p k) (stpB bs k)).sync.now.length = d.now.length := by rw [Dp.sync_now, hlen, HR.out.2.2.2]
          have hsy := dsync_ok hdk hd2
          have H2 := Hid.mk (And.intro hst (And.intro hnx (And.intro hsy hln)))
          clear hst hnx hsy hw hdk hd hd2 hlen hsg hln hcell heg
          go_wp2_with fail
          refine H2.out.2.2.1.mono ?_
          rintro e w3 ⟨rfl, c3, hdk3⟩
          have H3 := Hid.mk (H2.out.1.step (Went.of_chg c3) hdk3)
          clear c3 hdk3
          go_wp2_with fail
          go_roundw
          case rel => exact ⟨k + 1, _, _, _, _, by omega, by go_num, Hid.mk ⟨H3.out, H2.out.2.1, Nat.zero_le _, H2.out.2.2.2⟩⟩
          case measure => simp [intOf]; omega
    · obtain rfl : k = 3 := by omega
      have hfin : slotW d p bs = (D, 0) := HR.out.2.1.symm
      have H2 := Hid.mk hfin
      clear hfin
      go_wp2_with fail
      go_ret
      rw [H2.out]
      exact ⟨_, _, rfl, HR.out.1.went, HR.out.1.dk⟩

end Go.Proofs.Ytanipieeegeheaa
