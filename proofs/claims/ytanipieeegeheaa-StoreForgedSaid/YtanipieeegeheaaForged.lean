/- Joined for this seat from: XSForged. -/
import Derived.Deep.RegionHeld3
import Derived.Deep.CutRange
import Derived.Test.YtanipieeegeheaaTd
namespace Go.Proofs.Ytanipieeegeheaa
open Go.RowKit

theorem StAt.grow {w w' : World} {gs gd : Nat} {M R N T : Nat → Prop} {A : Option Addr} {c : Nat} {σ : Sp} {d : Dp} (h : StAt w gs gd M R N A c σ d) (hc : Chg T w w') (ht : ∀ k, k < w.heap.size → T k → N k) :
    StAt w' gs gd M R (fun k => N k ∨ (w.heap.size ≤ k ∧ k < w'.heap.size)) A c σ d :=
  { bk := (h.other hc ht).bk, dk := (h.other hc ht).dk, far := ⟨h.far.1, h.far.2.1, fun hk => hk.elim h.far.2.2 (fun hk => by have := h.bk.lt; omega)⟩,
    apart := fun k hk hn => hn.elim (h.apart k hk) (fun hn => by have := h.dk.lt k hk; omega),
    kept := by
      obtain ⟨S, hr, hs⟩ := h.kept.ex
      exact ⟨S, Rds.keep hr hc (fun k hk hh => (hs k hk).2 (.inr (.inr (ht k (hs k hk).1 hh)))), fun k hk => ⟨Nat.lt_of_lt_of_le (hs k hk).1 hc.size, fun hh => (hs k hk).2 (hh.imp id (fun h2 => h2.imp id (fun h3 => h3.elim id (fun h4 => by have := (hs k hk).1; omega))))⟩⟩,
    nlt := fun k hk => hk.elim (fun h2 => Nat.lt_of_lt_of_le (h.nlt k h2) hc.size) (fun h2 => h2.2), ok := h.ok }
theorem Run.grow {w0 w w' : World} {gs gd : Nat} {M R N T : Nat → Prop} {σ : Sp} {d : Dp} (h : Run w0 w gs gd M R N σ d) (hc : Chg T w w') (ht : ∀ k, k < w.heap.size → T k → N k) (hl : ∀ k, T k → w0.heap.size ≤ k) : Run w0 w' gs gd M R (fun k => N k ∨ (w.heap.size ≤ k ∧ k < w'.heap.size)) σ d := by
  obtain ⟨A, c, hs⟩ := h.st
  exact ⟨h.chg.trans hc (fun i hi hm => by have := hl i hm; omega), ⟨A, c, hs.grow hc ht⟩, h.low⟩
/-- A row of the call's own beside a store. -/
structure Beside (w0 w : World) (gs gd : Nat) (M R : Nat → Prop) (σ : Sp) (d : Dp) (T : TypeId) (sz : Nat) (v : Value) (n : Nat) (xs : List Value) : Prop where
  run : ∃ N, Run w0 w gs gd M R N σ d ∧ ∀ k, Own v k → N k
  row : w.ownsRow w0.heap.size T sz v n xs
section
variable {w0 w w' w2 : World} {gs gd : Nat} {M R : Nat → Prop} {σ : Sp} {d : Dp} {T : TypeId} {sz n n' : Nat} {v v' : Value} {xs xs' : List Value}
theorem Beside.nil (h : Beside w0 w gs gd M R σ d T sz v n xs) (hc : Chg Nil w w') : Beside w0 w' gs gd M R σ d T sz v n xs := by
  obtain ⟨N, hr, hn⟩ := h.run
  exact ⟨⟨N, hr.nil hc, hn⟩, own_keep h.row hc (fun _ _ h => h)⟩
theorem Beside.empty {N : Nat → Prop} (h : Run w0 w gs gd M R N σ d) : Beside w0 w gs gd M R σ d T sz (.slice none 0 0) 0 [] :=
  ⟨⟨N, h, fun k hk => by simp [Own, Value.ownBlock] at hk⟩, World.ownsRow_nil _ _ _ _⟩
theorem Beside.append (h : Beside w0 w gs gd M R σ d T sz v n xs) (hg : Grew w v w' v') (hr : w'.ownsRow w0.heap.size T sz v' n' xs') : Beside w0 w' gs gd M R σ d T sz v' n' xs' := by
  obtain ⟨N, hr0, hn⟩ := h.run
  refine ⟨⟨_, hr0.grow hg.chg (fun k _ hk => hn k hk) (fun k hk => own_ge h.row k hk), fun k hk => ?_⟩, hr⟩
  rcases Nat.lt_or_ge k w.heap.size with hlt | hge
  · exact .inl (hn k (hg.lies k hlt hk))
  · exact .inr ⟨hge, own_lt hr k hk⟩
end
def fOp (i : Nat) : Oq := ⟨1, ⟨(i : Int) + 1, 631612672 + (i : Int), 16800346, -1515870811⟩⟩
def forged (m : Nat) : List Oq := (List.range m).map fOp
theorem forged_snoc (m : Nat) : forged (m + 1) = forged m ++ [fOp m] := by simp [forged, List.range_succ]
theorem forged_len (m : Nat) : (forged m).length = m := by simp [forged]
def dOp : Oq := ⟨2, ⟨1, 0, 0, 0⟩⟩
theorem forged_facts : ∀ m, m < 17 → 0 < m → batE (forged m) = 0 ∧ (batB (forged m)).length = 17 * m ∧ (doP [] (forged m)).length = m ∧ (doP (doP [] (forged m)) [dOp]).length = m - 1 := by decide +kernel
theorem del_facts : batE [dOp] = 0 ∧ (batB [dOp]).length = 5 := by decide +kernel
def sF1 (m : Nat) : Sp := ⟨1200, 1500, -1, 1, 1, doP [] (forged m), 17 * m + 13, false⟩
def sF2 (m : Nat) : Sp := ⟨1200, 1500, -1, 1, 2, doP (doP [] (forged m)) [dOp], 17 * m + 13 + 18, false⟩
theorem applyE_zero {σ : Sp} {ops : List Oq} (h1 : σ.broken = false) (h2 : batE ops = 0) (h3 : (doP σ.pts ops).length ≤ 2000) (h4 : σ.used + ((batB ops).length + 13) ≤ σ.log) (h5 : σ.u < 4611686018427387904) : applyE σ ops = 0 := by
  unfold applyE
  rw [h1, if_neg (by decide), if_neg (by omega), if_neg (by omega), if_neg (by omega)]
theorem applyP_zero {σ : Sp} {d : Dp} {ops : List Oq} (h : applyE σ ops = 0) (hd : d.dead = false) : applyP σ d ops = ({ σ with pts := doP σ.pts ops, u := σ.u + 1, used := σ.used + ((batB ops).length + 13) }, d.write (2 * σ.slots + σ.used) (recB σ.gen (batB ops)), 0) := by
  unfold applyP
  rw [if_neg (by omega), if_neg (by rw [hd]; decide)]
/-- Where one ends, of those that may be. -/
def EndF (m : Nat) (sync : Bool) (σ : Sp) : Prop := (σ.u = 0 ∧ σ.pts.length = 0 ∧ sync = false) ∨ (σ.u = 1 ∧ σ.pts.length = m) ∨ (σ.u = 2 ∧ σ.pts.length = m - 1)
theorem forged_plain (m : Nat) (hm : m < 17) (h0 : 0 < m) (sync : Bool) (D1 : Dp) (i1 : Inv (freshS 1200 1500) D1 (freshS 1200 1500) [] 0) (f1 : D1.free) :
    ∃ D2, applyP (freshS 1200 1500) D1 (forged m) = (sF1 m, D2, 0) ∧ D2.free ∧ D2.waits.length ≤ 1000000 ∧ ∀ D3, D3 = (if sync then D2.sync else D2) → ∃ D4, applyP (sF1 m) D3 [dOp] = (sF2 m, D4, 0) ∧ D3.waits.length ≤ 1000000 ∧ D4.waits.length ≤ 1000000 ∧
      ∀ keep : Int, ∃ σj bo, Opened (D4.crash keep) (freshS 1200 1500) σj bo ∧ σj.slots = 1200 ∧ σj.log = 1500 ∧ EndF m sync σj := by
  obtain ⟨q1, q2, q3, q4⟩ := forged_facts m hm h0
  obtain ⟨p1, p2⟩ := del_facts
  have e1 : applyE (freshS 1200 1500) (forged m) = 0 := applyE_zero rfl q1 (by show (doP [] (forged m)).length ≤ 2000; omega) (by rw [q2]; show 0 + (17 * m + 13) ≤ 1500; omega) (by show (0 : Nat) < _; omega)
  have a1 := applyP_zero (d := D1) e1 f1.dead
  have hs1 : ({ freshS 1200 1500 with pts := doP (freshS 1200 1500).pts (forged m), u := (freshS 1200 1500).u + 1, used := (freshS 1200 1500).used + ((batB (forged m)).length + 13) } : Sp) = sF1 m := by
    rw [q2]; unfold sF1 freshS; simp
  rw [hs1] at a1
  have i2 := i1.apply f1.dead (forged m) e1
  rw [a1] at i2
  simp only at i2
  have f2 : (D1.write (2 * (freshS 1200 1500).slots + (freshS 1200 1500).used) (recB (freshS 1200 1500).gen (batB (forged m)))).free := Dp.free_write f1 _ _
  refine ⟨_, a1, f2, Nat.le_trans i2.many (by show (1 : Nat) ≤ _; omega), ?_⟩
  generalize D1.write (2 * (freshS 1200 1500).slots + (freshS 1200 1500).used) (recB (freshS 1200 1500).gen (batB (forged m))) = D2 at *
  intro D3 hD3
  have i3 : Inv (sF1 m) D3 (freshS 1200 1500) [batB (forged m)] (if sync then 1 else 0) ∧ D3.free := by
    rw [hD3]
    cases sync with
    | true => exact ⟨i2.sync, Dp.free_sync f2⟩
    | false => exact ⟨i2, f2⟩
  have e2 : applyE (sF1 m) [dOp] = 0 := applyE_zero rfl p1 (by show (doP (doP [] (forged m)) [dOp]).length ≤ 2000; omega) (by rw [p2]; show 17 * m + 13 + (5 + 13) ≤ 1500; omega) (by show (1 : Nat) < _; omega)
  have a2 := applyP_zero (d := D3) e2 i3.2.dead
  have hs2 : ({ sF1 m with pts := doP (sF1 m).pts [dOp], u := (sF1 m).u + 1, used := (sF1 m).used + ((batB [dOp]).length + 13) } : Sp) = sF2 m := by
    rw [p2]; unfold sF1 sF2; simp
  rw [hs2] at a2
  have i4 := i3.1.apply i3.2.dead [dOp] e2
  rw [a2] at i4
  simp only at i4
  refine ⟨_, a2, Nat.le_trans i3.1.many (by show (1 : Nat) ≤ _; omega), Nat.le_trans i4.many (by show (2 : Nat) ≤ _; omega), fun keep => ?_⟩
  obtain ⟨j, σj, j1, j2, _, j4, j5, j6, j7⟩ := i4.back keep
  refine ⟨σj, _, j7, j5, j6, ?_⟩
  have hj2 : j ≤ 2 := j2
  match j, hj2 with
  | 0, _ =>
    have : some (freshS 1200 1500) = some σj := j4
    injection this with this
    subst this
    refine .inl ⟨rfl, rfl, ?_⟩
    cases sync with
    | false => rfl
    | true => simp at j1
  | 1, _ =>
    have h4 : runB (freshS 1200 1500) ([] ++ [batB (forged m)]) = some σj := j4
    rw [i2.run] at h4
    injection h4 with h4
    subst h4
    exact .inr (.inl ⟨rfl, q3⟩)
  | 2, _ =>
    have h4 : runB (freshS 1200 1500) ([batB (forged m)] ++ [batB [dOp]]) = some σj := j4
    rw [i4.run] at h4
    injection h4 with h4
    subst h4
    exact .inr (.inr ⟨rfl, q4⟩)
set_option maxHeartbeats 4000000 in
set_option maxRecDepth 100000 in
theorem storeForged_walk (n keep : Int) (sync : Bool) (w : World) :
    Calls Try.prog 3 #[.int .i64 n, .int .i64 keep, .bool sync] w fun e w' => e = .returned (.bool true) ∧ Chg Nil w w' := by
  obtain ⟨C, hC, hC15⟩ := i64_and_mask n 15 4 rfl (by omega)
  obtain ⟨C2, hC2, hC210⟩ := i64_and_mask keep 1023 10 rfl (by omega)
  obtain ⟨i0, hi, hz0, hz1, hz2⟩ := info_parts Try.infoOp5
  have hnl : (Dp.new 4000).now.length = 4000 := new_len (n := 4000) (by omega)
  have o1 : Opened (Dp.new 4000) (freshS 1200 1500) (freshS 1200 1500) [] := opened_new (n := 4000) (by omega) (by omega) (by omega)
  have hN := dnew_any 4000 w
  have hO1 := fun {g : Nat} {M R : Nat → Prop} {w1 : World} (h : Dk w1 g M R (Dp.new 4000)) => open_any h 1200 1500 (by omega) (by rw [hnl]; omega) (by show (0 : Nat) ≤ _; omega)
  have e1 : openD (Dp.new 4000) 1200 1500 = ((openD (Dp.new 4000) 1200 1500).1, 0) := Prod.ext rfl o1.res
  have e2 : openS (Dp.new 4000) 1200 1500 = freshS 1200 1500 := o1.openS
  have i1 : Inv (freshS 1200 1500) (openD (Dp.new 4000) 1200 1500).1 (freshS 1200 1500) [] 0 := o1.inv
  have f1 : (openD (Dp.new 4000) 1200 1500).1.free := o1.free
  rw [e2, e1] at hO1
  generalize (openD (Dp.new 4000) 1200 1500).1 = D1 at *
  have hl1 : D1.waits.length ≤ 1000000 := Nat.le_trans i1.many (by show (0 : Nat) ≤ _; omega)
  obtain ⟨m, hm⟩ : ∃ m, m = C + 1 := ⟨_, rfl⟩
  have hp := forged_plain m (by omega) (by omega) sync D1 i1 f1
  have hm1 : (C : Int) + 1 = (m : Int) := by rw [hm]; rfl
  have hC' : bits .and .i64 n 15 = (C : Int) := hC
  have hC2' : bits .and .i64 keep 1023 = (C2 : Int) := hC2
  have hwm : IntKind.i64.wrap (m : Int) = (m : Int) := wrap_small (by omega)
  clear hC hC2
  have hm17 : m < 17 := by omega
  have hm0 : 0 < m := by omega
  have HP := Hid.mk (And.intro hp (And.intro hl1 f1))
  have HH := Hid.mk (And.intro hN (@hO1))
  clear hN hO1 e1 e2 i1 f1 o1 hp hl1 hnl hm
  go_enter Try.func3, Try.ntmps3
  go_wp2_with fail
  refine HH.out.1.mono ?_
  rintro e w1 ⟨gd, M, R, rfl, c1, d1, low1⟩
  have H1 := Hid.mk (Live.mk c1 d1 low1)
  clear c1 d1 low1
  go_wp2_with fail
  refine (HH.out.2 H1.out.dk).mono ?_
  rintro e w2 ho
  rcases H1.out.opened ho with ⟨_, gs, M2, R2, rfl, r2⟩ | ⟨h9, _⟩
  · have H2 := Hid.mk r2
    clear r2 ho
    go_wp2_with fail
    go_loopw [10, 11] (fun vb vi wr => ∃ k : Nat, k ≤ m ∧ vi = .int .i64 (k : Int) ∧ Hid (Beside w wr gs gd M2 R2 (freshS 1200 1500) D1 32 5 vb k ((forged k).flatMap Oq.cs))) (fun _ vi _ => m - (intOf vi).toNat)
    case atStart => exact ⟨0, by omega, rfl, Hid.mk (Beside.empty H2.out)⟩
    case round =>
      obtain ⟨k, hk, rfl, HR⟩ := hrel
      obtain ⟨G, gc, rfl, hgc, hgm⟩ := own_form HR.out.row
      by_cases hlt : k < m
      · have HB := Hid.mk (fun W => rdo_one W (fOp k))
        simp only [Oq.cs, Pt.cs, fOp] at HB
        go_wp2_with (at_builtin; refine wpl_append rfl (.tmp 40) (.tmp 47) 28 rfl w.heap.size 32 i0 _ 5 40 Try.underlying28 hi hz0 hz1 hz2 rfl (by omega) _ k _ rfl (own_keep HR.out.row ((Chg.refl Nil wr).alloc _) (fun _ _ h => h)) _ (some ⟨wr.heap.size, 0, none⟩) 1 1 _ rfl (HB.out wr) (ops_one [fOp k]) (by simp only [maxLen]; omega) (by omega) (by have h := HR.out.run; obtain ⟨N, h, _⟩ := h; have := h.chg.size; simp; omega) ?_; intro v2 w3 o2 g2; have H3 := Hid.mk (And.intro o2 g2); clear o2 g2)
        go_roundw
        case rel =>
          refine ⟨k + 1, by omega, by go_num, Hid.mk ?_⟩
          have := H3.out.1
          rw [forged_snoc, List.flatMap_append]
          exact (HR.out.nil ((Chg.refl Nil wr).alloc _)).append H3.out.2 (by simpa [fOp] using this)
        case measure => simp [intOf]; omega
      · obtain rfl : k = m := by omega
        obtain ⟨N4, rn, hown⟩ := HR.out.run
        obtain ⟨A4, k4, st4⟩ := rn.st
        obtain ⟨D2, a1, f2, hl2, hrest⟩ := HP.out.1
        have hap := stApply_any st4 G k gc (forged k) _ (show RdO wr _ G k (forged k) from Rds.of_own HR.out.row) hgc hgm (fun i hi => ⟨fun hm => st4.apart i (.inl hm) (hown i hi), fun hh => st4.far.2.2 (by rw [← hh]; exact hown i hi)⟩) HP.out.2.1
        rw [a1] at hap
        have HQ := Hid.mk (And.intro rn (And.intro hrest (And.intro f2 hl2)))
        clear rn st4 hrest f2 hl2 a1 hown
        go_wp2_with fail
        refine hap.mono ?_
        rintro e w4 ⟨M4, R4, rfl, ws4, st4⟩
        have H4 := Hid.mk (HQ.out.1.wentS ws4 st4)
        clear ws4 st4 hap
        cases sync with
        | false =>
          obtain ⟨D4, ha⟩ := HQ.out.2.1 D2 rfl
          have HA := Hid.mk ha
          have hfx : True := trivial
          clear ha
          have H5 := Hid.mk (show ∃ N, Run w w4 gs gd M4 R4 N (sF1 k) D2 from ⟨N4, H4.out⟩)
          clear hfx
          go_wp2_with fail
          have hc5 : Chg Nil w4 (w4.alloc (.cells #[.int .i64 2, .int .i64 1, .int .i64 0, .int .i64 0, .int .i64 0] 32)) := (Chg.refl _ _).alloc _
          have hro := rdo_one w4 dOp
          have hA := HA.out
          obtain ⟨N5, r5⟩ := H5.out
          obtain ⟨A5, k5, st5⟩ := (r5.nil hc5).st
          have hap := stApply_any st5 _ 1 1 [dOp] _ hro (by omega) (by unfold maxLen; omega) (fun i hi => by
            have hi : i = w4.heap.size := hi
            exact ⟨fun h => by have := r5.st.dk.lt i (.inl h); omega, fun h => by obtain ⟨_, _, q⟩ := r5.st; have := q.bk.lt; omega⟩) hA.2.1
          rw [hA.1] at hap
          have H6 := Hid.mk (r5.nil hc5)
          clear r5 st5 hro hc5 hA
          refine hap.mono ?_
          rintro e w6 ⟨M6, R6, rfl, ws6, st6⟩
          have H7 := Hid.mk ((H6.out.wentS ws6 st6).live)
          clear ws6 st6 hap
          go_wp2_with fail
          refine (dcrash_any H7.out.dk (C2 : Int) (by omega) (by omega) HA.out.2.2.1).mono ?_
          rintro e w7 ⟨⟨v7, rfl⟩, c7, d7⟩
          have H8 := Hid.mk (H7.out.step c7 d7)
          clear c7 d7
          obtain ⟨σj, bo, oj, s1, s2, hend⟩ := HA.out.2.2.2 (C2 : Int)
          have hop := open_any H8.out.dk 1200 1500 (by omega) (by have := oj.img.room; rw [s1, s2] at this; exact this) (by show (0 : Nat) ≤ _; omega)
          have q1 := oj.openS
          have q2 := oj.res
          rw [s1, s2] at q1 q2
          rw [q1] at hop
          have HJ := Hid.mk (And.intro q2 hend)
          clear q1 q2 oj s1 s2 hend
          go_wp2_with fail
          refine hop.mono ?_
          rintro e w8 ho
          rcases H8.out.opened ho with ⟨_, gt, M8, R8, rfl, r8⟩ | ⟨h9, _⟩
          · have H9 := Hid.mk r8
            clear r8 ho hop
            go_wp2_with fail
            obtain ⟨A9, k9, st9⟩ := H9.out.st
            refine (stPoints_any st9).mono ?_
            rintro e w9 ⟨A10, k10, rfl, _, c10⟩
            have H10 := Hid.mk (H9.out.nil c10)
            clear st9 c10
            obtain ⟨K, hK⟩ : ∃ K, K = σj.pts.length := ⟨_, rfl⟩
            obtain ⟨U, hU⟩ : ∃ U, U = σj.u := ⟨_, rfl⟩
            have hend : (U = 0 ∧ K = 0 ∧ false = false) ∨ (U = 1 ∧ K = k) ∨ (U = 2 ∧ K = k - 1) := by rw [hK, hU]; exact HJ.out.2
            rw [← hK]
            have hUc : ∀ W, Chg Nil w9 W → Calls Try.prog 18 #[.pointer (some ⟨gt, 0, none⟩)] W fun e w' => e = .returned (.int .u64 (U : Int)) ∧ w' = W := fun W hW => by
              obtain ⟨_, _, st⟩ := (H10.out.nil hW).st
              rw [hU]; exact stU_any st
            have HU := Hid.mk (hUc w9 (Chg.refl _ _))
            clear hK hU hUc
            have hstop := Hid.mk (awake15_any w9)
            by_cases hk1 : k = 1
            · subst hk1
              rcases hend with ⟨rfl, rfl, hsy⟩ | ⟨rfl, rfl⟩ | ⟨rfl, hK2⟩
              · (go_wp2_with (first | (refine HU.out.mono ?_; rintro e wz ⟨rfl, he⟩; have he' := he.symm; subst he'; clear he) | (refine hstop.out.mono ?_; rintro e wz ⟨rfl, cz⟩; have HZ := Hid.mk (H10.out.chg.trans cz (fun _ _ h => h)); clear cz)); all_goals (go_ret; exact ⟨rfl, HZ.out⟩))
              · (go_wp2_with (first | (refine HU.out.mono ?_; rintro e wz ⟨rfl, he⟩; have he' := he.symm; subst he'; clear he) | (refine hstop.out.mono ?_; rintro e wz ⟨rfl, cz⟩; have HZ := Hid.mk (H10.out.chg.trans cz (fun _ _ h => h)); clear cz)); all_goals (go_ret; exact ⟨rfl, HZ.out⟩))
              · obtain rfl : K = 0 := by omega
                (go_wp2_with (first | (refine HU.out.mono ?_; rintro e wz ⟨rfl, he⟩; have he' := he.symm; subst he'; clear he) | (refine hstop.out.mono ?_; rintro e wz ⟨rfl, cz⟩; have HZ := Hid.mk (H10.out.chg.trans cz (fun _ _ h => h)); clear cz)); all_goals (go_ret; exact ⟨rfl, HZ.out⟩))
            · have hk1i : ¬ ((k : Int) = 1) := by omega
              have hk0i : ¬ ((k : Int) = 0) := by omega
              have hkk : ¬ ((0 : Int) = (k : Int)) := by omega
              have hkm : ¬ ((0 : Int) = (k : Int) - 1) := by omega
              have hkm2 : ¬ ((k : Int) = (k : Int) - 1) := by omega
              rcases hend with ⟨rfl, rfl, hsy⟩ | ⟨rfl, rfl⟩ | ⟨rfl, hK2⟩
              · (go_wp2_with (first | (refine HU.out.mono ?_; rintro e wz ⟨rfl, he⟩; have he' := he.symm; subst he'; clear he) | (refine hstop.out.mono ?_; rintro e wz ⟨rfl, cz⟩; have HZ := Hid.mk (H10.out.chg.trans cz (fun _ _ h => h)); clear cz)); all_goals (go_ret; exact ⟨rfl, HZ.out⟩))
              · (go_wp2_with (first | (refine HU.out.mono ?_; rintro e wz ⟨rfl, he⟩; have he' := he.symm; subst he'; clear he) | (refine hstop.out.mono ?_; rintro e wz ⟨rfl, cz⟩; have HZ := Hid.mk (H10.out.chg.trans cz (fun _ _ h => h)); clear cz)); all_goals (go_ret; exact ⟨rfl, HZ.out⟩))
              · have hKi : (K : Int) = (k : Int) - 1 := by omega
                have hKn : ¬ ((K : Int) = (k : Int)) := by omega
                (go_wp2_with (first | (refine HU.out.mono ?_; rintro e wz ⟨rfl, he⟩; have he' := he.symm; subst he'; clear he) | (refine hstop.out.mono ?_; rintro e wz ⟨rfl, cz⟩; have HZ := Hid.mk (H10.out.chg.trans cz (fun _ _ h => h)); clear cz)); all_goals (go_ret; exact ⟨rfl, HZ.out⟩))
          · have := HJ.out.1; omega
        | true =>
          obtain ⟨D4, ha⟩ := HQ.out.2.1 D2.sync rfl
          have HA := Hid.mk ha
          clear ha
          have e4 : syncP (sF1 k) D2 = (sF1 k, D2.sync, 0) := by unfold syncP; rw [if_neg (by show ¬ (false = true); decide), if_neg (by rw [HQ.out.2.2.1.dead]; decide)]
          obtain ⟨A4, k4, st4⟩ := H4.out.st
          have hsy := stSync_any st4
          rw [e4] at hsy
          clear e4 st4
          go_wp2_with fail
          refine hsy.mono ?_
          rintro e w5 ⟨rfl, ws5, st5⟩
          clear hsy
          have H5 := Hid.mk (show ∃ N, Run w w5 gs gd M4 R4 N (sF1 k) D2.sync from ⟨N4, H4.out.wentS ws5 ⟨_, _, st5⟩⟩)
          clear ws5 st5
          go_wp2_with fail
          have hc5 : Chg Nil w5 (w5.alloc (.cells #[.int .i64 2, .int .i64 1, .int .i64 0, .int .i64 0, .int .i64 0] 32)) := (Chg.refl _ _).alloc _
          have hro := rdo_one w5 dOp
          have hA := HA.out
          obtain ⟨N5, r5⟩ := H5.out
          obtain ⟨A5, k5, st5⟩ := (r5.nil hc5).st
          have hap := stApply_any st5 _ 1 1 [dOp] _ hro (by omega) (by unfold maxLen; omega) (fun i hi => by
            have hi : i = w5.heap.size := hi
            exact ⟨fun h => by have := r5.st.dk.lt i (.inl h); omega, fun h => by obtain ⟨_, _, q⟩ := r5.st; have := q.bk.lt; omega⟩) hA.2.1
          rw [hA.1] at hap
          have H6 := Hid.mk (r5.nil hc5)
          clear r5 st5 hro hc5 hA
          refine hap.mono ?_
          rintro e w6 ⟨M6, R6, rfl, ws6, st6⟩
          have H7 := Hid.mk ((H6.out.wentS ws6 st6).live)
          clear ws6 st6 hap
          go_wp2_with fail
          refine (dcrash_any H7.out.dk (C2 : Int) (by omega) (by omega) HA.out.2.2.1).mono ?_
          rintro e w7 ⟨⟨v7, rfl⟩, c7, d7⟩
          have H8 := Hid.mk (H7.out.step c7 d7)
          clear c7 d7
          obtain ⟨σj, bo, oj, s1, s2, hend⟩ := HA.out.2.2.2 (C2 : Int)
          have hop := open_any H8.out.dk 1200 1500 (by omega) (by have := oj.img.room; rw [s1, s2] at this; exact this) (by show (0 : Nat) ≤ _; omega)
          have q1 := oj.openS
          have q2 := oj.res
          rw [s1, s2] at q1 q2
          rw [q1] at hop
          have HJ := Hid.mk (And.intro q2 hend)
          clear q1 q2 oj s1 s2 hend
          go_wp2_with fail
          refine hop.mono ?_
          rintro e w8 ho
          rcases H8.out.opened ho with ⟨_, gt, M8, R8, rfl, r8⟩ | ⟨h9, _⟩
          · have H9 := Hid.mk r8
            clear r8 ho hop
            go_wp2_with fail
            obtain ⟨A9, k9, st9⟩ := H9.out.st
            refine (stPoints_any st9).mono ?_
            rintro e w9 ⟨A10, k10, rfl, _, c10⟩
            have H10 := Hid.mk (H9.out.nil c10)
            clear st9 c10
            obtain ⟨K, hK⟩ : ∃ K, K = σj.pts.length := ⟨_, rfl⟩
            obtain ⟨U, hU⟩ : ∃ U, U = σj.u := ⟨_, rfl⟩
            have hend : (U = 0 ∧ K = 0 ∧ true = false) ∨ (U = 1 ∧ K = k) ∨ (U = 2 ∧ K = k - 1) := by rw [hK, hU]; exact HJ.out.2
            rw [← hK]
            have hUc : ∀ W, Chg Nil w9 W → Calls Try.prog 18 #[.pointer (some ⟨gt, 0, none⟩)] W fun e w' => e = .returned (.int .u64 (U : Int)) ∧ w' = W := fun W hW => by
              obtain ⟨_, _, st⟩ := (H10.out.nil hW).st
              rw [hU]; exact stU_any st
            have HU := Hid.mk (hUc w9 (Chg.refl _ _))
            clear hK hU hUc
            have hstop := Hid.mk (awake15_any w9)
            by_cases hk1 : k = 1
            · subst hk1
              rcases hend with ⟨rfl, rfl, hsy⟩ | ⟨rfl, rfl⟩ | ⟨rfl, hK2⟩
              · exact absurd hsy (by decide)
              · (go_wp2_with (first | (refine HU.out.mono ?_; rintro e wz ⟨rfl, he⟩; have he' := he.symm; subst he'; clear he) | (refine hstop.out.mono ?_; rintro e wz ⟨rfl, cz⟩; have HZ := Hid.mk (H10.out.chg.trans cz (fun _ _ h => h)); clear cz)); all_goals (go_ret; exact ⟨rfl, HZ.out⟩))
              · obtain rfl : K = 0 := by omega
                (go_wp2_with (first | (refine HU.out.mono ?_; rintro e wz ⟨rfl, he⟩; have he' := he.symm; subst he'; clear he) | (refine hstop.out.mono ?_; rintro e wz ⟨rfl, cz⟩; have HZ := Hid.mk (H10.out.chg.trans cz (fun _ _ h => h)); clear cz)); all_goals (go_ret; exact ⟨rfl, HZ.out⟩))
            · have hk1i : ¬ ((k : Int) = 1) := by omega
              have hk0i : ¬ ((k : Int) = 0) := by omega
              have hkk : ¬ ((0 : Int) = (k : Int)) := by omega
              have hkm : ¬ ((0 : Int) = (k : Int) - 1) := by omega
              have hkm2 : ¬ ((k : Int) = (k : Int) - 1) := by omega
              rcases hend with ⟨rfl, rfl, hsy⟩ | ⟨rfl, rfl⟩ | ⟨rfl, hK2⟩
              · exact absurd hsy (by decide)
              · (go_wp2_with (first | (refine HU.out.mono ?_; rintro e wz ⟨rfl, he⟩; have he' := he.symm; subst he'; clear he) | (refine hstop.out.mono ?_; rintro e wz ⟨rfl, cz⟩; have HZ := Hid.mk (H10.out.chg.trans cz (fun _ _ h => h)); clear cz)); all_goals (go_ret; exact ⟨rfl, HZ.out⟩))
              · have hKi : (K : Int) = (k : Int) - 1 := by omega
                have hKn : ¬ ((K : Int) = (k : Int)) := by omega
                (go_wp2_with (first | (refine HU.out.mono ?_; rintro e wz ⟨rfl, he⟩; have he' := he.symm; subst he'; clear he) | (refine hstop.out.mono ?_; rintro e wz ⟨rfl, cz⟩; have HZ := Hid.mk (H10.out.chg.trans cz (fun _ _ h => h)); clear cz)); all_goals (go_ret; exact ⟨rfl, HZ.out⟩))
          · have := HJ.out.1; omega
  · exact absurd h9 (by simp)

end Go.Proofs.Ytanipieeegeheaa
