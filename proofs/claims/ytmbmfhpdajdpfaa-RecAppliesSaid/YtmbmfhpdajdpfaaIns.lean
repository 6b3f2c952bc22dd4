/- slices.Clone, Insert (of one), Delete (of one) at points, on a row of the call's own. -/
import Derived.Test.YtmbmfhpdajdpfaaBlk
import Derived.Test.YtmbmfhpdajdpfaaFind
import Derived.Lib.Overlaps
namespace Go.Proofs.Ytmbmfhpdajdpfaa
open Go.RowKit

theorem clonep_nil (n c : Nat) (w : World) : Calls Try.prog 48 #[.slice none n c] w fun e w' => e = .returned (.slice none 0 0) ∧ w' = w := by
  have q : ∀ (w : World) (a : Option Addr) (n c n' c' : Nat), (binOp .eql 59 (.slice a n c) (.slice none n' c')).run Try.prog w = .ok (.bool a.isNone) w := fun w a n c n' c' => Lib.run_eql_slice_nil w _ _ a n c n' c' Try.underlying59
  go_enter Try.func48, Try.ntmps48
  go_wp2
  go_ret
  exact ⟨rfl, rfl⟩
set_option maxHeartbeats 1000000 in
set_option maxRecDepth 100000 in
theorem clonep_some (ad : Addr) (n c : Nat) (l : List Pt) (S : Nat → Prop) (w : World) (hr : RdP w S (some ad) n l) (hl : n ≤ 1000000000) :
    Calls Try.prog 48 #[.slice (some ad) n c] w fun e w' => ∃ v', e = .returned v' ∧ w'.ownsRow w.heap.size 44 4 v' n (l.flatMap Pt.cs) ∧ Chg Nil w w' := by
  have q : ∀ (w : World) (a : Option Addr) (n c n' c' : Nat), (binOp .eql 59 (.slice a n c) (.slice none n' c')).run Try.prog w = .ok (.bool a.isNone) w := fun w a n c n' c' => Lib.run_eql_slice_nil w _ _ a n c n' c' Try.underlying59
  obtain ⟨i0, hi, hz0, hz1, hz2⟩ := info_parts Try.infoPt
  have hr1 : ∀ o, Rds (w.alloc o) (fun k => S k ∧ k < w.heap.size) 4 (some ad) n (l.flatMap Pt.cs) := fun o => (Rds.here hr (by omega)).keep ((Chg.refl Nil w).alloc o) (fun _ _ h => h)
  have HR := Hid.mk hr1
  clear hr hr1
  go_enter Try.func48, Try.ntmps48
  go_wp2_with (at_builtin; refine wpl_append rfl _ _ 59 rfl w.heap.size 44 i0 _ 4 32 Try.underlying59 hi hz0 hz1 hz2 rfl (by omega) _ _ _ rfl (World.ownsRow_made w #[] 0 (Nat.le_refl _) (Nat.zero_le _) (by simp)) _ (some ad) n c _ rfl (HR.out _) (pts_one _) ?c2 ?c3 ?c4 ?_)
  case c2 => simp only [maxLen]; omega
  case c3 => omega
  case c4 => simp
  intro v' w1 hown hg
  have H := Hid.mk (And.intro hown hg)
  clear hown hg
  go_wp2
  go_ret
  refine ⟨v', rfl, by simpa using H.out.1, ?_⟩
  exact ((Chg.refl Nil w).alloc _).trans H.out.2.chg (fun k hk h => by have := own_at h; omega)
theorem clonep_any (A : Option Addr) (n c : Nat) (l : List Pt) (S : Nat → Prop) (w : World) (hr : RdP w S A n l) (hl : n ≤ 1000000000) :
    Calls Try.prog 48 #[.slice A n c] w fun e w' => ∃ v', e = .returned v' ∧ w'.ownsRow w.heap.size 44 4 v' n (l.flatMap Pt.cs) ∧ Chg Nil w w' := by
  cases A with
  | some ad => exact clonep_some ad n c l S w hr hl
  | none =>
    have h0 : n = 0 := by
      rcases Nat.eq_zero_or_pos n with h | h
      · exact h
      · obtain ⟨ad, he, _⟩ := hr.2 h
        cases he
    subst h0
    have hb : l = [] := List.eq_nil_of_length_eq_zero (by simpa using hr.len)
    subst hb
    refine (clonep_nil 0 c w).mono ?_
    rintro e w' ⟨rfl, rfl⟩
    exact ⟨_, rfl, ⟨by simp, .inl ⟨rfl, rfl⟩⟩, Chg.refl _ _⟩

/-! ### lists of cells -/
theorem pts_take (l : List Pt) (k : Nat) : (l.flatMap Pt.cs).take (k * 4) = (l.take k).flatMap Pt.cs := by
  induction l generalizing k with
  | nil => simp
  | cons a t ih =>
    cases k with
    | zero => simp
    | succ k =>
      have ha : a.cs.length = 4 := rfl
      rw [List.flatMap_cons, List.take_succ_cons, List.flatMap_cons, ← ih k, List.take_append, ha, List.take_of_length_le (by rw [ha]; omega), show (k + 1) * 4 - 4 = k * 4 by omega]
theorem pts_drop (l : List Pt) (k : Nat) : (l.flatMap Pt.cs).drop (k * 4) = (l.drop k).flatMap Pt.cs := by
  induction l generalizing k with
  | nil => simp
  | cons a t ih =>
    cases k with
    | zero => simp
    | succ k =>
      have ha : a.cs.length = 4 := rfl
      rw [List.flatMap_cons, List.drop_succ_cons, ← ih k, List.drop_append, ha, List.drop_of_length_le (by rw [ha]; omega), show (k + 1) * 4 - 4 = k * 4 by omega, List.nil_append]
theorem list_of_parts {α : Type} {a b : List α} (k : Nat) (h1 : a.take k = b.take k) (h2 : a.drop k = b.drop k) : a = b := by rw [← List.take_append_drop k a, h1, h2, List.take_append_drop]
theorem splice_take {α : Type} (L : List α) (o k : Nat) (vs : List α) (h : k ≤ o) (hl : o ≤ L.length) : (splice L o vs).take k = L.take k := by
  unfold splice
  rw [List.take_append_of_le_length (by rw [List.length_take]; omega), List.take_take, Nat.min_eq_left h]
/-- What the two copies of Insert leave: first i, the one, the rest. -/
theorem ins_cells (cur : List Value) (L N i : Nat) (vs : List Value) (hi : i ≤ N) (hf : N + 4 ≤ cur.length) (hv : vs.length = 4) (C1 : List Value) (h1 : C1 = splice cur (i + 4) ((cur.drop i).take (N - i))) (hL : L = N + 4) :
    (splice C1 i vs).take L = (cur.take N).take i ++ vs ++ (cur.take N).drop i := by
  subst h1 hL
  have hm : ((cur.drop i).take (N - i)).length = N - i := by rw [List.length_take, List.length_drop]; omega
  have e1 : (splice cur (i + 4) ((cur.drop i).take (N - i))).take i = cur.take i := splice_take _ _ _ _ (by omega) (by omega)
  have e2 : (splice cur (i + 4) ((cur.drop i).take (N - i))).drop (i + 4) = (cur.drop i).take (N - i) ++ cur.drop (N + 4) := by
    unfold splice
    rw [List.drop_left' (by rw [List.length_take]; omega), hm, show i + 4 + (N - i) = N + 4 by omega]
  have e3 : splice (splice cur (i + 4) ((cur.drop i).take (N - i))) i vs = cur.take i ++ (vs ++ ((cur.drop i).take (N - i) ++ cur.drop (N + 4))) := by
    have : splice (splice cur (i + 4) ((cur.drop i).take (N - i))) i vs = (splice cur (i + 4) ((cur.drop i).take (N - i))).take i ++ (vs ++ (splice cur (i + 4) ((cur.drop i).take (N - i))).drop (i + vs.length)) := rfl
    rw [this, hv, e1, e2]
  rw [e3, ← List.append_assoc, ← List.append_assoc, List.take_left']
  · rw [List.take_take, Nat.min_eq_left hi, List.drop_take]
  · simp only [List.length_append, List.length_take, hv, hm]; omega
/-- The same behind a new row. -/
theorem ins_cells2 (cur : List Value) (L N i : Nat) (vs rest xs : List Value) (hx : xs.length = N) (hi : i ≤ N) (hf : N + 4 ≤ cur.length) (hv : vs.length = 4) (hc : cur.take i = xs.take i) (hr : rest = xs.drop i) (hL : L = N + 4) :
    (splice (splice cur i vs) (i + 4) rest).take L = xs.take i ++ vs ++ xs.drop i := by
  subst hr hL
  have hrl : (xs.drop i).length = N - i := by rw [List.length_drop, hx]
  have e1 : (splice cur i vs).take (i + 4) = xs.take i ++ vs := by
    unfold splice
    rw [← List.append_assoc, List.take_left' (by rw [List.length_append, List.length_take, hv]; omega), hc]
  have e3 : splice (splice cur i vs) (i + 4) (xs.drop i) = (splice cur i vs).take (i + 4) ++ (xs.drop i ++ (splice cur i vs).drop (i + 4 + (xs.drop i).length)) := rfl
  rw [e3, e1, ← List.append_assoc, List.take_left']
  simp only [List.length_append, List.length_take, hv, hrl]; omega
theorem pts_ins (l : List Pt) (i : Nat) (p : Pt) : (l.take i ++ p :: l.drop i).flatMap Pt.cs = (l.flatMap Pt.cs).take (i * 4) ++ p.cs ++ (l.flatMap Pt.cs).drop (i * 4) := by
  rw [pts_take, pts_drop]; simp

theorem Try.sizePt : (Try.prog.info? 44).map (·.size) = some 4 := by kernel_rfl
theorem bk_rds {w : World} {g : Nat} {e : TypeId} (p : Pt) (h : Bk w g e p.cs.toArray) : RdP w (· = g) (some ⟨g, 0, none⟩) 1 [p] := by
  refine ⟨by rw [pts_len]; rfl, fun _ => ⟨_, rfl, rfl, fun j u hu => ?_⟩⟩
  have := h.cell j (u := u) (by simpa using hu)
  unfold Addr.add
  split
  · next h0 => subst h0; exact this
  · simpa using this

set_option maxHeartbeats 2000000 in
set_option maxRecDepth 100000 in
theorem insert_end (base : Nat) (A : Option Addr) (n c : Nat) (l : List Pt) (p : Pt) (vb : Nat) (w : World) (hown : w.ownsRow base 44 4 (.slice A n c) n (l.flatMap Pt.cs)) (hv : Bk w vb 44 p.cs.toArray) (hb : base ≤ w.heap.size) (hn : n ≤ 1000000) :
    Calls Try.prog 50 #[.slice A n c, .int .i64 (n : Int), .slice (some ⟨vb, 0, none⟩) 1 1] w fun e w' => ∃ v', e = .returned v' ∧ w'.ownsRow base 44 4 v' (n + 1) ((l ++ [p]).flatMap Pt.cs) ∧ Grew w (.slice A n c) w' v' := by
  obtain ⟨i0, hi, hz0, hz1, hz2⟩ := info_parts Try.infoPt
  have hcut := fun W => run_cut_from (P := Try.prog) 59 44 i0 4 Try.underlying59 hi hz1 A n c n .i64 (Nat.le_refl _) W
  have HO := Hid.mk (And.intro hown (And.intro hv hb))
  have HR := Hid.mk (bk_rds p hv)
  clear hown hv hb
  go_enter Try.func50, Try.ntmps50
  go_wp2_with (at_builtin; refine wpl_append rfl (.tmp 23) (.tmp 24) 59 rfl base 44 i0 _ 4 32 Try.underlying59 hi hz0 hz1 hz2 rfl (by omega) _ n _ rfl HO.out.1 _ (some ⟨vb, 0, none⟩) 1 1 _ rfl HR.out (pts_one _) (by simp only [maxLen]; omega) (by omega) HO.out.2.2 ?_; intro v2 w2 o2 g2; have H2 := Hid.mk (And.intro o2 g2); clear o2 g2)
  go_ret
  exact ⟨v2, rfl, by simpa using H2.out.1, H2.out.2⟩
set_option maxHeartbeats 2000000 in
set_option maxRecDepth 100000 in
theorem insert_room (base g n c i : Nat) (l : List Pt) (p : Pt) (vb : Nat) (w : World) (hown : w.ownsRow base 44 4 (.slice (some ⟨g, 0, none⟩) n c) n (l.flatMap Pt.cs)) (hv : Bk w vb 44 p.cs.toArray) (hne : vb ≠ g) (hn : n ≤ 1000000) (hi : i < n) (hroom : n < c) :
    Calls Try.prog 50 #[.slice (some ⟨g, 0, none⟩) n c, .int .i64 (i : Int), .slice (some ⟨vb, 0, none⟩) 1 1] w fun e w' => ∃ v', e = .returned v' ∧ w'.ownsRow base 44 4 v' (n + 1) ((l.take i ++ p :: l.drop i).flatMap Pt.cs) ∧ Grew w (.slice (some ⟨g, 0, none⟩) n c) w' v' := by
  obtain ⟨cur, hB, hbg, hnc, hcm, hcl, hct⟩ := Blk.of_own hown
  have hone : ∀ u ∈ cur.take (n * 4), u.oneCell' = true := by rw [hct]; exact pts_one l
  obtain ⟨i0, hi0, hz0, hz1, hz2⟩ := info_parts Try.infoPt
  have hsz : ∀ W, (sizeOf 44).run Try.prog W = .ok 4 W := fun W => by simp [sizeOf, typeInfo, hi0, hz1]
  have hsa : w.shape? vb = some (44, 4) := by unfold World.shape?; rw [hv]; rfl
  have hsb : w.shape? g = some (44, c * 4) := by unfold World.shape?; rw [hB]; simp [hcl]
  have hov : ∀ lb cb, (callFunc 59 #[.slice (some ⟨vb, 0, none⟩) 1 1, .slice (some ⟨g, (i + 1) * 4, none⟩) lb cb]).run Try.prog w = .ok (.value (.bool false)) w := fun lb cb => by
    rw [run_callFunc_extern Try.func59 (by kernel_rfl) (by kernel_rfl) (by kernel_rfl) (e := Extern.SlicesOverlaps.overlaps #[59, 59] #[4]) (by kernel_rfl),
      Lib.run_overlaps_apart w 59 4 44 Try.underlying59 4 hsz ⟨vb, 0, none⟩ ⟨g, (i + 1) * 4, none⟩ 1 1 lb cb hne 44 44 4 (c * 4) hsa hsb (by omega) (hv.free 0) (hv.free 4)]
    rfl
  have hi1 : ¬ (c = i + 1) := by omega
  have hi2 : ¬ (c = i) := by omega
  have hcm' := hcm
  unfold maxLen at hcm'
  have hbz : ¬ ((i : Int) = (n : Int)) := by omega
  have hfn := pts_ins l i p
  rw [← hct] at hfn
  have HO := Hid.mk (And.intro hB (And.intro hct (And.intro hone (And.intro hcl (And.intro hv (And.intro hcm (And.intro hbg hfn)))))))
  have hys : (((cur.drop (i * 4)).take ((n + 1 - i) * 4)).take (min (n + 1 - i) (n - i) * 4)) = (cur.take (n * 4)).drop (i * 4) := by
    rw [List.take_take, List.drop_take, show min (min (n + 1 - i) (n - i) * 4) ((n + 1 - i) * 4) = n * 4 - i * 4 by omega]
  have HY := Hid.mk (And.intro hys (show ∀ u ∈ (((cur.drop (i * 4)).take ((n + 1 - i) * 4)).take (min (n + 1 - i) (n - i) * 4)), u.oneCell' = true by
    rw [hys]; exact fun u hu => hone u (List.mem_of_mem_drop hu)))
  have HF := Hid.mk (show (i + 1) * 4 + min (n + 1 - i) (n - i) * 4 ≤ cur.length by rw [hcl]; omega)
  clear hys
  have HRD := Hid.mk (fun (W : World) (h : Blk W g 44 cur) => h.rds (sz := 4) (i * 4) (n + 1 - i) (by rw [hcl]; omega))
  clear hB hct hone hcl hv hcm hown hbg hsa hsb hsz hfn
  go_enter Try.func50, Try.ntmps50
  go_wp2_with (simp only [hov])
  have hw1 : IntKind.i64.wrap ((i : Int) + 1) = (i : Int) + 1 := by rw [IntKind.wrap_i64]; omega
  have hb1 : (0 : Int) ≤ (i : Int) + 1 := by omega
  have htn : ((i : Int) + 1).toNat = i + 1 := by omega
  have hin : i ≤ n := by omega
  have hb3 : (i : Int) ≤ (n : Int) + 1 := by omega
  go_region_law ((refine step_copy_blk rfl (.tmp 73) (.tmp 76) 59 59 rfl (show Blk w.drew g 44 cur from HO.out.1) 44 4 Try.underlying59 Try.sizePt ((i + 1) * 4) (n - i) (c - (i + 1)) _ (some ⟨g, i * 4, none⟩) (n + 1 - i) (c - i) _ (HRD.out _ HO.out.1) HY.out.2 HF.out (by simp [Act.eval, Act.put]) (by simp [Act.eval, Act.put]) ?_); intro w1 q1 q2; have H1 := Hid.mk (And.intro q1 q2); clear q1 q2)
  have hv1 := Bk.keep (S := fun x => x = g) HO.out.2.2.2.2.1.drew H1.out.2 hne
  have HR1 := Hid.mk (show Rds w1 (· = vb) 4 (some ⟨vb, 0, none⟩) 1 ([p].flatMap Pt.cs) from bk_rds p hv1)
  clear hv1
  have HF2 := Hid.mk (show i * 4 + min 1 (n + 1 - i) * 4 ≤ (splice cur ((i + 1) * 4) ((((cur.drop (i * 4)).take ((n + 1 - i) * 4)).take (min (n + 1 - i) (n - i) * 4)))).length by
    rw [length_splice _ _ _ (by rw [List.length_take, List.length_take, List.length_drop, HO.out.2.2.2.1]; omega), HO.out.2.2.2.1]; omega)
  go_wp2_with ((with_reducible refine wpl_copy_blk (o := ⟨some 82, _, _, _, _, _⟩) rfl (.tmp 80) (.tmp 81) 59 59 rfl H1.out.1 44 4 Try.underlying59 Try.sizePt (i * 4) (n + 1 - i) (c - i) _ (some ⟨vb, 0, none⟩) 1 1 _ HR1.out (fun u hu => pts_one [p] u (List.mem_of_mem_take hu)) HF2.out rfl rfl ?_); intro w2 q1 q2; have H2 := Hid.mk (And.intro q1 q2); clear q1 q2)
  go_ret
  have hcells := ins_cells cur ((n + 1) * 4) (n * 4) (i * 4) p.cs (by omega) (by rw [HO.out.2.2.2.1]; omega) rfl _ rfl (by omega)
  have h2 := H2.out.1
  rw [HY.out.1] at h2
  have e1 : (([p].flatMap Pt.cs).take (min 1 (n + 1 - i) * 4)) = p.cs := by rw [show min 1 (n + 1 - i) = 1 by omega]; simp [Pt.cs]
  have e2 : (cur.drop (i * 4)).take (n * 4 - i * 4) = (cur.take (n * 4)).drop (i * 4) := by rw [List.drop_take]
  rw [e1] at h2
  rw [e2] at hcells
  refine ⟨_, rfl, ?_, ?_⟩
  · rw [HO.out.2.2.2.2.2.2.2]
    rw [show i * 4 + 4 = (i + 1) * 4 by omega] at hcells
    rw [← hcells]
    exact h2.own HO.out.2.2.2.2.2.2.1 (by omega) HO.out.2.2.2.2.2.1 (by
      rw [length_splice _ _ _ (by rw [length_splice _ _ _ (by rw [List.length_drop, List.length_take, HO.out.2.2.2.1]; omega), HO.out.2.2.2.1]; simp [Pt.cs]; omega), length_splice _ _ _ (by rw [List.length_drop, List.length_take, HO.out.2.2.2.1]; omega), HO.out.2.2.2.1])
  · refine ⟨?_, fun k _ hk => hk⟩
    exact ((((Chg.refl _ w).drew).trans H1.out.2 (fun _ _ h => h)).trans H2.out.2 (fun _ _ h => h)).wider (fun k _ hk => by subst hk; rfl)
set_option maxHeartbeats 2000000 in
set_option maxRecDepth 100000 in
theorem insert_grow (base g n c i : Nat) (l : List Pt) (p : Pt) (vb : Nat) (w : World) (hown : w.ownsRow base 44 4 (.slice (some ⟨g, 0, none⟩) n c) n (l.flatMap Pt.cs)) (hv : Bk w vb 44 p.cs.toArray) (hb : base ≤ w.heap.size) (hn : n ≤ 1000000) (hi : i < n) (hroom : c < n + 1) :
    Calls Try.prog 50 #[.slice (some ⟨g, 0, none⟩) n c, .int .i64 (i : Int), .slice (some ⟨vb, 0, none⟩) 1 1] w fun e w' => ∃ v', e = .returned v' ∧ w'.ownsRow base 44 4 v' (n + 1) ((l.take i ++ p :: l.drop i).flatMap Pt.cs) ∧ Grew w (.slice (some ⟨g, 0, none⟩) n c) w' v' := by
  have hl := RdP.len (Rds.of_own hown)
  obtain ⟨cur, hB, hbg, hnc, hcm, hcl, hct⟩ := Blk.of_own hown
  obtain ⟨i0, hi0, hz0, hz1, hz2⟩ := info_parts Try.infoPt
  have hgw := hB.lt
  have hvw := hv.lt
  have hi2 : ¬ (c = i) := by omega
  have hbz : ((i : Int) == (n : Int)) = false := by rw [beq_eq_false_iff_ne]; omega
  have hbc : decide ((c : Int) < (n : Int) + 1) = true := decide_eq_true (by omega)
  have hfn := pts_ins l i p
  have hsrc : Rds w (· = g) 4 (some ⟨g, 0, none⟩) i ((l.flatMap Pt.cs).take (i * 4)) := by
    have h := hB.rds (sz := 4) 0 i (by rw [hcl]; omega)
    rw [List.drop_zero] at h
    rw [← hct, List.take_take, Nat.min_eq_left (by omega)]
    exact h
  have hrest : ∀ W, Blk W g 44 cur → Rds W (· = g) 4 (some ⟨g, i * 4, none⟩) (n - i) ((l.flatMap Pt.cs).drop (i * 4)) := fun W h => by
    have h' := h.rds (sz := 4) (i * 4) (n - i) (by rw [hcl]; omega)
    rw [← hct, List.drop_take, ← Nat.sub_mul]
    exact h'
  have HO := Hid.mk (And.intro hB (And.intro hsrc (And.intro hrest (And.intro hcl (And.intro hv (And.intro hcm (And.intro hbg (And.intro hfn (And.intro hb (And.intro hgw (And.intro hvw hl)))))))))))
  clear hB hct hcl hv hcm hown hbg hfn hsrc hrest hb hgw hvw hl
  have HE := Hid.mk (show Value.int .i64 ((n : Int) + 1 - (i : Int)) = Value.int .i64 ((n + 1 - i : Nat) : Int) by rw [show (n : Int) + 1 - (i : Int) = ((n + 1 - i : Nat) : Int) by omega])
  go_enter Try.func50, Try.ntmps50
  go_wp2_with (first
    | (at_builtin; refine wpl_append_zgrow rfl (.tmp 34) (.tmp 39) 59 3 rfl (n + 1 - i) 44 i0 _ 4 32 Try.underlying59 Try.underlying3 hi0 hz0 hz1 hz2 rfl (by omega) _ (some ⟨g, 0, none⟩) i c _ HO.out.2.1 (by omega) (by omega) (by unfold maxLen; omega) (by omega) rfl HE.out ?_; intro w1 G cur1 q1 q2 q3 q4 q5 q6 q7; have H1 := Hid.mk (And.intro q3 (And.intro q4 (And.intro q5 (And.intro q6 (And.intro q7 q2))))); have hL1 : i + (n + 1 - i) = n + 1 := (by omega); clear q2 q3 q4 q5 q6 q7; have hG1 : ¬ (G = i) := (by omega); have hG2 : ¬ (G = i + 1) := (by omega); have hin : i ≤ n + 1 := (by omega); have hv1 := Bk.keep HO.out.2.2.2.2.1 H1.out.2.2.2.1 (fun h => h); have HR1 := Hid.mk (show Rds w1 (fun x => x = vb) 4 (some ⟨vb, 0, none⟩) 1 ([p].flatMap Pt.cs) from bk_rds p hv1); clear hv1; have HF1 := Hid.mk (show i * 4 + min 1 (n + 1 - i) * 4 ≤ cur1.length from (by rw [H1.out.2.1]; omega)))
    | ((with_reducible refine wpl_copy_blk (o := ⟨some 45, _, _, _, _, _⟩) rfl (.tmp 43) (.tmp 44) 59 59 rfl H1.out.1 44 4 Try.underlying59 Try.sizePt (i * 4) (n + 1 - i) (G - i) _ (some ⟨vb, 0, none⟩) 1 1 _ HR1.out (fun u hu => pts_one [p] u (List.mem_of_mem_take hu)) HF1.out rfl rfl ?_); intro w2 q1 q2; have H2 := Hid.mk (And.intro q1 q2); clear q1 q2))
  have hw1 : IntKind.i64.wrap ((i : Int) + 1) = (i : Int) + 1 := by rw [IntKind.wrap_i64]; omega
  have hb1 : (0 : Int) ≤ (i : Int) + 1 := by omega
  have htn : ((i : Int) + 1).toNat = i + 1 := by omega
  have hin2 : i ≤ n := by omega
  have hb3 : (i : Int) ≤ (n : Int) + 1 := by omega
  have hBw : Blk w2.drew g 44 cur := Blk.keep (S := fun x => x = w.heap.size) (HO.out.1.keep H1.out.2.2.2.1 (fun h => h)) H2.out.2.drew (show ¬ g = w.heap.size from (by have := HO.out.2.2.2.2.2.2.2.2.2.1; omega))
  have HSr := Hid.mk (HO.out.2.2.1 _ hBw)
  clear hBw
  have hl1 : ((l.flatMap Pt.cs).drop (i * 4)).length = (n - i) * 4 := by rw [List.length_drop, pts_len, HO.out.2.2.2.2.2.2.2.2.2.2.2]; omega
  have hys : ((l.flatMap Pt.cs).drop (i * 4)).take (min (n - i) (n - i) * 4) = (l.flatMap Pt.cs).drop (i * 4) := by rw [Nat.min_self, List.take_of_length_le (by rw [hl1]; exact Nat.le_refl _)]
  have hc2l : (splice cur1 (i * 4) (([p].flatMap Pt.cs).take (min 1 (n + 1 - i) * 4))).length = G * 4 := by
    rw [length_splice _ _ _ (by rw [List.length_take, pts_len, H1.out.2.1]; simp; omega), H1.out.2.1]
  have HF2 := Hid.mk (And.intro (show (i + 1) * 4 + min (n - i) (n - i) * 4 ≤ (splice cur1 (i * 4) (([p].flatMap Pt.cs).take (min 1 (n + 1 - i) * 4))).length by rw [hc2l]; omega) (And.intro hys hc2l))
  clear hl1 hys hc2l
  go_region_law ((refine step_copy_blk rfl (.tmp 50) (.tmp 53) 59 59 rfl (show Blk w2.drew w.heap.size 44 _ from H2.out.1) 44 4 Try.underlying59 Try.sizePt ((i + 1) * 4) (n - i) (G - (i + 1)) _ (some ⟨g, i * 4, none⟩) (n - i) (c - i) _ HSr.out (fun u hu => pts_one l u (List.mem_of_mem_drop (List.mem_of_mem_take hu))) HF2.out.1 (by simp [Act.eval, Act.put]) (by simp [Act.eval, Act.put]) ?_); intro w3 q1 q2; have H3 := Hid.mk (And.intro q1 q2); clear q1 q2)
  go_wp2_with fail
  go_ret
  have h3 := H3.out.1
  rw [HF2.out.2.1] at h3
  have e1 : (([p].flatMap Pt.cs).take (min 1 (n + 1 - i) * 4)) = p.cs := by rw [show min 1 (n + 1 - i) = 1 by omega]; simp [Pt.cs]
  have hcl2 := HF2.out.2.2
  rw [e1] at h3 hcl2
  have hcells := ins_cells2 cur1 ((n + 1) * 4) (n * 4) (i * 4) p.cs _ (l.flatMap Pt.cs) (by rw [pts_len, HO.out.2.2.2.2.2.2.2.2.2.2.2]) (by omega) (by rw [H1.out.2.1]; omega) rfl H1.out.2.2.1 rfl (by omega)
  rw [show i * 4 + 4 = (i + 1) * 4 by omega] at hcells
  have hs0 := HO.out.2.2.2.2.2.2.2.2.1
  refine ⟨_, rfl, ?_, ?_⟩
  · rw [HO.out.2.2.2.2.2.2.2.1, ← hcells]
    exact h3.own (by omega) (by omega) H1.out.2.2.2.2.2 (by
      rw [length_splice _ _ _ (by rw [hcl2, List.length_drop, pts_len, HO.out.2.2.2.2.2.2.2.2.2.2.2]; omega), hcl2])
  · have c12 := (H1.out.2.2.2.1.trans (H2.out.2.wider (T := fun k => k = w.heap.size) (fun _ _ h => h)) (fun j hj h => by have h' : j = w.heap.size := h; omega))
    have c3 := ((c12.drew).trans H3.out.2 (fun j hj h => by have h' : j = w.heap.size := h; omega))
    exact ⟨c3.wider (fun _ _ h => h.elim), fun k hk h => by have := own_at h; omega⟩
/-- slices.Insert of one point into a row of the call's own. -/
theorem insert_any (base : Nat) (A : Option Addr) (n c i : Nat) (l : List Pt) (p : Pt) (vb : Nat) (w : World) (hown : w.ownsRow base 44 4 (.slice A n c) n (l.flatMap Pt.cs)) (hv : Bk w vb 44 p.cs.toArray) (hne : ∀ k, Own (.slice A n c) k → vb ≠ k) (hb : base ≤ w.heap.size) (hn : n ≤ 1000000) (hi : i ≤ n) :
    Calls Try.prog 50 #[.slice A n c, .int .i64 (i : Int), .slice (some ⟨vb, 0, none⟩) 1 1] w fun e w' => ∃ v', e = .returned v' ∧ w'.ownsRow base 44 4 v' (n + 1) ((l.take i ++ p :: l.drop i).flatMap Pt.cs) ∧ Grew w (.slice A n c) w' v' := by
  have hl := RdP.len (Rds.of_own hown)
  by_cases he : i = n
  · subst he
    rw [List.take_of_length_le (by omega), List.drop_of_length_le (by omega)]
    exact insert_end base A i c l p vb w hown hv hb hn
  · have hform : ∃ g, A = some ⟨g, 0, none⟩ := by
      rcases hown.2 with ⟨_, h0⟩ | ⟨g, cap, cur, h1, _⟩
      · omega
      · injection h1 with h1
        exact ⟨g, h1⟩
    obtain ⟨g, rfl⟩ := hform
    rcases Nat.lt_or_ge n c with h | h
    · exact insert_room base g n c i l p vb w hown hv (hne g rfl) hn (by omega) h
    · exact insert_grow base g n c i l p vb w hown hv hb hn (by omega) (by omega)
end Go.Proofs.Ytmbmfhpdajdpfaa
