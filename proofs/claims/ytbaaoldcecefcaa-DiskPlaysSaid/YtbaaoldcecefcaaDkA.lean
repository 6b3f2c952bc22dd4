/- The contracts of a disk's small methods: in, call, Size, Dead, Stop; of slices.Clone at bytes. -/
import Derived.Test.YtbaaoldcecefcaaDk
import Derived.Lib.SliceRun
namespace Go.Proofs.Ytbaaoldcecefcaa
open Go.RowKit

theorem Try.infoU8 : (Try.prog.info? 5).map (fun i => (i.zero, i.size, i.bytes)) = some (some (.int .u8 0), 1, 1) := by kernel_rfl

/-- Whether so many bytes are there. -/
def Dp.fits (d : Dp) (p n : Int) : Bool := decide (p ≥ 0) && decide (n ≥ 0) && decide (p ≤ d.now.length) && decide (n ≤ (d.now.length : Int) - p)

set_option maxHeartbeats 1000000 in
set_option maxRecDepth 100000 in
theorem din_any {g : Nat} {M R : Nat → Prop} {d : Dp} {w : World} (h : Dk w g M R d) (p n : Int) :
    Calls Try.prog 24 #[.pointer (some ⟨g, 0, none⟩), .int .i64 p, .int .i64 n] w fun e w' => e = .returned (.bool (d.fits p n)) ∧ Chg Nil w w' := by
  obtain ⟨nv, lv, wv, ws, h⟩ := h
  have hmost := h.ok.most
  obtain ⟨A, c, rfl, hc, hm⟩ := h.now.form
  have hc0 : w.cell? ⟨g, 0, none⟩ = some (.slice A d.now.length c) := h.bk.cell 0 rfl
  clear h
  unfold Dp.fits
  generalize d.now.length = L at *
  go_enter Try.func24, Try.ntmps24
  by_cases h1 : p ≥ 0
  · have d1 : decide (p ≥ 0) = true := decide_eq_true h1
    by_cases h2 : n ≥ 0
    · have d2 : decide (n ≥ 0) = true := decide_eq_true h2
      by_cases h3 : p ≤ L
      · have d3 : decide (p ≤ (L : Int)) = true := decide_eq_true h3
        generalize hd4 : decide (n ≤ (L : Int) - p) = d4
        go_wp2
        go_ret
        simp_all [Chg.refl]
      · have d3 : decide (p ≤ (L : Int)) = false := decide_eq_false h3
        go_wp2
        go_ret
        simp_all [Chg.refl]
    · have d2 : decide (n ≥ 0) = false := decide_eq_false h2
      go_wp2
      go_ret
      simp_all [Chg.refl]
  · have d1 : decide (p ≥ 0) = false := decide_eq_false h1
    go_wp2
    go_ret
    simp_all [Chg.refl]

/-- A call is counted. -/
def Dp.called (d : Dp) : Dp := if 0 < d.stop then { d with stop := d.stop - 1, dead := decide (d.stop - 1 = 0) } else d
theorem Dp.called_ok {d : Dp} (h : d.ok) : d.called.ok := by
  unfold Dp.called
  split
  · exact ⟨h.same, h.most, h.fits, Nat.le_trans (Nat.sub_le _ _) h.stop⟩
  · exact h

set_option maxHeartbeats 1000000 in
set_option maxRecDepth 100000 in
theorem call_dead {g : Nat} {M R : Nat → Prop} {d : Dp} {w : World} (h : Dk w g M R d) (hd : d.dead = true) :
    Calls Try.prog 25 #[.pointer (some ⟨g, 0, none⟩)] w fun e w' => e = .returned (.int .i64 9) ∧ w' = w := by
  obtain ⟨nv, lv, wv, ws, h⟩ := h
  have hc3 : w.cell? ⟨g, 3, none⟩ = some (.bool d.dead) := h.bk.cell 3 rfl
  rw [hd] at hc3
  clear h
  go_enter Try.func25, Try.ntmps25
  go_wp2
  go_ret
  exact ⟨rfl, rfl⟩

set_option maxHeartbeats 1000000 in
set_option maxRecDepth 100000 in
theorem call_ok {g : Nat} {M R : Nat → Prop} {d : Dp} {w : World} (h : Dk w g M R d) (hd : d.dead = false) :
    Calls Try.prog 25 #[.pointer (some ⟨g, 0, none⟩)] w fun e w' => e = .returned (.int .i64 0) ∧ Chg (· = g) w w' ∧ Dk w' g M R d.called := by
  obtain ⟨nv, lv, wv, ws, h⟩ := h
  have hc3 : w.cell? ⟨g, 3, none⟩ = some (.bool d.dead) := h.bk.cell 3 rfl
  have hc4 : w.cell? ⟨g, 4, none⟩ = some (.int .i64 (d.stop : Int)) := h.bk.cell 4 rfl
  have hf3 := h.bk.free 3
  have hf4 := h.bk.free 4
  have hs := h.ok.stop
  rw [hd] at hc3
  by_cases h0 : 0 < d.stop
  · have d0 : decide ((d.stop : Int) > 0) = true := decide_eq_true (by omega)
    have HH := Hid.mk h
    clear h
    go_enter Try.func25, Try.ntmps25
    go_wp2
    go_ret
    have e2 : ((d.stop : Int) - 1 == 0) = decide (d.stop - 1 = 0) := by
      rw [show ((d.stop : Int) - 1) = ((d.stop - 1 : Nat) : Int) by omega]
      by_cases h : d.stop - 1 = 0
      · simp [h]
      · simp [h]
    have hh := HH.out.set34 ((d.stop : Int) - 1) ((d.stop : Int) - 1 == 0) (d.stop - 1) (by omega) (by omega)
    rw [Dp.called, if_pos h0]
    rw [e2] at hh ⊢
    exact ⟨rfl, hh⟩
  · have d0 : decide ((d.stop : Int) > 0) = false := decide_eq_false (by omega)
    have HH := Hid.mk h
    clear h
    go_enter Try.func25, Try.ntmps25
    go_wp2
    go_ret
    refine ⟨rfl, Chg.refl _ _, ?_⟩
    rw [Dp.called, if_neg h0]
    exact ⟨_, _, _, _, HH.out⟩

set_option maxHeartbeats 1000000 in
set_option maxRecDepth 100000 in
theorem size_any {g : Nat} {M R : Nat → Prop} {d : Dp} {w : World} (h : Dk w g M R d) :
    Calls Try.prog 22 #[.pointer (some ⟨g, 0, none⟩)] w fun e w' => e = .returned (.int .i64 (d.now.length : Int)) ∧ w' = w := by
  obtain ⟨nv, lv, wv, ws, h⟩ := h
  obtain ⟨A, c, rfl, hc, hm⟩ := h.now.form
  have hc0 : w.cell? ⟨g, 0, none⟩ = some (.slice A d.now.length c) := h.bk.cell 0 rfl
  clear h
  go_enter Try.func22, Try.ntmps22
  go_wp2
  go_ret
  exact ⟨rfl, rfl⟩
theorem dead_any {g : Nat} {M R : Nat → Prop} {d : Dp} {w : World} (h : Dk w g M R d) :
    Calls Try.prog 18 #[.pointer (some ⟨g, 0, none⟩)] w fun e w' => e = .returned (.bool d.dead) ∧ w' = w := by
  obtain ⟨nv, lv, wv, ws, h⟩ := h
  have hc3 : w.cell? ⟨g, 3, none⟩ = some (.bool d.dead) := h.bk.cell 3 rfl
  clear h
  go_enter Try.func18, Try.ntmps18
  go_wp2
  go_ret
  exact ⟨rfl, rfl⟩

set_option maxHeartbeats 1000000 in
set_option maxRecDepth 100000 in
theorem stop_any {g : Nat} {M R : Nat → Prop} {d : Dp} {w : World} (h : Dk w g M R d) (n : Int) (hn : n ≤ 9223372036854775807) :
    Calls Try.prog 17 #[.pointer (some ⟨g, 0, none⟩), .int .i64 n] w fun e w' => (∃ v, e = .returned v) ∧ Chg (· = g) w w' ∧ Dk w' g M R { d with stop := n.toNat, dead := d.dead || n == 0 } := by
  obtain ⟨nv, lv, wv, ws, h⟩ := h
  have hc3 : w.cell? ⟨g, 3, none⟩ = some (.bool d.dead) := h.bk.cell 3 rfl
  have hc4 : w.cell? ⟨g, 4, none⟩ = some (.int .i64 (d.stop : Int)) := h.bk.cell 4 rfl
  have hf3 := h.bk.free 3
  have hf4 := h.bk.free 4
  have HH := Hid.mk h
  clear h
  cases hd : d.dead
  all_goals
    rw [hd] at hc3
    go_enter Try.func17, Try.ntmps17
    go_wp2
    all_goals go_end0
    case inr => exact ⟨⟨_, rfl⟩, HH.out.set34 _ _ _ (by omega) (by omega)⟩
    case inl => exact ⟨⟨_, rfl⟩, HH.out.set34 _ _ _ (by omega) (by omega)⟩

/-- slices.Clone at bytes. -/
theorem clone_nil (n c : Nat) (w : World) : Calls Try.prog 26 #[.slice none n c] w fun e w' => e = .returned (.slice none 0 0) ∧ w' = w := by
  have q : ∀ (w : World) (a : Option Addr) (n c n' c' : Nat), (binOp .eql 22 (.slice a n c) (.slice none n' c')).run Try.prog w = .ok (.bool a.isNone) w := fun w a n c n' c' => Lib.run_eql_slice_nil w _ _ a n c n' c' Try.underlying22
  go_enter Try.func26, Try.ntmps26
  go_wp2
  go_ret
  exact ⟨rfl, rfl⟩
set_option maxHeartbeats 1000000 in
set_option maxRecDepth 100000 in
theorem clone_some (ad : Addr) (n c : Nat) (bs : List UInt8) (S : Nat → Prop) (w : World) (hr : RdB w S (some ad) n bs) (hl : n ≤ 140737488355328) :
    Calls Try.prog 26 #[.slice (some ad) n c] w fun e w' => ∃ v', e = .returned v' ∧ w'.ownsRow w.heap.size 5 1 v' n (bs.map bv) ∧ Chg Nil w w' := by
  have q : ∀ (w : World) (a : Option Addr) (n c n' c' : Nat), (binOp .eql 22 (.slice a n c) (.slice none n' c')).run Try.prog w = .ok (.bool a.isNone) w := fun w a n c n' c' => Lib.run_eql_slice_nil w _ _ a n c n' c' Try.underlying22
  obtain ⟨i0, hi, hz0, hz1, hz2⟩ := info_parts Try.infoU8
  have hr1 : ∀ o, RdB (w.alloc o) (fun k => S k ∧ k < w.heap.size) (some ad) n bs := fun o => hr.here.keep ((Chg.refl Nil w).alloc o) (fun _ _ h => h)
  have HR := Hid.mk hr1
  clear hr hr1
  go_enter Try.func26, Try.ntmps26
  go_wp2_with (at_builtin; refine wpl_append rfl _ _ 22 rfl w.heap.size 5 i0 _ 1 1 Try.underlying22 hi hz0 hz1 hz2 rfl (by omega) _ _ _ rfl (World.ownsRow_made w #[] 0 (Nat.le_refl _) (Nat.zero_le _) (by simp)) _ (some ad) n c _ rfl (HR.out _) (bv_one _) ?c2 ?c3 ?c4 ?_)
  case c2 => simp only [maxLen]; omega
  case c3 => omega
  case c4 => simp
  intro v' w1 hown hg
  have H := Hid.mk (And.intro hown hg)
  clear hown hg
  go_wp2
  go_ret
  refine ⟨v', rfl, by simpa using H.out.1, ?_⟩
  exact ((Chg.refl Nil w).alloc _).trans H.out.2.chg (fun k hk h => by have := own_at h; omega)
end Go.Proofs.Ytbaaoldcecefcaa
