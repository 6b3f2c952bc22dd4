/- Joined for this seat from: XStM. -/
import Derived.Test.YtanipieeegeheaaTe
namespace Go.Proofs.Ytanipieeegeheaa
open Go.RowKit

/-- In good order: sizes, the disk's bytes tell the store, the disk lives for good. -/
structure Gd (s l : Nat) (σ : Sp) (D : Dp) : Prop where
  inv : ∃ β bo n, Inv σ D β bo n
  free : D.free
  slots : σ.slots = s
  log : σ.log = l
section
variable {s l : Nat} {σ : Sp} {D : Dp}
theorem Gd.of {β : Sp} {bo : List (List UInt8)} (h : Opened D β σ bo) : Gd σ.slots σ.log σ (openD D σ.slots σ.log).1 := ⟨⟨β, bo, _, h.inv⟩, h.free, rfl, rfl⟩
theorem Gd.few (h : Gd s l σ D) (hd : D.ok) : D.waits.length ≤ 1000000 := by
  obtain ⟨β, bo, n, hi⟩ := h.inv
  exact Nat.le_trans hi.few hd.most
theorem Gd.unbroken (h : Gd s l σ D) : σ.broken = false := by
  obtain ⟨β, bo, n, hi⟩ := h.inv
  exact hi.unbroken
theorem applyP_no {ops : List Oq} (h : applyE σ ops ≠ 0) : applyP σ D ops = (σ, D, applyE σ ops) := by unfold applyP; rw [if_pos h]
theorem applyE_not9 {ops : List Oq} (h : σ.broken = false) (hb : batE ops ≠ 9) : applyE σ ops ≠ 9 := by
  unfold applyE
  rw [h, if_neg (by decide)]
  split
  · exact hb
  · split
    · decide
    · split <;> decide
theorem Gd.apply (h : Gd s l σ D) (ops : List Oq) : Gd s l (applyP σ D ops).1 (applyP σ D ops).2.1 := by
  by_cases he : applyE σ ops = 0
  · obtain ⟨β, bo, n, hi⟩ := h.inv
    have hi2 := hi.apply h.free.dead ops he
    refine ⟨⟨β, _, n, hi2⟩, ?_, ?_, ?_⟩
    · rw [applyP_zero he h.free.dead]; exact Dp.free_write h.free _ _
    · rw [applyP_zero he h.free.dead]; exact h.slots
    · rw [applyP_zero he h.free.dead]; exact h.log
  · rw [applyP_no he]; exact h
theorem syncP_live (h : Gd s l σ D) : syncP σ D = (σ, D.sync, 0) := by
  unfold syncP
  rw [h.unbroken, if_neg (by decide), h.free.dead, if_neg (by decide)]
theorem Gd.sync (h : Gd s l σ D) : Gd s l (syncP σ D).1 (syncP σ D).2.1 := by
  rw [syncP_live h]
  obtain ⟨β, bo, n, hi⟩ := h.inv
  exact ⟨⟨β, bo, _, hi.sync⟩, Dp.free_sync h.free, h.slots, h.log⟩
theorem markP_free (h : D.free) : (markP σ D).2.1.free := by
  unfold markP
  split
  · exact h
  · have h1 := slot_free h (σ.to * σ.slots) σ.snap.bytes
    rw [if_neg (by rw [h1.1]; decide)]
    have h2 := step_free h1.2 (2 * σ.slots) (zeros σ.used)
    rw [if_neg (by rw [h2.1]; decide)]
    exact h2.2
theorem markP_no (h : markE σ ≠ 0) : markP σ D = (σ, D, markE σ) := by unfold markP; rw [if_pos h]
/-- A checkpoint of a store in good order: refused, or done. -/
theorem Gd.mark (h : Gd s l σ D) : Gd s l (markP σ D).1 (markP σ D).2.1 ∧
    ((markE σ ≠ 0 ∧ markP σ D = (σ, D, markE σ)) ∨ (markE σ = 0 ∧ (markP σ D).2.2 = 0 ∧ (markP σ D).1 = σ.marked ∧ Inv σ.marked (markP σ D).2.1 σ.marked [] 0)) := by
  by_cases he : markE σ = 0
  · obtain ⟨β, bo, n, hi⟩ := h.inv
    rcases hi.mark h.free.dead he with ⟨h1, h2, h3⟩ | ⟨_, h2, _⟩
    · refine ⟨⟨⟨σ.marked, [], 0, by rw [h2]; exact h3⟩, markP_free h.free, ?_, ?_⟩, .inr ⟨he, h1, h2, h3⟩⟩
      · rw [h2]; exact h.slots
      · rw [h2]; exact h.log
    · have := (markP_free (σ := σ) h.free).dead
      rw [h2] at this
      exact absurd this (by decide)
  · rw [markP_no he]; exact ⟨h, .inl ⟨he, rfl⟩⟩
theorem markE_is (h : σ.broken = false) (hg : σ.gen < 4611686018427387904) : markE σ = 0 ∨ markE σ = 12 := by
  unfold markE
  rw [h, if_neg (by decide), if_neg (by omega)]
  split
  · exact .inl rfl
  · exact .inr rfl
theorem markP_gen : (markP σ D).1.gen ≤ σ.gen + 1 := by
  unfold markP
  split
  · simp
  · split
    · simp
    · split <;> simp
theorem applyP_gen (ops : List Oq) : (applyP σ D ops).1.gen = σ.gen := by
  unfold applyP
  split
  · rfl
  · split <;> rfl
theorem syncP_gen : (syncP σ D).1.gen = σ.gen := by
  unfold syncP
  split
  · rfl
  · split <;> rfl
/-- Opened anew on a disk that was opened: nothing is to be washed. -/
theorem openD_again {β : Sp} {bo : List (List UInt8)} {n : Nat} (hi : Inv σ D β bo n) (hd : D.dead = false) : openD D σ.slots σ.log = (D, 0) := by
  unfold openD
  rw [hd, if_neg (by decide)]
  have ho : openS D σ.slots σ.log = σ := hi.img.opens
  rw [ho, hi.log, hi.used_len, List.drop_left]
  rw [zeros_dirty]
  rfl
end
section
variable {w0 w w' : World} {gs gd : Nat} {M R N M' R' : Nat → Prop} {σ : Sp} {D : Dp}
theorem Run.applyC (h : Run w0 w gs gd M R N σ D) (B : Option Addr) (m mc : Nat) (ops : List Oq) (ho : RdO w (fun k => k < w0.heap.size) B m ops) (hmc : m ≤ mc) (hcm : mc ≤ maxLen) (hlong : D.waits.length ≤ 1000000) :
    Calls Try.prog 14 #[.pointer (some ⟨gs, 0, none⟩), .slice B m mc] w fun e w' => ∃ M' R', e = .returned (.int .i64 ((applyP σ D ops).2.2 : Int)) ∧ Run w0 w' gs gd M' R' N (applyP σ D ops).1 (applyP σ D ops).2.1 ∧ WentS w w' gs M R M' R' := by
  obtain ⟨A, c, st⟩ := h.st
  refine (stApply_any st B m mc ops _ ho hmc hcm (fun k hk => ⟨fun hm => by have := h.low k (.inl hm); omega, fun hm => by have := h.low k (.inr (.inr hm)); omega⟩) hlong).mono ?_
  rintro e w1 ⟨M1, R1, he, hw, hs⟩
  exact ⟨M1, R1, he, h.wentS hw hs, hw⟩
theorem Run.markC (h : Run w0 w gs gd M R N σ D) (hlong : D.waits.length ≤ 1000000) :
    Calls Try.prog 29 #[.pointer (some ⟨gs, 0, none⟩)] w fun e w' => ∃ M' R', e = .returned (.int .i64 ((markP σ D).2.2 : Int)) ∧ Run w0 w' gs gd M' R' N (markP σ D).1 (markP σ D).2.1 ∧ WentS w w' gs M R M' R' := by
  obtain ⟨A, c, st⟩ := h.st
  refine (stMark_any st hlong).mono ?_
  rintro e w1 ⟨M1, R1, he, hw, hs⟩
  exact ⟨M1, R1, he, h.wentS hw hs, hw⟩
theorem Run.syncC (h : Run w0 w gs gd M R N σ D) :
    Calls Try.prog 15 #[.pointer (some ⟨gs, 0, none⟩)] w fun e w' => e = .returned (.int .i64 ((syncP σ D).2.2 : Int)) ∧ Run w0 w' gs gd M R N (syncP σ D).1 (syncP σ D).2.1 ∧ WentS w w' gs M R M R := by
  obtain ⟨A, c, st⟩ := h.st
  refine (stSync_any st).mono ?_
  rintro e w1 ⟨he, hw, hs⟩
  exact ⟨he, h.wentS hw ⟨_, _, hs⟩, hw⟩
theorem Kept.gen {w w' : World} {M M' T : Nat → Prop} {A : Option Addr} {n : Nat} {l : List Pt} (h : Kept w M A n l) (hc : Chg T w w') (ht : ∀ k, k < w.heap.size → T k → M k) (hm : ∀ k, k < w.heap.size → M' k → M k) : Kept w' M' A n l := by
  obtain ⟨S, hr, hs⟩ := h.ex
  exact ⟨S, Rds.keep hr hc (fun k hk hm => (hs k hk).2 (ht k (hs k hk).1 hm)), fun k hk => ⟨Nat.lt_of_lt_of_le (hs k hk).1 hc.size, fun h => (hs k hk).2 (hm k (hs k hk).1 h)⟩⟩
theorem Kept.wentS {A : Option Addr} {n : Nat} {l : List Pt} (h : Kept w (fun k => M k ∨ k = gs) A n l) (hw : WentS w w' gs M R M' R') : Kept w' (fun k => M' k ∨ k = gs) A n l :=
  h.gen hw.chg (fun _ _ h => h) (fun k hk h => h.imp (hw.m k hk) id)
theorem Run.pointsC (h : Run w0 w gs gd M R N σ D) :
    Calls Try.prog 17 #[.pointer (some ⟨gs, 0, none⟩)] w fun e w' => ∃ A c, e = .returned (.slice A σ.pts.length c) ∧ Kept w' (fun k => M k ∨ k = gs) A σ.pts.length σ.pts ∧ RdP w' (fun k => w.heap.size ≤ k) A σ.pts.length σ.pts ∧ Chg Nil w w' := by
  obtain ⟨A, c, st⟩ := h.st
  refine (stPoints_any st).mono ?_
  rintro e w1 ⟨A1, c1, he, hr, hc⟩
  exact ⟨A1, c1, he, Kept.new hr (fun k hk => hk.elim (fun hm => st.dk.lt k (.inl hm)) (fun hm => by rw [hm]; exact st.bk.lt)), hr, hc⟩
theorem Run.uC (h : Run w0 w gs gd M R N σ D) : Calls Try.prog 18 #[.pointer (some ⟨gs, 0, none⟩)] w fun e w' => e = .returned (.int .u64 (σ.u : Int)) ∧ w' = w := by
  obtain ⟨A, c, st⟩ := h.st
  exact stU_any st
theorem Run.genC (h : Run w0 w gs gd M R N σ D) : Calls Try.prog 26 #[.pointer (some ⟨gs, 0, none⟩)] w fun e w' => e = .returned (.int .u64 (σ.gen : Int)) ∧ w' = w := by
  obtain ⟨A, c, st⟩ := h.st
  exact stGen_any st
theorem Run.roomC (h : Run w0 w gs gd M R N σ D) : Calls Try.prog 22 #[.pointer (some ⟨gs, 0, none⟩)] w fun e w' => e = .returned (.int .i64 ((σ.log - σ.used : Nat) : Int)) ∧ Chg Nil w w' := by
  obtain ⟨A, c, st⟩ := h.st
  exact stRoom_any st
/-- A second store on the same disk. -/
theorem Run.again {σ2 : Sp} {e : Ending} (h : Run w0 w gs gd M R N σ D) (ho : OpenIs w gd M R (D, 0) σ2 e w') :
    ∃ gb M' R', e = .returned (.tuple #[.pointer (some ⟨gb, 0, none⟩), .int .i64 0]) ∧ Run w0 w' gs gd M' R' N σ D ∧ Run w0 w' gb gd M' R' (fun k => k < w.heap.size ∧ ¬ (M k ∨ R k)) σ2 D ∧ Went w w' M R M' R' := by
  obtain ⟨M', R', hw, ⟨_, gb, he, hg, s7⟩ | ⟨h9, _⟩⟩ := ho
  · obtain ⟨A, c, st⟩ := h.st
    have st2 : StAt w' gs gd M' R' N A c σ D := st.went hw s7.dk rfl
    have hl := h.live.went hw s7.dk
    refine ⟨gb, M', R', he, ⟨hl.chg, ⟨A, c, st2⟩, fun k hk => ?_⟩, ⟨hl.chg, s7, fun k hk => ?_⟩, hw⟩
    · rcases hk with hk | hk | hk
      · exact hl.low k (.inl hk)
      · exact hl.low k (.inr hk)
      · exact h.low k (.inr (.inr hk))
    · rcases hk with hk | hk | hk
      · exact hl.low k (.inl hk)
      · exact hl.low k (.inr hk)
      · have := h.chg.size; omega
  · exact absurd h9 (by simp)
theorem Run.uIs (h : Run w0 w gs gd M R N σ D) {x : Int} (hx : (σ.u : Int) = x) : Calls Try.prog 18 #[.pointer (some ⟨gs, 0, none⟩)] w fun e w' => e = .returned (.int .u64 x) ∧ w' = w := by rw [← hx]; exact h.uC
theorem Run.genIs (h : Run w0 w gs gd M R N σ D) {x : Int} (hx : (σ.gen : Int) = x) : Calls Try.prog 26 #[.pointer (some ⟨gs, 0, none⟩)] w fun e w' => e = .returned (.int .u64 x) ∧ w' = w := by rw [← hx]; exact h.genC
theorem Run.roomIs (h : Run w0 w gs gd M R N σ D) {x : Int} (hx : ((σ.log - σ.used : Nat) : Int) = x) : Calls Try.prog 22 #[.pointer (some ⟨gs, 0, none⟩)] w fun e w' => e = .returned (.int .i64 x) ∧ Chg Nil w w' := by rw [← hx]; exact h.roomC
/-- The store stays; its disk has been at work. -/
theorem Run.disk {D' : Dp} (h : Run w0 w gs gd M R N σ D) (hw : Went w w' M R M' R') (hd : Dk w' gd M' R' D') (hn : D'.now.length = D.now.length) : Run w0 w' gs gd M' R' N σ D' := by
  obtain ⟨A, c, st⟩ := h.st
  have hl := h.live.went hw hd
  refine ⟨hl.chg, ⟨A, c, st.went hw hd hn⟩, fun k hk => ?_⟩
  rcases hk with hk | hk | hk
  · exact hl.low k (.inl hk)
  · exact hl.low k (.inr hk)
  · exact h.low k (.inr (.inr hk))
theorem Dk.chg_own {g : Nat} (h : Dk w g M R D) (hc : Chg (· = g) w w') : Chg M w w' := by
  obtain ⟨_, _, _, _, hd⟩ := h
  exact hc.wider (fun k _ hk => by rw [hk]; exact hd.mg)
end

end Go.Proofs.Ytanipieeegeheaa
