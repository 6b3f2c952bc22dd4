/- Joined for this seat from: XStA. -/
import Derived.Deep.RegionHeld3
import Derived.Deep.CutRange
import Derived.Test.YtanipieeegeheaaSs
namespace Go.Proofs.Ytanipieeegeheaa
open Go.RowKit

/-- A store's struct, its disk, its points; N: blocks of others, which may change. -/
structure StAt (w : World) (gs gd : Nat) (M R N : Nat → Prop) (A : Option Addr) (c : Nat) (σ : Sp) (d : Dp) : Prop where
  bk : Bk w gs 76 #[.pointer (some ⟨gd, 0, none⟩), .int .i64 (σ.slots : Int), .int .i64 (σ.log : Int), .int .i64 σ.from_, .int .u64 (σ.gen : Int), .int .u64 (σ.u : Int), .slice A σ.pts.length c, .int .i64 (σ.used : Int), .bool σ.broken]
  dk : Dk w gd M R d
  far : ¬ M gs ∧ ¬ R gs ∧ ¬ N gs
  apart : ∀ k, M k ∨ R k → ¬ N k
  kept : Kept w (fun k => (M k ∨ R k) ∨ k = gs ∨ N k) A σ.pts.length σ.pts
  nlt : ∀ k, N k → k < w.heap.size
  ok : Sok σ d
def St (w : World) (gs gd : Nat) (M R N : Nat → Prop) (σ : Sp) (d : Dp) : Prop := ∃ A c, StAt w gs gd M R N A c σ d
theorem chg_set (w : World) (g i : Nat) (u : Value) : Chg (· = g) w (w.setCell ⟨g, i, none⟩ u) := (Chg.refl (· = g) w).setCell (p := ⟨g, i, none⟩) (fun _ => rfl) u
theorem Kept.gen' {w w' : World} {M R N : Nat → Prop} {gs : Nat} {A : Option Addr} {n : Nat} {l : List Pt} (h : Kept w (fun k => (M k ∨ R k) ∨ k = gs ∨ N k) A n l) (hc : Chg (· = gs) w w') : Kept w' (fun k => (M k ∨ R k) ∨ k = gs ∨ N k) A n l := by
  obtain ⟨S, hr, hs⟩ := h.ex
  exact ⟨S, Rds.keep hr hc (fun k hk hh => (hs k hk).2 (.inr (.inl hh))), fun k hk => ⟨Nat.lt_of_lt_of_le (hs k hk).1 hc.size, (hs k hk).2⟩⟩
/-- What a call does to a store's blocks. -/
structure WentS (w w' : World) (gs : Nat) (M R M' R' : Nat → Prop) : Prop where
  chg : Chg (fun k => M k ∨ k = gs) w w'
  m : ∀ k, k < w.heap.size → M' k → M k
  r : ∀ k, k < w.heap.size → R' k → R k
section
variable {w w' : World} {gs gd : Nat} {M R N M' R' T : Nat → Prop} {A : Option Addr} {c : Nat} {σ : Sp} {d d' : Dp}
theorem WentS.refl (w : World) (gs : Nat) (M R : Nat → Prop) : WentS w w gs M R M R := ⟨Chg.refl _ _, fun _ _ h => h, fun _ _ h => h⟩
theorem WentS.nil (h : Chg Nil w w') : WentS w w' gs M R M R := ⟨h.wider (fun _ _ h => h.elim), fun _ _ h => h, fun _ _ h => h⟩
theorem WentS.of_went (h : Went w w' M R M' R') : WentS w w' gs M R M' R' := ⟨h.chg.wider (fun _ _ h => .inl h), h.m, h.r⟩
theorem WentS.of_gs (h : Chg (· = gs) w w') : WentS w w' gs M R M R := ⟨h.wider (fun _ _ h => .inr h), fun _ _ h => h, fun _ _ h => h⟩
theorem WentS.trans {w2 : World} {M2 R2 : Nat → Prop} (h : WentS w w' gs M R M' R') (k : WentS w' w2 gs M' R' M2 R2) : WentS w w2 gs M R M2 R2 :=
  ⟨h.chg.trans k.chg (fun i hi hm => hm.imp (h.m i hi) id), fun i hi hm => h.m i hi (k.m i (Nat.lt_of_lt_of_le hi h.chg.size) hm), fun i hi hm => h.r i hi (k.r i (Nat.lt_of_lt_of_le hi h.chg.size) hm)⟩
theorem StAt.nil (h : StAt w gs gd M R N A c σ d) (hc : Chg Nil w w') : StAt w' gs gd M R N A c σ d :=
  { bk := h.bk.keep hc (fun h => h), dk := h.dk.keep_nil hc, far := h.far, apart := h.apart, kept := h.kept.nil hc, nlt := fun k hk => Nat.lt_of_lt_of_le (h.nlt k hk) hc.size, ok := h.ok }
/-- Others' blocks change. -/
theorem StAt.other (h : StAt w gs gd M R N A c σ d) (hc : Chg T w w') (ht : ∀ k, k < w.heap.size → T k → N k) : StAt w' gs gd M R N A c σ d :=
  { bk := h.bk.keep hc (fun hh => h.far.2.2 (ht gs h.bk.lt hh)), dk := h.dk.keep hc (fun k hm hh => h.apart k (.inl hm) (ht k (h.dk.lt k (.inl hm)) hh)) (fun k hm hh => h.apart k (.inr hm) (ht k (h.dk.lt k (.inr hm)) hh)),
    far := h.far, apart := h.apart, kept := ⟨by
      obtain ⟨S, hr, hs⟩ := h.kept.ex
      exact ⟨S, Rds.keep hr hc (fun k hk hh => (hs k hk).2 (.inr (.inr (ht k (hs k hk).1 hh)))), fun k hk => ⟨Nat.lt_of_lt_of_le (hs k hk).1 hc.size, (hs k hk).2⟩⟩⟩,
    nlt := fun k hk => Nat.lt_of_lt_of_le (h.nlt k hk) hc.size, ok := h.ok }
/-- The disk has been at work. -/
theorem StAt.went (h : StAt w gs gd M R N A c σ d) (hw : Went w w' M R M' R') (hd : Dk w' gd M' R' d') (hn : d'.now.length = d.now.length) : StAt w' gs gd M' R' N A c σ d' :=
  { bk := h.bk.keep hw.chg h.far.1, dk := hd, far := ⟨fun hm => h.far.1 (hw.m gs h.bk.lt hm), fun hm => h.far.2.1 (hw.r gs h.bk.lt hm), h.far.2.2⟩,
    apart := fun k hk hn => h.apart k (hk.imp (hw.m k (h.nlt k hn)) (hw.r k (h.nlt k hn))) hn,
    kept := ⟨by
      obtain ⟨S, hr, hs⟩ := h.kept.ex
      exact ⟨S, Rds.keep hr hw.chg (fun k hk hh => (hs k hk).2 (.inl (.inl hh))), fun k hk => ⟨Nat.lt_of_lt_of_le (hs k hk).1 hw.chg.size, fun hh => (hs k hk).2 (hh.imp (fun h2 => h2.imp (hw.m k (hs k hk).1) (hw.r k (hs k hk).1)) id)⟩⟩⟩,
    nlt := fun k hk => Nat.lt_of_lt_of_le (h.nlt k hk) hw.chg.size, ok := { h.ok with room := by rw [hn]; exact h.ok.room } }
/-- The struct's own cells have been written. -/
theorem StAt.wrote {A' : Option Addr} {c' : Nat} {σ' : Sp} (h : StAt w gs gd M R N A c σ d) (hc : Chg (· = gs) w w')
    (hb : Bk w' gs 76 #[.pointer (some ⟨gd, 0, none⟩), .int .i64 (σ'.slots : Int), .int .i64 (σ'.log : Int), .int .i64 σ'.from_, .int .u64 (σ'.gen : Int), .int .u64 (σ'.u : Int), .slice A' σ'.pts.length c', .int .i64 (σ'.used : Int), .bool σ'.broken])
    (hk : Kept w (fun k => (M k ∨ R k) ∨ k = gs ∨ N k) A' σ'.pts.length σ'.pts) (ho : Sok σ' d) : StAt w' gs gd M R N A' c' σ' d :=
  { bk := hb, dk := h.dk.keep hc (fun k hm hh => h.far.1 (by rw [← hh]; exact hm)) (fun k hm hh => h.far.2.1 (by rw [← hh]; exact hm)), far := h.far, apart := h.apart,
    kept := hk.gen' hc, nlt := fun k hk => Nat.lt_of_lt_of_le (h.nlt k hk) hc.size, ok := ho }
end

section
variable {w : World} {gs gd : Nat} {M R N : Nat → Prop} {A : Option Addr} {c : Nat} {σ : Sp} {d : Dp}
/-- The struct's cells, as the walk reads them. -/
theorem StAt.cells (h : StAt w gs gd M R N A c σ d) : w.cell? ⟨gs, 0, none⟩ = some (.pointer (some ⟨gd, 0, none⟩)) ∧ w.cell? ⟨gs, 1, none⟩ = some (.int .i64 (σ.slots : Int)) ∧ w.cell? ⟨gs, 2, none⟩ = some (.int .i64 (σ.log : Int)) ∧
    w.cell? ⟨gs, 3, none⟩ = some (.int .i64 σ.from_) ∧ w.cell? ⟨gs, 4, none⟩ = some (.int .u64 (σ.gen : Int)) ∧ w.cell? ⟨gs, 5, none⟩ = some (.int .u64 (σ.u : Int)) ∧ w.cell? ⟨gs, 6, none⟩ = some (.slice A σ.pts.length c) ∧
    w.cell? ⟨gs, 7, none⟩ = some (.int .i64 (σ.used : Int)) ∧ w.cell? ⟨gs, 8, none⟩ = some (.bool σ.broken) :=
  ⟨h.bk.cell 0 rfl, h.bk.cell 1 rfl, h.bk.cell 2 rfl, h.bk.cell 3 rfl, h.bk.cell 4 rfl, h.bk.cell 5 rfl, h.bk.cell 6 rfl, h.bk.cell 7 rfl, h.bk.cell 8 rfl⟩
theorem at_cell {w : World} {gs slots : Nat} (h : w.cell? ⟨gs, 1, none⟩ = some (.int .i64 (slots : Int))) (hs : slots ≤ 1000000) :
    Calls Try.prog 42 #[.pointer (some ⟨gs, 0, none⟩)] w fun e w' => e = .returned (.int .i64 (2 * (slots : Int))) ∧ w' = w := by
  go_enter Try.func42, Try.ntmps42
  go_wp2_with fail
  go_ret
  exact ⟨rfl, rfl⟩
theorem stU_any (h : StAt w gs gd M R N A c σ d) : Calls Try.prog 18 #[.pointer (some ⟨gs, 0, none⟩)] w fun e w' => e = .returned (.int .u64 (σ.u : Int)) ∧ w' = w := by
  have h5 := h.cells.2.2.2.2.2.1
  clear h
  go_enter Try.func18, Try.ntmps18
  go_wp2_with fail
  go_ret
  exact ⟨rfl, rfl⟩
theorem stGen_any (h : StAt w gs gd M R N A c σ d) : Calls Try.prog 26 #[.pointer (some ⟨gs, 0, none⟩)] w fun e w' => e = .returned (.int .u64 (σ.gen : Int)) ∧ w' = w := by
  have h5 := h.cells.2.2.2.2.1
  clear h
  go_enter Try.func26, Try.ntmps26
  go_wp2_with fail
  go_ret
  exact ⟨rfl, rfl⟩
theorem Sok.small (h : Sok σ d) (hd : d.ok) : σ.slots ≤ 1000000 ∧ σ.log ≤ 1000000 ∧ σ.used ≤ 1000000 := by
  have := h.room; have := hd.most; have := h.used; omega
theorem stRoom_any (h : StAt w gs gd M R N A c σ d) : Calls Try.prog 22 #[.pointer (some ⟨gs, 0, none⟩)] w fun e w' => e = .returned (.int .i64 ((σ.log - σ.used : Nat) : Int)) ∧ Chg Nil w w' := by
  have h2 := fun nq => (h.nil ((Chg.refl Nil w).drewN nq)).cells.2.2.1
  have h7 := fun nq => (h.nil ((Chg.refl Nil w).drewN nq)).cells.2.2.2.2.2.2.2.1
  have hs := h.ok.small h.dk.ok
  have hu := h.ok.used
  have hE : (σ.log : Int) - (σ.used : Int) = ((σ.log - σ.used : Nat) : Int) := by omega
  obtain ⟨hs1, hs2, hs3⟩ := hs
  have HE := Hid.mk hE
  clear h hE
  generalize σ.log = LG at *
  generalize σ.used = US at *
  go_enter Try.func22, Try.ntmps22
  go_wp2_with fail
  go_quiet (fail)
  go_wp2_with fail
  go_ret
  exact ⟨by show Ending.returned (Value.int .i64 ((LG : Int) - (US : Int))) = _; rw [HE.out], (Chg.refl _ _).drewN _⟩
theorem stPoints_any (h : StAt w gs gd M R N A c σ d) : Calls Try.prog 17 #[.pointer (some ⟨gs, 0, none⟩)] w fun e w' => ∃ A' c', e = .returned (.slice A' σ.pts.length c') ∧ RdP w' (fun k => w.heap.size ≤ k) A' σ.pts.length σ.pts ∧ Chg Nil w w' := by
  have h6 := h.cells.2.2.2.2.2.2.1
  have hl := h.ok.len
  have hC := clonep_any A σ.pts.length c σ.pts _ w h.kept.rd (by omega)
  have HC := Hid.mk hC
  clear h hC
  generalize σ.pts = P at *
  go_enter Try.func17, Try.ntmps17
  go_wp2_with fail
  refine HC.out.mono ?_
  rintro e w1 ⟨v1, rfl, o1, c1⟩
  obtain ⟨A1, k1, rfl, _, _⟩ := own_form o1
  have H1 := Hid.mk (And.intro o1 c1)
  clear o1 c1
  go_wp2_with fail
  go_ret
  exact ⟨A1, k1, rfl, (Rds.of_own H1.out.1).wider (fun k _ hk => own_ge H1.out.1 k hk) (by omega), H1.out.2⟩
theorem told_any (h : StAt w gs gd M R N A c σ d) (E : Int) :
    Calls Try.prog 50 #[.pointer (some ⟨gs, 0, none⟩), .int .i64 E] w fun e w' => e = .returned (.int .i64 E) ∧ Chg (· = gs) w w' ∧ StAt w' gs gd M R N A c { σ with broken := σ.broken || E != 0 } d := by
  have h8 := h.cells.2.2.2.2.2.2.2.2
  have f8 := h.bk.free 8
  have HH := Hid.mk h
  clear h
  obtain ⟨b, hb⟩ : ∃ b, b = σ.broken := ⟨_, rfl⟩
  rw [← hb] at h8 ⊢
  have HB := Hid.mk hb
  clear hb
  by_cases hE : E = 0
  · subst hE
    cases b
    all_goals
      go_enter Try.func50, Try.ntmps50
      go_wp2_with fail
      go_ret
      refine ⟨rfl, chg_set _ _ _ _, HH.out.wrote (chg_set _ _ _ _) ?_ HH.out.kept ?_⟩
      · have := HH.out.bk.set 8 (.bool σ.broken)
        rw [← HB.out] at this
        exact this
      · exact { HH.out.ok with }
  · have hE1 : (E != 0) = true := by rw [bne_iff_ne]; exact hE
    cases b
    all_goals
      go_enter Try.func50, Try.ntmps50
      go_wp2_with fail
      go_ret
      refine ⟨rfl, chg_set _ _ _ _, HH.out.wrote (chg_set _ _ _ _) ?_ HH.out.kept ?_⟩
      · have := HH.out.bk.set 8 (.bool true)
        simpa [hE1] using this
      · exact { HH.out.ok with }
end

end Go.Proofs.Ytanipieeegeheaa
