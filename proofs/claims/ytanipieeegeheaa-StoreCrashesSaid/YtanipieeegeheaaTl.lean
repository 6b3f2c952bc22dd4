/- Joined for this seat from: XStX. -/
import Derived.Deep.RegionHeld3
import Derived.Deep.CutRange
import Derived.Test.YtanipieeegeheaaTk
namespace Go.Proofs.Ytanipieeegeheaa
open Go.RowKit

def ptrV (g : Nat) : Value := .pointer (some ⟨g, 0, none⟩)
/-- The slice of the document's stores. -/
structure Sts (w0 w : World) (F : Nat → Prop) (v : Value) (gl : List (Nat × Sp)) : Prop where
  row : OffRow w w0.heap.size 58 v gl.length (gl.map fun q => ptrV q.1)
  far : ∀ k, Own v k → ¬ F k
  each : ∀ q ∈ gl, Ref w (fun k => F k ∨ Own v k) q.1 q.2
/-- A variable that nothing else writes. -/
structure Box (w : World) (F : Nat → Prop) (ga : Nat) (cs : Array Value) : Prop where
  bk : Bk w ga 56 cs
  far : ¬ F ga
section
variable {w0 w w' : World} {F F' T : Nat → Prop} {v : Value} {gl : List (Nat × Sp)} {ga : Nat} {cs : Array Value}
theorem Sts.gen (h : Sts w0 w F v gl) (hc : Chg T w w') (ht : ∀ k, k < w.heap.size → T k → F k) (hf : ∀ k, k < w.heap.size → F' k → F k) : Sts w0 w' F' v gl :=
  ⟨h.row.keep hc (fun k hk hh => h.far k hk (ht k (h.row.lt k hk).2 hh)), fun k hk hh => h.far k hk (hf k (h.row.lt k hk).2 hh),
    fun q hq => (h.each q hq).gen hc (fun k hk hh => .inl (ht k hk hh)) (fun k hk hh => hh.imp (hf k hk) id)⟩
theorem Box.gen (h : Box w F ga cs) (hc : Chg T w w') (ht : ∀ k, k < w.heap.size → T k → F k) (hf : ∀ k, k < w.heap.size → F' k → F k) : Box w' F' ga cs :=
  ⟨h.bk.keep hc (fun hh => h.far (ht ga h.bk.lt hh)), fun hh => h.far (hf ga h.bk.lt hh)⟩
end
/-- At the head of the loop, and where nothing new is under way. -/
structure Crew (w0 w : World) (gs gd : Nat) (v : Value) (gl : List (Nat × Sp)) (bx : Option (Nat × Array Value)) (σ : Sp) (D : Dp) : Prop where
  ex : ∃ M R N, Run w0 w gs gd M R N σ D ∧ Sts w0 w (fun k => M k ∨ k = gs) v gl ∧ (∀ k, Own v k → N k) ∧ ∀ b, bx = some b → Box w (fun k => (M k ∨ k = gs) ∨ Own v k) b.1 b.2
/-- With one more of the document's stores. -/
structure CrewN (w0 w : World) (gs gd : Nat) (v : Value) (gl : List (Nat × Sp)) (b : Nat × Array Value) (gn : Nat) (τ : Sp) (σ : Sp) (D : Dp) : Prop where
  ex : ∃ M R N, Run w0 w gs gd M R N σ D ∧ Sts w0 w (fun k => (M k ∨ k = gs) ∨ k = gn) v gl ∧ Ref w (fun k => (M k ∨ k = gs) ∨ Own v k) gn τ ∧ (∀ k, Own v k → N k) ∧ N gn ∧ w0.heap.size ≤ gn ∧
    Box w (fun k => ((M k ∨ k = gs) ∨ Own v k) ∨ k = gn) b.1 b.2
/-- The disk alone, and the document's stores. -/
structure CrewL (w0 w : World) (gd : Nat) (v : Value) (gl : List (Nat × Sp)) (b : Nat × Array Value) (d : Dp) : Prop where
  ex : ∃ M R, Live w0 w gd M R d ∧ Sts w0 w M v gl ∧ (∀ k, Own v k → ¬ R k) ∧ Box w (fun k => M k ∨ Own v k) b.1 b.2
section
variable {w0 w w' : World} {gs gd gn : Nat} {v v' : Value} {gl : List (Nat × Sp)} {bx : Option (Nat × Array Value)} {b : Nat × Array Value} {σ τ : Sp} {D : Dp}
theorem Crew.nil (h : Crew w0 w gs gd v gl bx σ D) (hc : Chg Nil w w') : Crew w0 w' gs gd v gl bx σ D := by
  obtain ⟨M, R, N, rn, st, hv, hb⟩ := h.ex
  exact ⟨M, R, N, rn.nil hc, st.gen hc (fun _ _ h => h.elim) (fun _ _ h => h), hv, fun b hx => (hb b hx).gen hc (fun _ _ h => h.elim) (fun _ _ h => h)⟩
theorem Crew.chg (h : Crew w0 w gs gd v gl bx σ D) : Chg Nil w0 w := by
  obtain ⟨M, R, N, rn, st, hv, hb⟩ := h.ex
  exact rn.chg
theorem Crew.ok (h : Crew w0 w gs gd v gl bx σ D) : Sok σ D ∧ D.ok := by
  obtain ⟨M, R, N, rn, st, hv, hb⟩ := h.ex
  exact ⟨rn.st.ok, rn.st.dk.ok⟩
theorem Crew.forget (h : Crew w0 w gs gd v gl bx σ D) : Crew w0 w gs gd v gl none σ D := by
  obtain ⟨M, R, N, rn, st, hv, hb⟩ := h.ex
  exact ⟨M, R, N, rn, st, hv, fun b hx => by cases hx⟩
theorem Run.lt' {M R N : Nat → Prop} (h : Run w0 w gs gd M R N σ D) : ∀ k, (M k ∨ k = gs) → k < w.heap.size := by
  obtain ⟨A, c, st⟩ := h.st
  exact fun k hk => hk.elim (fun hk => st.dk.lt k (.inl hk)) (fun hk => by rw [hk]; exact st.bk.lt)
theorem Crew.boxed (h : Crew w0 w gs gd v gl bx σ D) {ga : Nat} {cs : Array Value} (hc : Chg Nil w w') (hb : Bk w' ga 56 cs) (hg : w.heap.size ≤ ga) : Crew w0 w' gs gd v gl (some (ga, cs)) σ D := by
  obtain ⟨M, R, N, rn, st, hv, _⟩ := h.ex
  refine ⟨M, R, N, rn.nil hc, st.gen hc (fun _ _ h => h.elim) (fun _ _ h => h), hv, fun b hx => ?_⟩
  injection hx with hx
  subst hx
  exact ⟨hb, fun hh => hh.elim (fun hh => by have := rn.lt' ga hh; have hg : w.heap.size ≤ ga := hg; omega) (fun hh => by have := (st.row.lt ga hh).2; have hg : w.heap.size ≤ ga := hg; omega)⟩
theorem Crew.box (h : Crew w0 w gs gd v gl (some b) σ D) : Bk w b.1 56 b.2 := by
  obtain ⟨M, R, N, rn, st, hv, hb⟩ := h.ex
  exact (hb b rfl).bk
theorem Crew.copy (h : Crew w0 w gs gd v gl (some b) σ D) {g : Nat} (hq : (g, τ) ∈ gl) (hp : Pok τ) :
    Calls Try.prog 35 #[.pointer (some ⟨g, 0, none⟩)] w fun e w' => ∃ gn, e = .returned (.pointer (some ⟨gn, 0, none⟩)) ∧ CrewN w0 w' gs gd v gl b gn τ σ D := by
  obtain ⟨M, R, N, rn, st, hv, hb⟩ := h.ex
  refine (rCopy_any (st.each _ hq) hp).mono ?_
  rintro e w1 ⟨gn, he, hg, hc, hf⟩
  have hrf := hf (fun k => (M k ∨ k = gs) ∨ Own v k) (fun k hk => hk.elim (rn.lt' k) (fun hk => (st.row.lt k hk).2))
  have hlt := hrf.lt
  refine ⟨gn, he, M, R, _, rn.more hc, st.gen hc (fun _ _ h => h.elim) (fun k hk hh => hh.elim id (fun hh => by omega)), hrf, fun k hk => .inl (hv k hk), .inr ⟨hg, hlt⟩, Nat.le_trans rn.chg.size hg,
    (hb b rfl).gen hc (fun _ _ h => h.elim) (fun k hk hh => hh.elim id (fun hh => by omega))⟩
theorem CrewN.nil (h : CrewN w0 w gs gd v gl b gn τ σ D) (hc : Chg Nil w w') : CrewN w0 w' gs gd v gl b gn τ σ D := by
  obtain ⟨M, R, N, rn, st, rf, hv, hN, hl, hb⟩ := h.ex
  exact ⟨M, R, N, rn.nil hc, st.gen hc (fun _ _ h => h.elim) (fun _ _ h => h), rf.nil hc, hv, hN, hl, hb.gen hc (fun _ _ h => h.elim) (fun _ _ h => h)⟩
theorem CrewN.box (h : CrewN w0 w gs gd v gl b gn τ σ D) : Bk w b.1 56 b.2 := by
  obtain ⟨M, R, N, rn, st, rf, hv, hN, hl, hb⟩ := h.ex
  exact hb.bk
theorem CrewN.drop (h : CrewN w0 w gs gd v gl b gn τ σ D) : Crew w0 w gs gd v gl (some b) σ D := by
  obtain ⟨M, R, N, rn, st, rf, hv, hN, hl, hb⟩ := h.ex
  refine ⟨M, R, N, rn, st.gen (Chg.refl Nil w) (fun _ _ h => h.elim) (fun _ _ h => .inl h), hv, fun b' hx => ?_⟩
  injection hx with hx
  subst hx
  exact hb.gen (Chg.refl Nil w) (fun _ _ h => h.elim) (fun _ _ h => .inl h)
/-- The document's store has been written. -/
theorem CrewN.wrote {τ' : Sp} (M R N : Nat → Prop) (rn : Run w0 w gs gd M R N σ D) (st : Sts w0 w (fun k => (M k ∨ k = gs) ∨ k = gn) v gl) (hv : ∀ k, Own v k → N k) (hN : N gn) (hl : w0.heap.size ≤ gn)
    (hb : Box w (fun k => ((M k ∨ k = gs) ∨ Own v k) ∨ k = gn) b.1 b.2) (hc : Chg (· = gn) w w') (rf : Ref w' (fun k => (M k ∨ k = gs) ∨ Own v k) gn τ') : CrewN w0 w' gs gd v gl b gn τ' σ D :=
  ⟨M, R, N, rn.other hc (fun k _ hk => by rw [hk]; exact hN) (fun k hk => by rw [hk]; exact hl), st.gen hc (fun _ _ h => .inr h) (fun _ _ h => h), rf, hv, hN, hl, hb.gen hc (fun _ _ h => .inr h) (fun _ _ h => h)⟩
theorem CrewN.rapply (h : CrewN w0 w gs gd v gl b gn τ σ D) (hp : Pok τ) (B : Option Addr) (m mc : Nat) (ops : List Oq) (ho : RdO w (fun k => k < w0.heap.size) B m ops) (hmc : mc ≤ maxLen) (hm : m ≤ mc) :
    Calls Try.prog 36 #[.pointer (some ⟨gn, 0, none⟩), .slice B m mc] w fun e w' => e = .returned (.int .i64 (applyE τ ops : Int)) ∧ CrewN w0 w' gs gd v gl b gn (τ.apply1 ops) σ D ∧ Chg (· = gn) w w' := by
  obtain ⟨M, R, N, rn, st, rf, hv, hN, hl, hb⟩ := h.ex
  refine (rApply_any rf hp (fun k hk => hk.elim (rn.lt' k) (fun hk => (st.row.lt k hk).2)) B m mc ops _ ho hmc hm).mono ?_
  rintro e w1 ⟨he, hc, rf2⟩
  exact ⟨he, CrewN.wrote M R N rn st hv hN hl hb hc rf2, hc⟩
theorem CrewN.rmark (h : CrewN w0 w gs gd v gl b gn τ σ D) (hp : Pok τ) :
    Calls Try.prog 37 #[.pointer (some ⟨gn, 0, none⟩)] w fun e w' => e = .returned (.int .i64 (markE τ : Int)) ∧ CrewN w0 w' gs gd v gl b gn τ.mark1 σ D := by
  obtain ⟨M, R, N, rn, st, rf, hv, hN, hl, hb⟩ := h.ex
  refine (rMark_any rf hp).mono ?_
  rintro e w1 ⟨he, hc, rf2⟩
  exact ⟨he, CrewN.wrote M R N rn st hv hN hl hb hc rf2⟩
theorem CrewN.rroom (h : CrewN w0 w gs gd v gl b gn τ σ D) (hp : Pok τ) :
    Calls Try.prog 39 #[.pointer (some ⟨gn, 0, none⟩)] w fun e w' => e = .returned (.int .i64 ((τ.log - τ.used : Nat) : Int)) ∧ Chg Nil w w' := by
  obtain ⟨M, R, N, rn, st, rf, hv, hN, hl, hb⟩ := h.ex
  exact rRoom_any rf hp
/-- The store has been at work. -/
theorem CrewN.went {σ' : Sp} {D' : Dp} {M R N M' R' : Nat → Prop} (st : Sts w0 w (fun k => (M k ∨ k = gs) ∨ k = gn) v gl) (rf : Ref w (fun k => (M k ∨ k = gs) ∨ Own v k) gn τ) (hv : ∀ k, Own v k → N k) (hN : N gn) (hl : w0.heap.size ≤ gn)
    (hb : Box w (fun k => ((M k ∨ k = gs) ∨ Own v k) ∨ k = gn) b.1 b.2) (hw : WentS w w' gs M R M' R') (rn : Run w0 w' gs gd M' R' N σ' D') : CrewN w0 w' gs gd v gl b gn τ σ' D' :=
  ⟨M', R', N, rn, st.gen hw.chg (fun _ _ h => .inl h) (fun k hk h => h.imp (fun h => h.imp (hw.m k hk) id) id), rf.gen hw.chg (fun _ _ h => .inl h) (fun k hk h => h.imp (fun h => h.imp (hw.m k hk) id) id), hv, hN, hl,
    hb.gen hw.chg (fun _ _ h => .inl (.inl h)) (fun k hk h => h.imp (fun h => h.imp (fun h => h.imp (hw.m k hk) id) id) id)⟩
theorem CrewN.apply (h : CrewN w0 w gs gd v gl b gn τ σ D) (B : Option Addr) (m mc : Nat) (ops : List Oq) (ho : RdO w (fun k => k < w0.heap.size) B m ops) (hmc : m ≤ mc) (hcm : mc ≤ maxLen) (hlong : D.waits.length ≤ 1000000) :
    Calls Try.prog 14 #[.pointer (some ⟨gs, 0, none⟩), .slice B m mc] w fun e w' => e = .returned (.int .i64 ((applyP σ D ops).2.2 : Int)) ∧ CrewN w0 w' gs gd v gl b gn τ (applyP σ D ops).1 (applyP σ D ops).2.1 := by
  obtain ⟨M, R, N, rn, st, rf, hv, hN, hl, hb⟩ := h.ex
  refine (rn.applyC B m mc ops ho hmc hcm hlong).mono ?_
  rintro e w1 ⟨M1, R1, he, r1, hw⟩
  exact ⟨he, CrewN.went st rf hv hN hl hb hw r1⟩
theorem CrewN.mark (h : CrewN w0 w gs gd v gl b gn τ σ D) (hlong : D.waits.length ≤ 1000000) :
    Calls Try.prog 29 #[.pointer (some ⟨gs, 0, none⟩)] w fun e w' => e = .returned (.int .i64 ((markP σ D).2.2 : Int)) ∧ CrewN w0 w' gs gd v gl b gn τ (markP σ D).1 (markP σ D).2.1 := by
  obtain ⟨M, R, N, rn, st, rf, hv, hN, hl, hb⟩ := h.ex
  refine (rn.markC hlong).mono ?_
  rintro e w1 ⟨M1, R1, he, r1, hw⟩
  exact ⟨he, CrewN.went st rf hv hN hl hb hw r1⟩
theorem CrewN.sync (h : CrewN w0 w gs gd v gl b gn τ σ D) :
    Calls Try.prog 15 #[.pointer (some ⟨gs, 0, none⟩)] w fun e w' => e = .returned (.int .i64 ((syncP σ D).2.2 : Int)) ∧ CrewN w0 w' gs gd v gl b gn τ (syncP σ D).1 (syncP σ D).2.1 := by
  obtain ⟨M, R, N, rn, st, rf, hv, hN, hl, hb⟩ := h.ex
  refine rn.syncC.mono ?_
  rintro e w1 ⟨he, r1, hw⟩
  exact ⟨he, CrewN.went st rf hv hN hl hb hw r1⟩
theorem CrewN.dead (h : CrewN w0 w gs gd v gl b gn τ σ D) : Calls Try.prog 38 #[.pointer (some ⟨gd, 0, none⟩)] w fun e w' => e = .returned (.bool D.dead) ∧ w' = w := by
  obtain ⟨M, R, N, rn, st, rf, hv, hN, hl, hb⟩ := h.ex
  exact dead_any rn.st.dk
theorem Crew.dead (h : Crew w0 w gs gd v gl bx σ D) : Calls Try.prog 38 #[.pointer (some ⟨gd, 0, none⟩)] w fun e w' => e = .returned (.bool D.dead) ∧ w' = w := by
  obtain ⟨M, R, N, rn, st, hv, hb⟩ := h.ex
  exact dead_any rn.st.dk
theorem Crew.stop (h : Crew w0 w gs gd v gl bx σ D) (n : Int) (hn : n ≤ 9223372036854775807) :
    Calls Try.prog 34 #[.pointer (some ⟨gd, 0, none⟩), .int .i64 n] w fun e w' => (∃ x, e = .returned x) ∧ Crew w0 w' gs gd v gl bx σ (D.stopAt n) := by
  obtain ⟨M, R, N, rn, st, hv, hb⟩ := h.ex
  refine (stop_any rn.st.dk n hn).mono ?_
  rintro e w1 ⟨he, c1, d1⟩
  have hc := rn.st.dk.chg_own c1
  exact ⟨he, M, R, N, rn.disk (Went.of_chg hc) d1 rfl, st.gen hc (fun _ _ h => .inl h) (fun _ _ h => h), hv, fun b hx => (hb b hx).gen hc (fun _ _ h => .inl (.inl h)) (fun _ _ h => h)⟩
/-- states = append(states, next). -/
theorem CrewN.grown (h : CrewN w0 w gs gd v gl b gn τ σ D) (hg : Grew w v w' v') (hr : OffRow w' w0.heap.size 58 v' (gl.length + 1) ((gl.map fun q => ptrV q.1) ++ [ptrV gn])) : Crew w0 w' gs gd v' (gl ++ [(gn, τ)]) (some b) σ D := by
  obtain ⟨M, R, N, rn, st, rf, hv, hN, hl, hb⟩ := h.ex
  have hold : ∀ k, k < w.heap.size → Own v' k → Own v k := hg.lies
  refine ⟨M, R, _, rn.grow hg.chg (fun k _ hk => hv k hk) (fun k hk => (st.row.lt k hk).1), ⟨?_, fun k hk hh => ?_, fun q hq => ?_⟩, fun k hk => ?_, fun b' hx => ?_⟩
  · rw [List.length_append, List.map_append]
    exact hr
  · have hlt := rn.lt' k hh
    exact st.far k (hold k hlt hk) (.inl hh)
  · rcases List.mem_append.1 hq with hq | hq
    · exact (st.each q hq).gen hg.chg (fun _ _ h => .inr h) (fun k hk hh => hh.imp (fun h => .inl h) (hold k hk))
    · have : q = (gn, τ) := by simpa using hq
      subst this
      exact rf.gen hg.chg (fun _ _ h => .inr h) (fun k hk hh => hh.imp id (hold k hk))
  · rcases Nat.lt_or_ge k w.heap.size with hlt | hge
    · exact .inl (hv k (hold k hlt hk))
    · exact .inr ⟨hge, (hr.lt k hk).2⟩
  · injection hx with hx
    subst hx
    exact hb.gen hg.chg (fun _ _ h => .inl (.inr h)) (fun k hk hh => .inl (hh.imp id (hold k hk)))
/-- A slice of one. -/
theorem CrewN.fresh (h : CrewN w0 w gs gd v gl b gn τ σ D) : Crew w0 (w.alloc (.cells #[ptrV gn] 58)) gs gd (.slice (some ⟨w.heap.size, 0, none⟩) 1 1) [(gn, τ)] none σ D := by
  obtain ⟨M, R, N, rn, st, rf, hv, hN, hl, hb⟩ := h.ex
  have hc : Chg Nil w (w.alloc (.cells #[ptrV gn] 58)) := (Chg.refl _ _).alloc _
  have hw0 := rn.chg.size
  refine ⟨M, R, _, rn.more hc, ⟨OffRow.one w _ _ _ hw0, fun k hk hh => ?_, fun q hq => ?_⟩, fun k hk => .inr ?_, fun b hx => by cases hx⟩
  · have := own_at hk
    have := rn.lt' k hh
    omega
  · have : q = (gn, τ) := by simpa using hq
    subst this
    exact rf.gen hc (fun _ _ h => h.elim) (fun k hk hh => hh.elim .inl (fun hh => by have := own_at hh; omega))
  · have := own_at hk
    rw [this]
    simp
/-- states = states[k:]. -/
theorem Crew.cut {g off cap n k : Nat} (h : Crew w0 w gs gd (.slice (some ⟨g, off, none⟩) n cap) gl bx σ D) (hn : gl.length = n) (hk : k < n) :
    Crew w0 w gs gd (.slice (some ⟨g, off + k, none⟩) (n - k) (cap - k)) (gl.drop k) bx σ D := by
  obtain ⟨M, R, N, rn, st, hv, hb⟩ := h.ex
  subst hn
  refine ⟨M, R, N, rn, ⟨?_, fun x hx => st.far x hx, fun q hq => st.each q (List.mem_of_mem_drop hq)⟩, fun x hx => hv x hx, fun b hx => hb b hx⟩
  have := st.row.back hk
  rw [← List.map_drop] at this
  rw [List.length_drop]
  exact this
/-- The slice, as the walk reads it. -/
theorem Crew.slice (h : Crew w0 w gs gd v gl bx σ D) : ∃ g off cap, v = .slice (some ⟨g, off, none⟩) gl.length cap ∧ gl.length ≤ cap ∧ cap ≤ maxLen ∧ ∀ W, Chg Nil w W → ∀ (j : Nat) (q : Nat × Sp), gl[j]? = some q → W.cell? ⟨g, off + j, none⟩ = some (ptrV q.1) := by
  obtain ⟨M, R, N, rn, st, hv, hb⟩ := h.ex
  obtain ⟨g, off, cap, hv, h1, h2, h3, h4, h5⟩ := st.row.cells
  exact ⟨g, off, cap, hv, h1, h2, fun W hW j q hq => hW.cell (h5 j _ (by rw [List.getElem?_map, hq]; rfl)) (fun h => h)⟩
theorem Crew.ref (h : Crew w0 w gs gd v gl bx σ D) {q : Nat × Sp} (hq : q ∈ gl) : ∃ F, Ref w F q.1 q.2 := by
  obtain ⟨M, R, N, rn, st, hv, hb⟩ := h.ex
  exact ⟨_, st.each q hq⟩
theorem Crew.run (h : Crew w0 w gs gd v gl bx σ D) : ∃ M R N, Run w0 w gs gd M R N σ D := by
  obtain ⟨M, R, N, rn, st, hv, hb⟩ := h.ex
  exact ⟨M, R, N, rn⟩
theorem Crew.crash (h : Crew w0 w gs gd v gl (some b) σ D) (keep : Int) (hk1 : -9223372036854775808 ≤ keep) (hk2 : keep ≤ 9223372036854775807) (hlong : D.waits.length ≤ 1000000) :
    Calls Try.prog 16 #[.pointer (some ⟨gd, 0, none⟩), .int .i64 keep] w fun e w' => (∃ x, e = .returned x) ∧ CrewL w0 w' gd v gl b (D.crash keep) := by
  obtain ⟨M, R, N, rn, st, hv, hb⟩ := h.ex
  refine (dcrash_any rn.st.dk keep hk1 hk2 hlong).mono ?_
  rintro e w1 ⟨he, c1, d1⟩
  refine ⟨he, M, R, rn.live.step c1 d1, st.gen c1 (fun _ _ h => .inl h) (fun _ _ h => .inl h), fun k hk hr => ?_, (hb b rfl).gen c1 (fun _ _ h => .inl (.inl h)) (fun _ _ h => h.imp .inl id)⟩
  obtain ⟨A, c, s⟩ := rn.st
  exact s.apart k (.inr hr) (hv k hk)
theorem CrewL.box {d : Dp} (h : CrewL w0 w gd v gl b d) : Bk w b.1 56 b.2 := by
  obtain ⟨M, R, lv, st, hv, hb⟩ := h.ex
  exact hb.bk
theorem CrewL.ok {d : Dp} (h : CrewL w0 w gd v gl b d) : d.ok := by
  obtain ⟨M, R, lv, st, hv, hb⟩ := h.ex
  exact lv.dk.ok
theorem CrewL.chg {d : Dp} (h : CrewL w0 w gd v gl b d) : Chg Nil w0 w := by
  obtain ⟨M, R, lv, st, hv, hb⟩ := h.ex
  exact lv.chg
theorem CrewL.stop {d : Dp} (h : CrewL w0 w gd v gl b d) (n : Int) (hn : n ≤ 9223372036854775807) :
    Calls Try.prog 34 #[.pointer (some ⟨gd, 0, none⟩), .int .i64 n] w fun e w' => (∃ x, e = .returned x) ∧ CrewL w0 w' gd v gl b (d.stopAt n) := by
  obtain ⟨M, R, lv, st, hv, hb⟩ := h.ex
  refine (stop_any lv.dk n hn).mono ?_
  rintro e w1 ⟨he, c1, d1⟩
  have hc := lv.dk.chg_own c1
  exact ⟨he, M, R, lv.step hc d1, st.gen hc (fun _ _ h => h) (fun _ _ h => h), hv, hb.gen hc (fun _ _ h => .inl h) (fun _ _ h => h)⟩
theorem CrewL.crash {d : Dp} (h : CrewL w0 w gd v gl b d) (keep : Int) (hk1 : -9223372036854775808 ≤ keep) (hk2 : keep ≤ 9223372036854775807) (hlong : d.waits.length ≤ 1000000) :
    Calls Try.prog 16 #[.pointer (some ⟨gd, 0, none⟩), .int .i64 keep] w fun e w' => (∃ x, e = .returned x) ∧ CrewL w0 w' gd v gl b (d.crash keep) := by
  obtain ⟨M, R, lv, st, hv, hb⟩ := h.ex
  refine (dcrash_any lv.dk keep hk1 hk2 hlong).mono ?_
  rintro e w1 ⟨he, c1, d1⟩
  exact ⟨he, M, R, lv.step c1 d1, st.gen c1 (fun _ _ h => h) (fun _ _ h => h), hv, hb.gen c1 (fun _ _ h => .inl h) (fun _ _ h => h)⟩
theorem CrewL.went {d d' : Dp} {M R M' R' : Nat → Prop} (lv : Live w0 w gd M R d) (st : Sts w0 w M v gl) (hv : ∀ k, Own v k → ¬ R k) (hb : Box w (fun k => M k ∨ Own v k) b.1 b.2) (hw : Went w w' M R M' R') (dk : Dk w' gd M' R' d') : CrewL w0 w' gd v gl b d' :=
  ⟨M', R', lv.went hw dk, st.gen hw.chg (fun _ _ h => h) (fun k hk h => hw.m k hk h), fun k hk hr => hv k hk (hw.r k (st.row.lt k hk).2 hr), hb.gen hw.chg (fun _ _ h => .inl h) (fun k hk h => h.imp (hw.m k hk) id)⟩
/-- Open, whose store is thrown away. -/
theorem CrewL.open_ {d : Dp} (h : CrewL w0 w gd v gl b d) (slots log : Nat) (hs : 21 ≤ slots) (hr : 2 * slots + log ≤ d.now.length) (hlong : d.waits.length ≤ 1000000) :
    Calls Try.prog 13 #[.pointer (some ⟨gd, 0, none⟩), .int .i64 (slots : Int), .int .i64 (log : Int)] w fun e w' =>
      (((openD d slots log).2 = 0 ∧ ∃ gs, e = .returned (.tuple #[.pointer (some ⟨gs, 0, none⟩), .int .i64 0])) ∨ ((openD d slots log).2 = 9 ∧ e = .returned (.tuple #[.pointer none, .int .i64 9]))) ∧ CrewL w0 w' gd v gl b (openD d slots log).1 := by
  obtain ⟨M, R, lv, st, hv, hb⟩ := h.ex
  refine (open_any lv.dk slots log hs hr hlong).mono ?_
  rintro e w1 ⟨M1, R1, hw, ⟨h0, gs, he, hg, hst⟩ | ⟨h9, he, hdk⟩⟩
  · exact ⟨.inl ⟨h0, gs, he⟩, CrewL.went lv st hv hb hw hst.dk⟩
  · exact ⟨.inr ⟨h9, he⟩, CrewL.went lv st hv hb hw hdk⟩
/-- Open, whose store is taken. -/
theorem CrewL.opened {d D' : Dp} (h : CrewL w0 w gd v gl b d) (slots log : Nat) (hs : 21 ≤ slots) (hr : 2 * slots + log ≤ d.now.length) (hlong : d.waits.length ≤ 1000000) (h1 : openS d slots log = σ) (h2 : openD d slots log = (D', 0)) :
    Calls Try.prog 13 #[.pointer (some ⟨gd, 0, none⟩), .int .i64 (slots : Int), .int .i64 (log : Int)] w fun e w' => ∃ gs, e = .returned (.tuple #[.pointer (some ⟨gs, 0, none⟩), .int .i64 0]) ∧ Crew w0 w' gs gd v gl (some b) σ D' := by
  obtain ⟨M, R, lv, st, hv, hb⟩ := h.ex
  have hop := open_any lv.dk slots log hs hr hlong
  rw [h1, h2] at hop
  refine hop.mono ?_
  rintro e w1 ⟨M1, R1, hw, ⟨_, gs, he, hg, hst⟩ | ⟨h9, _⟩⟩
  · have hlv := lv.went hw hst.dk
    refine ⟨gs, he, M1, R1, _, ⟨hlv.chg, hst, fun k hk => ?_⟩, st.gen hw.chg (fun _ _ h => h) (fun k hk h => h.elim (hw.m k hk) (fun h => by omega)), fun k hk => ⟨(st.row.lt k hk).2, fun hh => hh.elim (st.far k hk) (hv k hk)⟩, fun b' hx => ?_⟩
    · rcases hk with hk | hk | hk
      · exact hlv.low k (.inl hk)
      · exact hlv.low k (.inr hk)
      · have := lv.chg.size; omega
    · injection hx with hx
      subst hx
      exact hb.gen hw.chg (fun _ _ h => .inl h) (fun k hk h => h.imp (fun h => h.elim (hw.m k hk) (fun h => by omega)) id)
  · exact absurd h9 (by simp)
end

end Go.Proofs.Ytanipieeegeheaa
