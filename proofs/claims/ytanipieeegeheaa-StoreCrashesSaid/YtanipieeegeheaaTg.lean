/- Joined for this seat from: XStO. -/
import Derived.Deep.RegionHeld3
import Derived.Deep.CutRange
import Derived.Test.YtanipieeegeheaaTf
namespace Go.Proofs.Ytanipieeegeheaa
open Go.RowKit

/-- What always holds of it. -/
structure Pok (σ : Sp) : Prop where
  slots : σ.slots ≤ 1000000
  log : σ.log ≤ 1000000
  used : σ.used ≤ σ.log
  gen1 : 1 ≤ σ.gen
  gen2 : σ.gen ≤ 4611686018427387904
  u : σ.u ≤ 9223372036854775807
  may : mayP σ.pts = 0
  broken : σ.broken = false
theorem Sok.pok {σ : Sp} {d : Dp} (h : Sok σ d) (hd : d.ok) (hb : σ.broken = false) : Pok σ :=
  ⟨(h.small hd).1, (h.small hd).2.1, h.used, h.gen1, h.gen2, h.u, h.may, hb⟩
theorem Pok.up {σ : Sp} (h : Pok σ) : Up σ.pts := ((risesP_iff _).1 (mayP_zero h.may).2).1
theorem Pok.len {σ : Sp} (h : Pok σ) : σ.pts.length ≤ 20000 := (mayP_zero h.may).1
/-- The document's Store in memory; F: blocks that others may change. -/
structure Ref (w : World) (F : Nat → Prop) (gw : Nat) (σ : Sp) : Prop where
  ex : ∃ A c, Bk w gw 65 #[.int .i64 (σ.slots : Int), .int .i64 (σ.log : Int), .int .i64 (σ.used : Int), .int .u64 (σ.gen : Int), .int .u64 (σ.u : Int), .slice A σ.pts.length c] ∧ Kept w (fun k => k = gw ∨ F k) A σ.pts.length σ.pts
  far : ¬ F gw
section
variable {w w' : World} {F F' T : Nat → Prop} {gw : Nat} {σ : Sp}
theorem Ref.gen (h : Ref w F gw σ) (hc : Chg T w w') (ht : ∀ k, k < w.heap.size → T k → F k) (hf : ∀ k, k < w.heap.size → F' k → F k) : Ref w' F' gw σ := by
  obtain ⟨A, c, h1, h2⟩ := h.ex
  exact ⟨⟨A, c, h1.keep hc (fun hh => h.far (ht gw h1.lt hh)), h2.gen hc (fun k hk hh => .inr (ht k hk hh)) (fun k hk hh => hh.imp id (hf k hk))⟩, fun hh => h.far (hf gw h1.lt hh)⟩
theorem Ref.nil (h : Ref w F gw σ) (hc : Chg Nil w w') : Ref w' F gw σ := h.gen hc (fun _ _ h => h.elim) (fun _ _ h => h)
theorem Ref.lt (h : Ref w F gw σ) : gw < w.heap.size := by
  obtain ⟨A, c, h1, _⟩ := h.ex
  exact h1.lt
theorem Ref.cells (h : Ref w F gw σ) : ∃ A c, (w.cell? ⟨gw, 0, none⟩ = some (.int .i64 (σ.slots : Int)) ∧ w.cell? ⟨gw, 1, none⟩ = some (.int .i64 (σ.log : Int)) ∧ w.cell? ⟨gw, 2, none⟩ = some (.int .i64 (σ.used : Int)) ∧ w.cell? ⟨gw, 3, none⟩ = some (.int .u64 (σ.gen : Int)) ∧
    w.cell? ⟨gw, 4, none⟩ = some (.int .u64 (σ.u : Int)) ∧ w.cell? ⟨gw, 5, none⟩ = some (.slice A σ.pts.length c)) ∧ Kept w (fun k => k = gw ∨ F k) A σ.pts.length σ.pts := by
  obtain ⟨A, c, h1, h2⟩ := h.ex
  exact ⟨A, c, ⟨h1.cell 0 rfl, h1.cell 1 rfl, h1.cell 2 rfl, h1.cell 3 rfl, h1.cell 4 rfl, h1.cell 5 rfl⟩, h2⟩
end
def Sp.mark1 (σ : Sp) : Sp := if markE σ = 0 then σ.marked else σ
theorem rFresh_any (slots log : Nat) (w : World) : Calls Try.prog 30 #[.int .i64 (slots : Int), .int .i64 (log : Int)] w fun e w' =>
    e = .returned (.pointer (some ⟨w.heap.size, 0, none⟩)) ∧ Chg Nil w w' ∧ ∀ F : Nat → Prop, (∀ k, F k → k < w.heap.size) → Ref w' F w.heap.size (freshS slots log) := by
  go_enter Try.func30, Try.ntmps30
  go_wp2_with fail
  go_ret
  refine ⟨rfl, (Chg.refl _ _).alloc _, fun F hF => ⟨⟨none, 0, Bk.new _ _ _, ⟨fun _ => False, Rds.nil, fun _ h => h.elim⟩⟩, fun h => by have := hF _ h; omega⟩⟩
section
variable {w : World} {F : Nat → Prop} {gw : Nat} {σ : Sp}
theorem rRoom_any (h : Ref w F gw σ) (hp : Pok σ) : Calls Try.prog 39 #[.pointer (some ⟨gw, 0, none⟩)] w fun e w' => e = .returned (.int .i64 ((σ.log - σ.used : Nat) : Int)) ∧ Chg Nil w w' := by
  have h1 := fun nq => (by obtain ⟨A, c, hx, _⟩ := (h.nil ((Chg.refl Nil w).drewN nq)).cells; exact hx.2.1 : (w.drewN nq).cell? ⟨gw, 1, none⟩ = some (.int .i64 (σ.log : Int)))
  have h2 := fun nq => (by obtain ⟨A, c, hx, _⟩ := (h.nil ((Chg.refl Nil w).drewN nq)).cells; exact hx.2.2.1 : (w.drewN nq).cell? ⟨gw, 2, none⟩ = some (.int .i64 (σ.used : Int)))
  have hl := hp.log
  have hu := hp.used
  have hE : (σ.log : Int) - (σ.used : Int) = ((σ.log - σ.used : Nat) : Int) := by omega
  have HE := Hid.mk hE
  clear h hE hp
  generalize σ.log = LG at *
  generalize σ.used = US at *
  go_enter Try.func39, Try.ntmps39
  go_wp2_with fail
  go_quiet (fail)
  go_wp2_with fail
  go_ret
  exact ⟨by show Ending.returned (Value.int .i64 ((LG : Int) - (US : Int))) = _; rw [HE.out], (Chg.refl _ _).drewN _⟩
theorem rfits_any (size : Nat) (gen u : Nat) (A : Option Addr) (n c : Nat) (l : List Pt) (S : Nat → Prop) (w : World) (hr : RdP w S A n l) (hn : n ≤ 1000000) :
    Calls Try.prog 64 #[.int .i64 (size : Int), .agg #[.int .u64 (gen : Int), .int .u64 (u : Int), .slice A n c]] w fun e w' => e = .returned (.bool (fitsS (size : Int) ⟨gen, u, l⟩)) ∧ Chg Nil w w' := by
  have hA : Chg Nil w (w.alloc (.cells #[.int .u64 (gen : Int), .int .u64 (u : Int), .slice A n c] 78)) := (Chg.refl _ _).alloc _
  have hS := snapOk_any gen u A n c l S _ (Rds.keep hr hA (fun _ _ h => h)) (by omega)
  have hb := Bk.new w 78 #[.int .u64 (gen : Int), .int .u64 (u : Int), .slice A n c]
  have hl : ((Sn.bytes ⟨gen, u, l⟩).length : Int) = 20 + 16 * (n : Int) := by rw [Sn.len]; show ((20 + 16 * l.length : Nat) : Int) = _; rw [hr.len]; omega
  have hlt : w.heap.size < (w.alloc (.cells #[.int .u64 (gen : Int), .int .u64 (u : Int), .slice A n c] 78)).heap.size := by simp
  have HS := Hid.mk (And.intro hS (And.intro hA (And.intro hb hl)))
  have z0 := hb.cell 0 rfl
  have z1 := hb.cell 1 rfl
  have z2 := hb.cell 2 rfl
  clear hS hA hb hr hl
  go_enter Try.func64, Try.ntmps64
  go_wp2_with fail
  refine HS.out.1.mono ?_
  rintro e w1 ⟨rfl, c1⟩
  have y2 := (HS.out.2.2.1.keep c1 (fun h => h)).cell 2 rfl
  have H1 := Hid.mk (HS.out.2.1.trans c1 (fun _ _ h => h))
  clear c1 z0 z1 z2
  obtain ⟨bo, hbo⟩ : ∃ bo, bo = Sn.ok ⟨gen, u, l⟩ := ⟨_, rfl⟩
  have HB := Hid.mk hbo
  rw [← hbo]
  clear hbo
  cases bo with
  | false =>
    go_wp2_with fail
    go_ret
    refine ⟨?_, H1.out⟩
    unfold fitsS
    rw [← HB.out]
    rfl
  | true =>
    by_cases hs : 20 + 16 * n < size
    · go_wp2_with fail
      go_ret
      refine ⟨?_, H1.out⟩
      unfold fitsS
      rw [← HB.out, HS.out.2.2.2]
      have : decide ((20 : Int) + 16 * (n : Int) < (size : Int)) = true := decide_eq_true (by omega)
      rw [this]
      first | rfl | (simp; omega)
    · go_wp2_with fail
      go_ret
      refine ⟨?_, H1.out⟩
      unfold fitsS
      rw [← HB.out, HS.out.2.2.2]
      have : decide ((20 : Int) + 16 * (n : Int) < (size : Int)) = false := decide_eq_false (by omega)
      rw [this]
      first | rfl | (simp; omega)
set_option maxHeartbeats 2000000 in
set_option maxRecDepth 100000 in
theorem rMark_any (h : Ref w F gw σ) (hp : Pok σ) : Calls Try.prog 37 #[.pointer (some ⟨gw, 0, none⟩)] w fun e w' =>
    e = .returned (.int .i64 (markE σ : Int)) ∧ Chg (· = gw) w w' ∧ Ref w' F gw σ.mark1 := by
  obtain ⟨A, c, hb, hk⟩ := h.ex
  have hlen := hp.len
  have hg1 := hp.gen1
  have hg2 := hp.gen2
  have hFt := fun W (hW : Chg Nil w W) => rfits_any σ.slots (σ.gen + 1) σ.u A σ.pts.length c σ.pts _ W (hk.nil hW).rd (by omega)
  have hgi : ((σ.gen + 1 : Nat) : Int) = (σ.gen : Int) + 1 := by omega
  rw [hgi] at hFt
  have hme : markE σ = if 4611686018427387904 ≤ σ.gen then 13 else if fitsS (σ.slots : Int) ⟨σ.gen + 1, σ.u, σ.pts⟩ = true then 0 else 12 := by
    unfold markE Sp.snap
    rw [hp.broken, if_neg (by decide)]
  obtain ⟨ft, hft⟩ : ∃ ft, ft = fitsS (σ.slots : Int) ⟨σ.gen + 1, σ.u, σ.pts⟩ := ⟨_, rfl⟩
  rw [← hft] at hme hFt
  have HO := Hid.mk (And.intro h (And.intro hb (And.intro hk hme)))
  have hC : ∀ W, Chg Nil w W → W.cell? ⟨gw, 0, none⟩ = some (.int .i64 (σ.slots : Int)) ∧ W.cell? ⟨gw, 3, none⟩ = some (.int .u64 (σ.gen : Int)) ∧ W.cell? ⟨gw, 4, none⟩ = some (.int .u64 (σ.u : Int)) ∧ W.cell? ⟨gw, 5, none⟩ = some (.slice A σ.pts.length c) :=
    fun W hW => ⟨(hb.keep hW (fun h => h)).cell 0 rfl, (hb.keep hW (fun h => h)).cell 3 rfl, (hb.keep hW (fun h => h)).cell 4 rfl, (hb.keep hW (fun h => h)).cell 5 rfl⟩
  obtain ⟨G, hG⟩ : ∃ G, G = σ.gen := ⟨_, rfl⟩
  obtain ⟨U, hU⟩ : ∃ U, U = σ.u := ⟨_, rfl⟩
  obtain ⟨L, hL⟩ : ∃ L, L = σ.pts.length := ⟨_, rfl⟩
  obtain ⟨sl, hsl⟩ : ∃ sl, sl = σ.slots := ⟨_, rfl⟩
  rw [← hG, ← hU, ← hL, ← hsl] at hC hFt
  rw [← hG] at hg1 hg2
  have HE := Hid.mk (And.intro hG (And.intro hU (And.intro hL (And.intro hsl hft))))
  have HF := Hid.mk (And.intro hC hFt)
  have h3 := (hC w (Chg.refl _ _)).2.1
  clear h hb hk hme hC hFt hgi hG hU hL hsl hft hp hlen
  by_cases hgg : 4611686018427387904 ≤ G
  · have hd : decide ((4611686018427387904 : Int) ≤ (G : Int)) = true := decide_eq_true (by omega)
    have HGG := Hid.mk hgg
    clear hgg hg1 hg2
    go_enter Try.func37, Try.ntmps37
    go_wp2_with fail
    go_ret
    have hm := HO.out.2.2.2
    rw [← HE.out.1, if_pos HGG.out] at hm
    rw [show σ.mark1 = σ by unfold Sp.mark1; rw [hm, if_neg (by decide)], hm]
    exact ⟨rfl, Chg.refl _ _, HO.out.1⟩
  · have hwG : IntKind.u64.wrap ((G : Int) + 1) = (G : Int) + 1 := by rw [IntKind.wrap_u64]; omega
    have hd : decide ((4611686018427387904 : Int) ≤ (G : Int)) = false := decide_eq_false (by omega)
    have HGG := Hid.mk hgg
    clear hgg
    cases ft with
    | false =>
      go_enter Try.func37, Try.ntmps37
      go_wp2_with fail
      go_region_held3 (fun w' => w'.cell? ⟨gw, 0, none⟩ = some (.int .i64 (sl : Int)) ∧ w'.cell? ⟨gw, 3, none⟩ = some (.int .u64 (G : Int)) ∧ w'.cell? ⟨gw, 4, none⟩ = some (.int .u64 (U : Int)) ∧ w'.cell? ⟨gw, 5, none⟩ = some (.slice A L c))
        (first | exact HF.out.1 _ H1.out | exact (HF.out.1 _ (by first | exact Chg.refl Nil w | exact (Chg.refl Nil w).drew | assumption)) | go_keep) (((with_reducible refine (HF.out.2 _ (by first | exact Chg.refl Nil w | exact (Chg.refl Nil w).drew | assumption)).mono ?_); rintro e w1 ⟨rfl, c1⟩; have H1 := Hid.mk ((Chg.refl Nil w).drew.trans c1 (fun _ _ h => h)); clear c1))
      go_wp2_with fail
      go_ret
      have hm := HO.out.2.2.2
      rw [← HE.out.1, if_neg HGG.out, if_neg (by decide)] at hm
      rw [show σ.mark1 = σ by unfold Sp.mark1; rw [hm, if_neg (by decide)], hm]
      have hc := H1.out
      exact ⟨rfl, hc.wider (fun _ _ h => h.elim), HO.out.1.nil hc⟩
    | true =>
      go_enter Try.func37, Try.ntmps37
      go_wp2_with fail
      go_region_held3 (fun w' => w'.cell? ⟨gw, 0, none⟩ = some (.int .i64 (sl : Int)) ∧ w'.cell? ⟨gw, 3, none⟩ = some (.int .u64 (G : Int)) ∧ w'.cell? ⟨gw, 4, none⟩ = some (.int .u64 (U : Int)) ∧ w'.cell? ⟨gw, 5, none⟩ = some (.slice A L c))
        (first | exact HF.out.1 _ H1.out | exact (HF.out.1 _ (by first | exact Chg.refl Nil w | exact (Chg.refl Nil w).drew | assumption)) | go_keep) (((with_reducible refine (HF.out.2 _ (by first | exact Chg.refl Nil w | exact (Chg.refl Nil w).drew | assumption)).mono ?_); rintro e w1 ⟨rfl, c1⟩; have H1 := Hid.mk ((Chg.refl Nil w).drew.trans c1 (fun _ _ h => h)); clear c1))
      have hc := H1.out
      have hb1 := HO.out.2.1.keep hc (fun h => h)
      have y3 : w1.cell? ⟨gw, 3, none⟩ = some (.int .u64 (G : Int)) := by rw [HE.out.1]; exact hb1.cell 3 rfl
      have y2 : w1.cell? ⟨gw, 2, none⟩ = some (.int .i64 (σ.used : Int)) := hb1.cell 2 rfl
      have fz := fun j => hb1.free j
      have HB := Hid.mk (And.intro hc hb1)
      clear hc hb1
      go_wp2_with fail
      go_ret
      have hm := HO.out.2.2.2
      rw [← HE.out.1, if_neg HGG.out, if_pos trivial] at hm
      rw [show σ.mark1 = σ.marked by unfold Sp.mark1; rw [hm, if_pos rfl], hm]
      have c2 : Chg (· = gw) w1 ((w1.setCell ⟨gw, 3, none⟩ (.int .u64 ((G : Int) + 1))).setCell ⟨gw, 2, none⟩ (.int .i64 0)) := chgset (chg_set w1 gw 3 _) 2 _
      have b2 := (HB.out.2.set 3 (.int .u64 ((G : Int) + 1))).set 2 (.int .i64 0)
      refine ⟨rfl, (HB.out.1.wider (fun _ _ h => h.elim)).trans c2 (fun _ _ h => h), ⟨A, c, ?_, ?_⟩, HO.out.1.far⟩
      · have hg : (G : Int) + 1 = ((σ.marked.gen : Nat) : Int) := by rw [HE.out.1]; show _ = ((σ.gen + 1 : Nat) : Int); omega
        rw [hg] at b2 ⊢
        exact b2
      · exact ((HO.out.2.2.1.nil HB.out.1).gen c2 (fun _ _ h => .inl h) (fun _ _ h => h))
/-- What a batch makes of it. -/
def Sp.apply1 (σ : Sp) (ops : List Oq) : Sp := if applyE σ ops = 0 then { σ with pts := doP σ.pts ops, u := σ.u + 1, used := σ.used + ((batB ops).length + 13) } else σ
theorem apply1_no {ops : List Oq} (h : applyE σ ops ≠ 0) : σ.apply1 ops = σ := by unfold Sp.apply1; rw [if_neg h]
set_option maxHeartbeats 2000000 in
set_option maxRecDepth 100000 in
theorem rApply_any (h : Ref w F gw σ) (hp : Pok σ) (hF : ∀ k, F k → k < w.heap.size) (B : Option Addr) (m mc : Nat) (ops : List Oq) (S : Nat → Prop) (ho : RdO w S B m ops) (hmc : mc ≤ maxLen) (hm : m ≤ mc) :
    Calls Try.prog 36 #[.pointer (some ⟨gw, 0, none⟩), .slice B m mc] w fun e w' => e = .returned (.int .i64 (applyE σ ops : Int)) ∧ Chg (· = gw) w w' ∧ Ref w' F gw (σ.apply1 ops) := by
  have hm63 : m ≤ 9223372036854775807 := by unfold maxLen at hmc; omega
  have hE : applyE σ ops = if batE ops ≠ 0 then batE ops else if 2000 < (doP σ.pts ops).length then 7 else if σ.log < σ.used + ((batB ops).length + 13) ∨ 4611686018427387904 ≤ σ.u then 12 else 0 := by
    unfold applyE; rw [hp.broken, if_neg (by decide)]
  have hmay := rmay_any B m mc ops S w ho hm63
  by_cases hbe : batE ops = 0
  rotate_left
  · rw [if_pos hbe] at hE
    have HO := Hid.mk (And.intro h (And.intro hE hbe))
    have hbi : ((batE ops : Nat) : Int) ≠ 0 := by omega
    have hne : (((batE ops : Nat) : Int) == 0) = false := by rw [beq_eq_false_iff_ne]; exact hbi
    obtain ⟨E, hEE⟩ : ∃ E, E = batE ops := ⟨_, rfl⟩
    rw [← hEE] at hmay hne hbi
    have HEE := Hid.mk hEE
    clear h hE hbe hEE ho hp
    go_enter Try.func36, Try.ntmps36
    go_wp2_with fail
    refine hmay.mono ?_
    rintro e w1 ⟨rfl, c1⟩
    have H1 := Hid.mk c1
    clear c1 hmay
    go_wp2_with fail
    go_ret
    rw [apply1_no (by rw [HO.out.2.1]; exact HO.out.2.2), HO.out.2.1, ← HEE.out]
    exact ⟨rfl, H1.out.wider (fun _ _ h => h.elim), HO.out.1.nil H1.out⟩
  · have hlen := batE_len hbe
    rw [ho.len] at hlen
    have hoks := batE_ok hbe
    rw [if_neg (by omega)] at hE
    obtain ⟨A, c, hb, hk⟩ := h.ex
    have hpl := hp.len
    have hdl := do_len ops σ.pts hp.up
    rw [ho.len] at hdl
    have hAp := fun W (hW : Chg Nil w W) => rapply_any A B σ.pts.length c m mc σ.pts ops _ S W (hk.nil hW).rd (ho.keep hW (fun _ _ h => h)) (by omega) (by omega) hp.up (fun o hx => ok_kinds (hoks o hx))
    have hBt := fun W (hW : Chg Nil w W) => rbatch_any B m mc ops S W (ho.keep hW (fun _ _ h => h)) hlen (fun k o hx => hoks o (List.mem_of_getElem? hx))
    have hbl := batB_len ops
    rw [ho.len] at hbl
    have hsz : (ByteArray.mk (batB ops).toArray).size = (batB ops).length := by simp [ByteArray.size]
    have hul := hp.used
    have hll := hp.log
    have huu := hp.u
    have HO := Hid.mk (And.intro h (And.intro hb (And.intro hk (And.intro hE hF))))
    obtain ⟨L, hL⟩ : ∃ L, L = σ.pts.length := ⟨_, rfl⟩
    obtain ⟨LG, hLG⟩ : ∃ L, L = σ.log := ⟨_, rfl⟩
    obtain ⟨US, hUS⟩ : ∃ L, L = σ.used := ⟨_, rfl⟩
    obtain ⟨U, hU⟩ : ∃ L, L = σ.u := ⟨_, rfl⟩
    obtain ⟨N, hN⟩ : ∃ L, L = (batB ops).length := ⟨_, rfl⟩
    obtain ⟨Q, hQ⟩ : ∃ L, L = (doP σ.pts ops).length := ⟨_, rfl⟩
    have hC : ∀ W, Chg Nil w W → W.cell? ⟨gw, 1, none⟩ = some (.int .i64 (σ.log : Int)) ∧ W.cell? ⟨gw, 2, none⟩ = some (.int .i64 (σ.used : Int)) ∧ W.cell? ⟨gw, 4, none⟩ = some (.int .u64 (σ.u : Int)) ∧ W.cell? ⟨gw, 5, none⟩ = some (.slice A σ.pts.length c) :=
      fun W hW => ⟨(hb.keep hW (fun h => h)).cell 1 rfl, (hb.keep hW (fun h => h)).cell 2 rfl, (hb.keep hW (fun h => h)).cell 4 rfl, (hb.keep hW (fun h => h)).cell 5 rfl⟩
    rw [← hL, ← hLG, ← hUS, ← hU] at hC
    rw [← hL] at hAp hpl hdl
    rw [← hQ] at hdl hAp
    rw [← hN] at hbl hsz
    rw [← hU] at huu
    rw [← hUS, ← hLG] at hul
    rw [← hLG] at hll
    have hm0 : ((batE ops : Nat) : Int) = 0 := by rw [hbe]; rfl
    rw [hm0] at hmay
    have HE := Hid.mk (And.intro hL (And.intro hLG (And.intro hUS (And.intro hU (And.intro hN hQ)))))
    have HS := Hid.mk hsz
    have HF := Hid.mk (And.intro hC (And.intro hAp hBt))
    clear h hb hk hE hC hAp hBt hL hLG hUS hU hN hQ hm0 hbe hp hoks hsz hF ho
    go_enter Try.func36, Try.ntmps36
    go_wp2_with fail
    refine hmay.mono ?_
    rintro e w1 ⟨rfl, c1⟩
    have H1 := Hid.mk c1
    clear c1 hmay
    have y5 := (HF.out.1 w1 H1.out).2.2.2
    go_wp2_with fail
    refine (HF.out.2.1 w1 H1.out).mono ?_
    rintro e w2 ⟨v2, rfl, o2, c2⟩
    obtain ⟨A2, k2, rfl, _, _⟩ := own_form o2
    have H2 := Hid.mk (And.intro o2 (H1.out.trans c2 (fun _ _ h => h)))
    clear o2 c2 y5
    go_wp2_with fail
    refine (HF.out.2.2 w2 H2.out.2).mono ?_
    rintro e w3 ⟨rfl, c3⟩
    have H3 := Hid.mk (And.intro (own_keep H2.out.1 c3 (fun _ _ h => h)) (H2.out.2.trans c3 (fun _ _ h => h)))
    clear c3
    have hsz := HS.out
    by_cases hq : 2000 < Q
    · go_wp2_with fail
      go_ret
      have hE := HO.out.2.2.2.1
      rw [← HE.out.2.2.2.2.2, if_pos hq] at hE
      rw [apply1_no (by omega), hE]
      exact ⟨rfl, H3.out.2.wider (fun _ _ h => h.elim), HO.out.1.nil H3.out.2⟩
    · have hE := HO.out.2.2.2.1
      rw [← HE.out.2.2.2.2.2, if_neg hq, ← HE.out.2.1, ← HE.out.2.2.1, ← HE.out.2.2.2.1, ← HE.out.2.2.2.2.1] at hE
      have HEE := Hid.mk hE
      clear hE
      have x1 := fun nq => (HF.out.1 (w3.drewN nq) (H3.out.2.drewN nq)).1
      have x2 := fun nq => (HF.out.1 (w3.drewN nq) (H3.out.2.drewN nq)).2.1
      have x4 := fun nq => (HF.out.1 (w3.drewN nq) (H3.out.2.drewN nq)).2.2.1
      by_cases f1 : LG < US + (N + 13)
      · have d1 : decide ((LG : Int) - (US : Int) < (N : Int) + 13) = true := decide_eq_true (by omega)
        go_wp2_with fail
        go_quiet (fail)
        go_wp2_with fail
        go_ret
        have hE := HEE.out
        rw [if_pos (.inl f1)] at hE
        rw [apply1_no (by omega), hE]
        exact ⟨rfl, (H3.out.2.drewN _).wider (fun _ _ h => h.elim), HO.out.1.nil (H3.out.2.drewN _)⟩
      · have d1 : decide ((LG : Int) - (US : Int) < (N : Int) + 13) = false := decide_eq_false (by omega)
        by_cases f2 : 4611686018427387904 ≤ U
        · have d2 : decide ((4611686018427387904 : Int) ≤ (U : Int)) = true := decide_eq_true (by omega)
          have HF2 := Hid.mk f2
          clear f2
          go_wp2_with fail
          go_quiet (fail)
          go_wp2_with fail
          go_ret
          have hE := HEE.out
          rw [if_pos (.inr HF2.out)] at hE
          rw [apply1_no (by omega), hE]
          exact ⟨rfl, (H3.out.2.drewN _).wider (fun _ _ h => h.elim), HO.out.1.nil (H3.out.2.drewN _)⟩
        · have d2 : decide ((4611686018427387904 : Int) ≤ (U : Int)) = false := decide_eq_false (by omega)
          have HF2 := Hid.mk f2
          have hu2 : U ≤ 4611686018427387904 := by omega
          clear f2
          have hb4 := fun nq => HO.out.2.1.keep (H3.out.2.drewN nq) (fun h => h)
          have x5 := fun nq => (HF.out.1 (w3.drewN nq) (H3.out.2.drewN nq)).2.2.2
          have fz := fun nq j => (hb4 nq).free j
          have HB := Hid.mk hb4
          have hwU : IntKind.u64.wrap ((U : Int) + 1) = (U : Int) + 1 := by rw [IntKind.wrap_u64]; omega
          clear hb4
          go_wp2_with fail
          go_quiet (fail)
          go_wp2_with fail
          go_ret
          have hE := HEE.out
          rw [if_neg (by rintro (h | h); exact f1 h; exact HF2.out h)] at hE
          have hap : σ.apply1 ops = { σ with pts := doP σ.pts ops, u := σ.u + 1, used := σ.used + ((batB ops).length + 13) } := by unfold Sp.apply1; rw [if_pos hE]
          rw [hap, hE]
          have hus : (US : Int) + ((N : Int) + 13) = ((σ.used + ((batB ops).length + 13) : Nat) : Int) := by rw [HE.out.2.2.1, HE.out.2.2.2.2.1]; omega
          have huu : (U : Int) + 1 = ((σ.u + 1 : Nat) : Int) := by rw [HE.out.2.2.2.1]; omega
          rw [hus, huu, HE.out.2.2.2.2.2]
          refine ⟨rfl, ((H3.out.2.drewN _).wider (fun _ _ h => h.elim)).trans (chgset (chgset (chg_set _ gw 5 _) 2 _) 4 _) (fun _ _ h => h), ⟨A2, k2, ((((HB.out _).set 5 _).set 2 _).set 4 _), ?_⟩, HO.out.1.far⟩
          have hlow := H1.out.size
          have hgl := HO.out.1.lt
          have h31 := H3.out.1
          rw [HE.out.2.2.2.2.2] at h31
          have hK : Kept w3 (fun k => k = gw ∨ F k) A2 (doP σ.pts ops).length (doP σ.pts ops) := Kept.new (B := w1.heap.size) (Rds.wider (Rds.of_own h31) (fun k _ hk => own_ge h31 k hk) (by omega)) (fun k hk => hk.elim (fun h => by rw [h]; omega) (fun h => by have := HO.out.2.2.2.2 k h; omega))
          exact hK.gen (chgset (chgset (chgset ((Chg.refl (· = gw) w3).drewN _) 5 _) 2 _) 4 _) (fun _ _ h => .inl h) (fun _ _ h => h)
end
section
variable {w0 w w' : World} {gs gd gw : Nat} {M R N M' R' : Nat → Prop} {σ : Sp} {D : Dp}
theorem Ref.wentS (h : Ref w (fun k => M k ∨ k = gs) gw σ) (hw : WentS w w' gs M R M' R') : Ref w' (fun k => M' k ∨ k = gs) gw σ :=
  h.gen hw.chg (fun _ _ h => h) (fun k hk h => h.imp (hw.m k hk) id)
set_option maxHeartbeats 2000000 in
set_option maxRecDepth 100000 in
theorem same15_any {F : Nat → Prop} (h : Run w0 w gs gd M R N σ D) (hr : Ref w F gw σ) (hp : Pok σ) :
    Calls Try.prog 32 #[.pointer (some ⟨gs, 0, none⟩), .pointer (some ⟨gw, 0, none⟩)] w fun e w' => e = .returned (.bool true) ∧ Chg Nil w w' := by
  obtain ⟨A, c, hb, hk⟩ := hr.ex
  have hlen := hp.len
  have hC : ∀ W, Chg Nil w W → W.cell? ⟨gw, 5, none⟩ = some (.slice A σ.pts.length c) ∧ W.cell? ⟨gw, 4, none⟩ = some (.int .u64 (σ.u : Int)) ∧ W.cell? ⟨gw, 3, none⟩ = some (.int .u64 (σ.gen : Int)) :=
    fun W hW => ⟨(hb.keep hW (fun h => h)).cell 5 rfl, (hb.keep hW (fun h => h)).cell 4 rfl, (hb.keep hW (fun h => h)).cell 3 rfl⟩
  have hP := fun W (hW : Chg Nil w W) => (h.nil hW).pointsC
  have hSP := fun W A1 k1 (hW : Chg Nil w W) (q : RdP W (fun _ => True) A1 σ.pts.length σ.pts) => samePts_any A1 A σ.pts.length k1 c σ.pts _ _ W q (hk.nil hW).rd (by omega)
  have hU := fun W (hW : Chg Nil w W) => (h.nil hW).uC
  have hG := fun W (hW : Chg Nil w W) => (h.nil hW).genC
  have hR := fun W (hW : Chg Nil w W) => (h.nil hW).roomC
  have hR2 := fun W (hW : Chg Nil w W) => rRoom_any (hr.nil hW) hp
  obtain ⟨l, hl⟩ : ∃ l, l = σ.pts := ⟨_, rfl⟩
  obtain ⟨L, hL⟩ : ∃ L, L = l.length := ⟨_, rfl⟩
  obtain ⟨U, hUe⟩ : ∃ L, L = σ.u := ⟨_, rfl⟩
  obtain ⟨G, hGe⟩ : ∃ L, L = σ.gen := ⟨_, rfl⟩
  obtain ⟨Rm, hRe⟩ : ∃ L, L = σ.log - σ.used := ⟨_, rfl⟩
  rw [← hl, ← hL] at hP hSP hC
  rw [← hUe, ← hGe] at hC
  rw [← hUe] at hU
  rw [← hGe] at hG
  rw [← hRe] at hR hR2
  have HF := Hid.mk (And.intro hC (And.intro hP (And.intro hSP (And.intro hU (And.intro hG (And.intro hR hR2))))))
  clear hC hP hSP hU hG hR hR2 hl hL hUe hGe hRe h hr hp hb hk hlen
  go_enter Try.func32, Try.ntmps32
  go_wp2_with fail
  go_region_held3 (fun w' => w'.cell? ⟨gw, 5, none⟩ = some (.slice A L c) ∧ w'.cell? ⟨gw, 4, none⟩ = some (.int .u64 (U : Int)) ∧ w'.cell? ⟨gw, 3, none⟩ = some (.int .u64 (G : Int)))
    (first | exact HF.out.1 _ H6.out | exact HF.out.1 _ H5.out | exact HF.out.1 _ H2.out | exact HF.out.1 _ H1.out.1 | exact HF.out.1 _ (by first | exact (Chg.refl Nil w).drew | exact Chg.refl Nil w) | go_keep)
    (first
      | ((with_reducible refine (HF.out.2.1 _ (by first | exact (Chg.refl Nil w).drew | exact Chg.refl Nil w)).mono ?_); rintro e w1 ⟨A1, k1, rfl, q0, q1, c1⟩; have H1 := Hid.mk (And.intro ((Chg.refl Nil w).drew.trans c1 (fun _ _ h => h)) q0.rd); clear c1 q0 q1)
      | ((with_reducible refine (HF.out.2.2.1 _ _ _ H1.out.1 H1.out.2).mono ?_); rintro e w2 ⟨rfl, c2⟩; have H2 := Hid.mk (H1.out.1.trans c2 (fun _ _ h => h)); clear c2)
      | ((with_reducible refine (HF.out.2.2.2.1 _ H2.out).mono ?_); rintro e w3 ⟨rfl, he⟩; have he' := he.symm; subst he'; clear he)
      | ((with_reducible refine (HF.out.2.2.2.2.1 _ H2.out).mono ?_); rintro e w3 ⟨rfl, he⟩; have he' := he.symm; subst he'; clear he)
      | ((with_reducible refine (HF.out.2.2.2.2.2.1 _ H2.out).mono ?_); rintro e w5 ⟨rfl, c5⟩; have H5 := Hid.mk (H2.out.trans c5 (fun _ _ h => h)); clear c5)
      | ((with_reducible refine (HF.out.2.2.2.2.2.2 _ H5.out).mono ?_); rintro e w6 ⟨rfl, c6⟩; have H6 := Hid.mk (H5.out.trans c6 (fun _ _ h => h)); clear c6))
  go_wp2_with fail
  go_ret
  exact ⟨rfl, H6.out⟩
end

end Go.Proofs.Ytanipieeegeheaa
