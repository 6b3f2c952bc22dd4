/- Joined for this seat from: XStT. -/
import Derived.Deep.RegionHeld3
import Derived.Deep.CutRange
import Derived.Test.YtanipieeegeheaaTg
namespace Go.Proofs.Ytanipieeegeheaa
open Go.RowKit

section
variable {w0 w w' : World} {gs gd gw : Nat} {M R N M' R' : Nat → Prop} {σ : Sp} {D : Dp}
/-- What an act makes of a store on a disk that does not fail. -/
def actP (σ : Sp) (D : Dp) (kd : Int) (ops : List Oq) : Sp × Dp × Nat := if kd = 0 then applyP σ D ops else if kd = 2 then markP σ D else syncP σ D
theorem actP_0 (σ : Sp) (D : Dp) (ops : List Oq) : actP σ D 0 ops = applyP σ D ops := by unfold actP; rw [if_pos rfl]
theorem actP_2 (σ : Sp) (D : Dp) (ops : List Oq) : actP σ D 2 ops = markP σ D := by unfold actP; rw [if_neg (by decide), if_pos rfl]
theorem actP_x {kd : Int} (σ : Sp) (D : Dp) (ops : List Oq) (h0 : kd ≠ 0) (h2 : kd ≠ 2) : actP σ D kd ops = syncP σ D := by unfold actP; rw [if_neg h0, if_neg h2]
theorem apply1_live {s l : Nat} (h : Gd s l σ D) (ops : List Oq) : (applyP σ D ops).1 = σ.apply1 ops ∧ (applyP σ D ops).2.2 = applyE σ ops := by
  by_cases he : applyE σ ops = 0
  · rw [applyP_zero he h.free.dead, he]
    unfold Sp.apply1
    rw [if_pos he]
    exact ⟨rfl, rfl⟩
  · rw [applyP_no he, apply1_no he]
    exact ⟨rfl, rfl⟩
theorem mark1_live {s l : Nat} (h : Gd s l σ D) : (markP σ D).1 = σ.mark1 ∧ (markP σ D).2.2 = markE σ := by
  unfold Sp.mark1
  rcases h.mark.2 with ⟨he, hp⟩ | ⟨he, h0, hm, _⟩
  · rw [if_neg he, hp]; exact ⟨rfl, rfl⟩
  · rw [if_pos he, hm, h0, he]; exact ⟨rfl, rfl⟩
theorem Gd.act {s l : Nat} (h : Gd s l σ D) (kd : Int) (ops : List Oq) : Gd s l (actP σ D kd ops).1 (actP σ D kd ops).2.1 := by
  unfold actP
  split
  · exact h.apply ops
  · split
    · exact h.mark.1
    · exact h.sync
/-- A store and the document's beside it. -/
structure Duo (w0 w : World) (gs gd gw : Nat) (σ : Sp) (D : Dp) : Prop where
  ex : ∃ M R N, Run w0 w gs gd M R N σ D ∧ Ref w (fun k => M k ∨ k = gs) gw σ ∧ N gw ∧ w0.heap.size ≤ gw
section
variable {s l : Nat}
theorem Duo.nil (h : Duo w0 w gs gd gw σ D) (hc : Chg Nil w w') : Duo w0 w' gs gd gw σ D := by
  obtain ⟨M, R, N, rn, rf, hN, hl⟩ := h.ex
  exact ⟨M, R, N, rn.nil hc, rf.nil hc, hN, hl⟩
theorem Duo.chg (h : Duo w0 w gs gd gw σ D) : Chg Nil w0 w := by
  obtain ⟨M, R, N, rn, rf, hN, hl⟩ := h.ex
  exact rn.chg
theorem Duo.ok (h : Duo w0 w gs gd gw σ D) : Sok σ D ∧ D.ok := by
  obtain ⟨M, R, N, rn, rf, hN, hl⟩ := h.ex
  exact ⟨rn.st.ok, rn.st.dk.ok⟩
set_option maxHeartbeats 4000000 in
set_option maxRecDepth 100000 in
theorem do15_any (h : Duo w0 w gs gd gw σ D) (g : Gd s l σ D) (kd sp op kp : Int) (B : Option Addr) (bc : Nat) (ops : List Oq) (ho : RdO w (fun k => k < w0.heap.size) B ops.length ops) (hoc : ops.length ≤ bc) (hcm : bc ≤ maxLen) :
    Calls Try.prog 31 #[.pointer (some ⟨gs, 0, none⟩), .pointer (some ⟨gw, 0, none⟩), .agg #[.int .i64 kd, .int .i64 sp, .int .i64 op, .int .i64 kp, .slice B ops.length bc]] w fun e w' =>
      e = .returned (.bool true) ∧ Duo w0 w' gs gd gw (actP σ D kd ops).1 (actP σ D kd ops).2.1 := by
  obtain ⟨hok, hdk⟩ := h.ok
  have hfew := g.few hdk
  have hp := hok.pok hdk g.unbroken
  have hbx := Bk.new w 56 #[.int .i64 kd, .int .i64 sp, .int .i64 op, .int .i64 kp, .slice B ops.length bc]
  have hcx : Chg Nil w (w.alloc (.cells #[.int .i64 kd, .int .i64 sp, .int .i64 op, .int .i64 kp, .slice B ops.length bc] 56)) := (Chg.refl _ _).alloc _
  have hgl : w.heap.size < (w.alloc (.cells #[.int .i64 kd, .int .i64 sp, .int .i64 op, .int .i64 kp, .slice B ops.length bc] 56)).heap.size := by simp
  obtain ⟨ga, hga⟩ : ∃ ga, ga = w.heap.size := ⟨_, rfl⟩
  by_cases k0 : kd = 0
  · subst k0
    obtain ⟨a1, a2⟩ := apply1_live g ops
    obtain ⟨M, R, N, rn, rf, hN, hl⟩ := h.ex
    have hF0 : ∀ k, (M k ∨ k = gs) → k < w.heap.size := fun k hk => by
      obtain ⟨A, c, st⟩ := rn.st
      exact hk.elim (fun h => st.dk.lt k (.inl h)) (fun h => by rw [h]; exact st.bk.lt)
    have hgwl := rf.lt
    have hfar : ¬ (M ga ∨ ga = gs) := fun h => by have := hF0 ga h; omega
    have hgg : ga ≠ gw := by omega
    have hres : applyP σ D ops = (σ.apply1 ops, (applyP σ D ops).2.1, applyE σ ops) := Prod.ext a1 (Prod.ext rfl a2)
    rw [actP_0, hres]
    rw [← hga] at hbx hgl
    have hA := fun W (hW : Chg Nil (w.alloc (.cells #[.int .i64 0, .int .i64 sp, .int .i64 op, .int .i64 kp, .slice B ops.length bc] 56)) W) => (rn.nil (hcx.trans hW (fun _ _ h => h))).applyC B ops.length bc ops (ho.keep (hcx.trans hW (fun _ _ h => h)) (fun _ _ h => h)) hoc hcm hfew
    rw [hres] at hA
    simp only at hA
    generalize (applyP σ D ops).2.1 = D2 at *
    have y0 : (w.alloc (.cells #[.int .i64 0, .int .i64 sp, .int .i64 op, .int .i64 kp, .slice B ops.length bc] 56)).cell? ⟨ga, 0, none⟩ = some (.int .i64 0) := hbx.cell 0 rfl
    have hlow := rn.low
    have HX := Hid.mk (And.intro rn (And.intro rf (And.intro hN (And.intro hl (And.intro hcx (And.intro hbx (And.intro hfar (And.intro hgg (And.intro hA (And.intro ho (And.intro hoc (And.intro hcm (And.intro hp hlow)))))))))))))
    obtain ⟨L, hL⟩ : ∃ L, L = ops.length := ⟨_, rfl⟩
    have HL := Hid.mk hL
    have hB : ∀ W, Chg Nil (w.alloc (.cells #[.int .i64 0, .int .i64 sp, .int .i64 op, .int .i64 kp, .slice B ops.length bc] 56)) W → W.cell? ⟨ga, 4, none⟩ = some (.slice B ops.length bc) := fun W hW => (hbx.keep hW (fun h => h)).cell 4 rfl
    have HB := Hid.mk hB
    have HGA := Hid.mk hga
    clear hB rn rf hN hl hcx hbx hfar hgg hA ho hoc hcm hp hF0 hgwl h hok hdk g hres hfew a1 a2 hgl hL hlow hga
    go_enter Try.func31, Try.ntmps31
    go_upto_region 1 with fail
    rw [← HGA.out]
    generalize w.alloc (.cells #[.int .i64 0, .int .i64 sp, .int .i64 op, .int .i64 kp, .slice B ops.length bc] 56) = wa at *
    go_wp2_with fail
    go_region_held3 (fun w' => w'.cell? ⟨ga, 4, none⟩ = some (.slice B ops.length bc))
      (first | exact H3.out.1.cell 4 rfl | exact H2.out.2.2.cell 4 rfl | exact HB.out _ (by first | exact (Chg.refl Nil wa).drew | exact Chg.refl Nil wa) | go_keep)
      (first
        | ((with_reducible refine (HX.out.2.2.2.2.2.2.2.2.1 _ (by first | exact (Chg.refl Nil wa).drew | exact Chg.refl Nil wa)).mono ?_); rintro e w2 ⟨M2, R2, rfl, r2, hw2⟩; have H2 := Hid.mk (And.intro r2 (And.intro (((HX.out.2.1.nil HX.out.2.2.2.2.1).nil (Chg.refl Nil wa).drew).wentS hw2) ((HX.out.2.2.2.2.2.1.drew).keep hw2.chg HX.out.2.2.2.2.2.2.1))); have HO := Hid.mk ((((HX.out.2.2.2.2.2.2.2.2.2.1.keep HX.out.2.2.2.2.1 (fun _ _ h => h)).keep (Chg.refl Nil wa).drew (fun _ _ h => h)).keep hw2.chg (fun k hk hm => hm.elim (fun hm => by have := HX.out.2.2.2.2.2.2.2.2.2.2.2.2.2 k (.inl hm); omega) (fun hm => by have := HX.out.2.2.2.2.2.2.2.2.2.2.2.2.2 k (.inr (.inr hm)); omega)))); have HAp := Hid.mk (rApply_any H2.out.2.1 HX.out.2.2.2.2.2.2.2.2.2.2.2.2.1 (fun k hk => by obtain ⟨_, _, st⟩ := H2.out.1.st; exact hk.elim (fun h => st.dk.lt k (.inl h)) (fun h => by rw [h]; exact st.bk.lt)) B ops.length bc ops _ HO.out HX.out.2.2.2.2.2.2.2.2.2.2.2.1 HX.out.2.2.2.2.2.2.2.2.2.2.1); clear r2 hw2)
        | ((with_reducible refine HAp.out.mono ?_); rintro e w3 ⟨rfl, c3, f3⟩; have H3 := Hid.mk (And.intro (H2.out.2.2.keep c3 HX.out.2.2.2.2.2.2.2.1) (show Duo w0 w3 gs gd gw (σ.apply1 ops) D2 from ⟨M2, R2, N, H2.out.1.other c3 (fun k _ hk => by rw [hk]; exact HX.out.2.2.1) (fun k hk => by rw [hk]; exact HX.out.2.2.2.1), f3, HX.out.2.2.1, HX.out.2.2.2.1⟩)); clear c3 f3))
    go_wp2_with fail
    go_ret
    exact ⟨rfl, H3.out.2⟩
  · by_cases k2 : kd = 2
    · subst k2
      obtain ⟨a1, a2⟩ := mark1_live g
      obtain ⟨M, R, N, rn, rf, hN, hl⟩ := h.ex
      have hres : markP σ D = (σ.mark1, (markP σ D).2.1, markE σ) := Prod.ext a1 (Prod.ext rfl a2)
      rw [actP_2, hres]
      have hA := (rn.nil hcx).markC hfew
      rw [hres] at hA
      simp only at hA
      generalize (markP σ D).2.1 = D2 at *
      have y0 : (w.alloc (.cells #[.int .i64 2, .int .i64 sp, .int .i64 op, .int .i64 kp, .slice B ops.length bc] 56)).cell? ⟨w.heap.size, 0, none⟩ = some (.int .i64 2) := hbx.cell 0 rfl
      have HX := Hid.mk (And.intro hA (And.intro (rf.nil hcx) (And.intro hN (And.intro hl hp))))
      clear rn rf hN hl hcx hbx hA ho hoc hcm hp h hok hdk g hres hfew a1 a2 hgl hga
      go_enter Try.func31, Try.ntmps31
      go_wp2_with fail
      refine HX.out.1.mono ?_
      rintro e w2 ⟨M2, R2, rfl, r2, hw2⟩
      have H2 := Hid.mk (And.intro r2 (HX.out.2.1.wentS hw2))
      clear r2 hw2
      go_wp2_with fail
      refine (rMark_any H2.out.2 HX.out.2.2.2.2).mono ?_
      rintro e w3 ⟨rfl, c3, f3⟩
      have H3 := Hid.mk (show Duo w0 w3 gs gd gw σ.mark1 D2 from ⟨M2, R2, N, H2.out.1.other c3 (fun k _ hk => by rw [hk]; exact HX.out.2.2.1) (fun k hk => by rw [hk]; exact HX.out.2.2.2.1), f3, HX.out.2.2.1, HX.out.2.2.2.1⟩)
      clear c3 f3
      go_wp2_with fail
      go_ret
      exact ⟨rfl, H3.out⟩
    · have hs := syncP_live g
      rw [actP_x _ _ _ k0 k2, hs]
      have e0 : (kd == 0) = false := by rw [beq_eq_false_iff_ne]; exact k0
      have e2 : (kd == 2) = false := by rw [beq_eq_false_iff_ne]; exact k2
      have y0 := hbx.cell 0 rfl
      have HH := Hid.mk (And.intro h (And.intro hcx hs))
      clear h hcx hs hbx ho hok hdk hp hoc hcm hga
      go_enter Try.func31, Try.ntmps31
      go_wp2_with fail
      obtain ⟨M, R, N, rn, rf, hN, hl⟩ := (HH.out.1.nil HH.out.2.1).ex
      have hsy := rn.syncC
      rw [HH.out.2.2] at hsy
      have H1 := Hid.mk (And.intro rf (And.intro hN hl))
      clear rn rf hN hl
      refine hsy.mono ?_
      rintro e w2 ⟨rfl, r2, hw2⟩
      have H2 := Hid.mk (show Duo w0 w2 gs gd gw σ D.sync from ⟨M, R, N, r2, H1.out.1.wentS hw2, H1.out.2.1, H1.out.2.2⟩)
      clear hsy r2 hw2
      go_wp2_with fail
      go_ret
      exact ⟨rfl, H2.out⟩
end
end

end Go.Proofs.Ytanipieeegeheaa
