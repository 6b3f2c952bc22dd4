/- Joined for this seat from: XStI. -/
import Derived.Test.YtanipieeegeheaaTa
namespace Go.Proofs.Ytanipieeegeheaa
open Go.RowKit

section
variable {w : World} {gs gd : Nat} {M R N : Nat → Prop} {A : Option Addr} {c : Nat} {σ : Sp} {d : Dp}
def Pt.agg (p : Pt) : Value := .agg #[.int .i64 p.key, .int .i64 p.x, .int .i64 p.y, .int .i64 p.v]
def pointP (l : List Pt) (k : Int) : Pt := if hasP l k then (l[posP l k]?).getD ⟨0, 0, 0, 0⟩ else ⟨0, 0, 0, 0⟩
set_option maxHeartbeats 1000000 in
set_option maxRecDepth 100000 in
theorem stPoint_any (h : StAt w gs gd M R N A c σ d) (k : Int) :
    Calls Try.prog 33 #[.pointer (some ⟨gs, 0, none⟩), .int .i64 k] w fun e w' => e = .returned (.tuple #[(pointP σ.pts k).agg, .bool (hasP σ.pts k)]) ∧ Chg Nil w w' := by
  have h0 : Chg Nil w (w.alloc (.cells #[.int .i64 0, .int .i64 0, .int .i64 0, .int .i64 0] 30)) := (Chg.refl _ _).alloc _
  have h6 := (h.nil h0).cells.2.2.2.2.2.2.1
  have h6a := fun W (hW : Chg Nil w W) => (h.nil hW).cells.2.2.2.2.2.2.1
  have hf := find_any A σ.pts.length c σ.pts k _ _ (h.nil h0).kept.rd (by have := h.ok.len; omega) h.ok.up
  have hb0 := Bk.new w 30 #[.int .i64 0, .int .i64 0, .int .i64 0, .int .i64 0]
  have hk0 := h.kept.rd
  have hlt := h.bk.lt
  have hl20 := h.ok.len
  obtain ⟨P, hP⟩ : ∃ P, P = σ.pts := ⟨_, rfl⟩
  rw [← hP] at h6 hf hk0 hl20 h6a ⊢
  have HF := Hid.mk (And.intro hf (And.intro h0 hb0))
  have HSt := Hid.mk h
  clear h hf h0 hb0 hP
  generalize hps : posP P k = ps at *
  cases hh : hasP P k with
  | true =>
    have hpl := hasP_lt hh
    rw [hps] at hpl
    have hpt : pointP P k = P[ps] := by unfold pointP; rw [if_pos hh, hps, List.getElem?_eq_getElem hpl]; rfl
    rw [hh] at HF
    rw [hpt]
    obtain ⟨q, hq⟩ : ∃ q, q = P[ps] := ⟨_, rfl⟩
    rw [← hq]
    obtain ⟨qk, qx, qy, qv⟩ := q
    obtain ⟨b, off, hA, _, hx⟩ := RdP.at4 hk0 (by omega)
    subst hA
    have hat := fun W hW => hx W hW ps qk qx qy qv (by rw [hq]; exact List.getElem?_eq_getElem hpl)
    have HQ := Hid.mk hat
    clear hx hat hq hpt hk0 hh hps
    obtain ⟨PL, hPL⟩ : ∃ PL, PL = P.length := ⟨_, rfl⟩
    rw [← hPL] at hpl h6 hl20 HF h6a
    have H6a := Hid.mk h6a
    clear hPL h6a
    go_enter Try.func33, Try.ntmps33
    go_wp2_with fail
    refine HF.out.1.mono ?_
    rintro e w1 ⟨rfl, c1⟩
    have hb1 := HF.out.2.2.keep c1 (fun h => h)
    have h01 := HF.out.2.1.trans c1 (fun _ _ h => h)
    have H1 := Hid.mk h01
    have h61 := H6a.out w1 h01
    obtain ⟨q0, q1, q2, q3⟩ := HQ.out w1 h01
    have f0 := hb1.free 0
    have f1 := hb1.free 1
    have f2 := hb1.free 2
    have f3 := hb1.free 3
    have z0 := hb1.cell 0 rfl
    have z1 := hb1.cell 1 rfl
    have z2 := hb1.cell 2 rfl
    have z3 := hb1.cell 3 rfl
    clear c1 hb1 h01
    go_wp2_with fail
    have hcw : Chg (· = w.heap.size) w1 ((((w1.setCell ⟨w.heap.size, 0, none⟩ (.int .i64 qk)).setCell ⟨w.heap.size, 1, none⟩ (.int .i64 qx)).setCell ⟨w.heap.size, 2, none⟩ (.int .i64 qy)).setCell ⟨w.heap.size, 3, none⟩ (.int .i64 qv)) := chgset (chgset (chgset (chgset (Chg.refl _ _) _ _) _ _) _ _) _ _
    exact bodyPost_ret (v := .tuple #[.agg #[.int .i64 qk, .int .i64 qx, .int .i64 qy, .int .i64 qv], .bool true]) (by simp [results, Try.results33, go_sem, z0, z1, z2, z3]) rfl ⟨rfl, H1.out.trans hcw (fun i hi hh => by omega)⟩
  | false =>
    have hpt : pointP P k = ⟨0, 0, 0, 0⟩ := by unfold pointP; rw [if_neg (by rw [hh]; decide)]
    rw [hh] at HF
    rw [hpt]
    clear hk0 h6a
    go_enter Try.func33, Try.ntmps33
    go_wp2_with fail
    refine HF.out.1.mono ?_
    rintro e w1 ⟨rfl, c1⟩
    have hb1 := HF.out.2.2.keep c1 (fun h => h)
    have H1 := Hid.mk (HF.out.2.1.trans c1 (fun _ _ h => h))
    have f0 := hb1.free 0
    have f1 := hb1.free 1
    have f2 := hb1.free 2
    have f3 := hb1.free 3
    have z0 := hb1.cell 0 rfl
    have z1 := hb1.cell 1 rfl
    have z2 := hb1.cell 2 rfl
    have z3 := hb1.cell 3 rfl
    clear c1 hb1
    go_wp2_with fail
    exact bodyPost_ret (v := .tuple #[.agg #[.int .i64 0, .int .i64 0, .int .i64 0, .int .i64 0], .bool false]) (by simp [results, Try.results33, go_sem, z0, z1, z2, z3]) rfl ⟨rfl, H1.out.trans (chgset (chgset (chgset (chgset (Chg.refl _ _) _ _) _ _) _ _) _ _ : Chg (· = w.heap.size) w1 _) (fun i hi hh => by omega)⟩
theorem few15_any (k s o q : Int) (B : Option Addr) (n c : Nat) (hn : n ≤ 9223372036854775807) : Calls Try.prog 28 #[.agg #[.int .i64 k, .int .i64 s, .int .i64 o, .int .i64 q, .slice B n c]] w fun e w' => e = .returned (.bool (decide (n ≤ 60))) ∧ Chg Nil w w' := by
  have hd : decide ((n : Int) ≤ 60) = decide (n ≤ 60) := by
    by_cases h : n ≤ 60
    · rw [decide_eq_true h]; exact decide_eq_true (by omega)
    · rw [decide_eq_false h]; exact decide_eq_false (by omega)
  go_enter Try.func28, Try.ntmps28
  go_wp2_with fail
  go_ret
  exact ⟨by rw [← hd]; rfl, (Chg.refl _ _).alloc _⟩
end

end Go.Proofs.Ytanipieeegeheaa
