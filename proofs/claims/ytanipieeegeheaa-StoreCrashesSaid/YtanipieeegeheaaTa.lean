/- Joined for this seat from: XStH. -/
import Derived.Test.YtanipieeegeheaaSz
namespace Go.Proofs.Ytanipieeegeheaa
open Go.RowKit

theorem slotW_res (d : Dp) (p : Nat) (b : List UInt8) : (slotW d p b).2 = 0 ∨ (slotW d p b).2 = 9 := by
  unfold slotW
  split
  · exact stepW_res _ _ _
  · split
    · exact stepW_res _ _ _
    · exact stepW_res _ _ _
theorem slotW_waits {d : Dp} {p : Nat} {b : List UInt8} (h : (slotW d p b).2 = 0) : (slotW d p b).1.waits = [] := by
  unfold slotW at *
  split at h
  · rename_i h1; exact absurd h h1
  · rename_i h1
    rw [if_neg h1]
    split at h
    · rename_i h2; exact absurd h h2
    · rename_i h2; rw [if_neg h2]; exact stepW_waits h
theorem StAt.mkd {w : World} {gs gd : Nat} {M R N : Nat → Prop} {A : Option Addr} {c : Nat} {σ : Sp} {d : Dp} (h : StAt w gs gd M R N A c σ d) (hg : σ.gen < 4611686018427387904) (t : Int) (ht : t = (σ.to : Int)) :
    Chg (· = gs) w (((w.setCell ⟨gs, 4, none⟩ (.int .u64 ((σ.gen : Int) + 1))).setCell ⟨gs, 3, none⟩ (.int .i64 t)).setCell ⟨gs, 7, none⟩ (.int .i64 0)) ∧
    StAt (((w.setCell ⟨gs, 4, none⟩ (.int .u64 ((σ.gen : Int) + 1))).setCell ⟨gs, 3, none⟩ (.int .i64 t)).setCell ⟨gs, 7, none⟩ (.int .i64 0)) gs gd M R N A c σ.marked d := by
  have hc : Chg (· = gs) w (((w.setCell ⟨gs, 4, none⟩ (.int .u64 ((σ.gen : Int) + 1))).setCell ⟨gs, 3, none⟩ (.int .i64 t)).setCell ⟨gs, 7, none⟩ (.int .i64 0)) := chgset (chgset (chgset (Chg.refl _ _) _ _) _ _) _ _
  refine ⟨hc, h.wrote hc ?_ h.kept { h.ok with gen1 := by show 1 ≤ σ.gen + 1; omega, gen2 := by show σ.gen + 1 ≤ _; omega, used := Nat.zero_le _, from_ := by show (σ.to : Int) = -1 ∨ (σ.to : Int) = 0 ∨ (σ.to : Int) = 1; unfold Sp.to; split <;> simp }⟩
  have := ((h.bk.set 4 (.int .u64 ((σ.gen : Int) + 1))).set 3 (.int .i64 t)).set 7 (.int .i64 0)
  subst ht
  exact this
section
variable {w : World} {gs gd : Nat} {M R N : Nat → Prop} {A : Option Addr} {c : Nat} {σ : Sp} {d : Dp}
set_option maxHeartbeats 4000000 in
set_option maxRecDepth 100000 in
theorem stMark_any (h : StAt w gs gd M R N A c σ d) (hlong : d.waits.length ≤ 1000000) :
    Calls Try.prog 29 #[.pointer (some ⟨gs, 0, none⟩)] w fun e w' => StIs w gs gd M R N (markP σ d) e w' := by
  have h8 := h.cells.2.2.2.2.2.2.2.2
  have h4 := h.cells.2.2.2.2.1
  cases hb : σ.broken with
  | true =>
    rw [hb] at h8
    have hp : markP σ d = (σ, d, 9) := by unfold markP markE; rw [hb]; rfl
    rw [hp]
    have HH := Hid.mk h
    clear h hb hp h4
    go_enter Try.func29, Try.ntmps29
    go_wp2_with fail
    go_ret
    exact ⟨M, R, rfl, WentS.refl _ _ _ _, A, c, HH.out⟩
  | false =>
    rw [hb] at h8
    by_cases hg : 4611686018427387904 ≤ σ.gen
    · have hp : markP σ d = (σ, d, 13) := by unfold markP markE; rw [hb, if_pos hg]; rfl
      rw [hp]
      have HH := Hid.mk h
      clear h hb hp
      obtain ⟨G, hG⟩ : ∃ G, G = σ.gen := ⟨_, rfl⟩
      rw [← hG] at hg h4
      have hd : decide ((4611686018427387904 : Int) ≤ (G : Int)) = true := decide_eq_true (by omega)
      clear hG
      go_enter Try.func29, Try.ntmps29
      go_wp2_with fail
      go_ret
      exact ⟨M, R, rfl, WentS.refl _ _ _ _, A, c, HH.out⟩
    · have hme : markE σ = if fitsS (σ.slots : Int) σ.snap then 0 else 12 := by unfold markE; rw [hb, if_neg (by decide), if_neg hg]
      have hC := fun W (hW : Chg Nil w W) => (h.nil hW).cells
      have hF := fun W (hW : Chg Nil w W) => sfits_any (σ.slots : Int) (σ.gen + 1) σ.u A σ.pts.length c σ.pts _ W (h.nil hW).kept.rd (by have := h.ok.len; omega)
      have hfs : fitsS (σ.slots : Int) ⟨σ.gen + 1, σ.u, σ.pts⟩ = fitsS (σ.slots : Int) σ.snap := rfl
      rw [hfs] at hF
      have hg1 := h.ok.gen1
      have hsm := h.ok.small h.dk.ok
      obtain ⟨G, hG⟩ : ∃ G, G = σ.gen := ⟨_, rfl⟩
      obtain ⟨U, hU⟩ : ∃ U, U = σ.u := ⟨_, rfl⟩
      obtain ⟨L, hL⟩ : ∃ L, L = σ.pts.length := ⟨_, rfl⟩
      obtain ⟨sl, hsl⟩ : ∃ sl, sl = σ.slots := ⟨_, rfl⟩
      obtain ⟨ft, hft⟩ : ∃ ft, ft = fitsS (σ.slots : Int) σ.snap := ⟨_, rfl⟩
      have hF2 : ∀ W, Chg Nil w W → Calls Try.prog 58 #[.int .i64 (sl : Int), .agg #[.int .u64 ((G : Int) + 1), .int .u64 (U : Int), .slice A L c]] W fun e w' => e = .returned (.bool ft) ∧ Chg Nil W w' := fun W hW => by
        rw [hsl, hG, hU, hL, hft]; exact hF W hW
      have hC2 : ∀ W, Chg Nil w W → W.cell? ⟨gs, 1, none⟩ = some (.int .i64 (sl : Int)) ∧ W.cell? ⟨gs, 4, none⟩ = some (.int .u64 (G : Int)) ∧ W.cell? ⟨gs, 5, none⟩ = some (.int .u64 (U : Int)) ∧ W.cell? ⟨gs, 6, none⟩ = some (.slice A L c) := fun W hW => by
        rw [hsl, hG, hU, hL]; exact ⟨(hC W hW).2.1, (hC W hW).2.2.2.2.1, (hC W hW).2.2.2.2.2.1, (hC W hW).2.2.2.2.2.2.1⟩
      rw [← hG] at hg h4 hg1
      rw [← hft] at hme
      have hd : decide ((4611686018427387904 : Int) ≤ (G : Int)) = false := decide_eq_false (by omega)
      have hwG : IntKind.u64.wrap ((G : Int) + 1) = (G : Int) + 1 := by rw [IntKind.wrap_u64]; omega
      have HH := Hid.mk (And.intro h (And.intro hC (And.intro hC2 (And.intro hF2 (And.intro hme (And.intro hsm hlong))))))
      have HE := Hid.mk (And.intro hG (And.intro hU (And.intro hL (And.intro hsl hft))))
      clear h hC hC2 hF hF2 hme hsm hlong hG hU hL hsl hft hfs hb
      go_enter Try.func29, Try.ntmps29
      go_wp2_with fail
      go_region_held3 (fun w' => w'.cell? ⟨gs, 4, none⟩ = some (.int .u64 (G : Int)) ∧ w'.cell? ⟨gs, 5, none⟩ = some (.int .u64 (U : Int)) ∧ w'.cell? ⟨gs, 6, none⟩ = some (.slice A L c))
        (first | exact (HH.out.2.2.1 _ (by first | exact (Chg.refl Nil w).drew | exact ((Chg.refl Nil w).drew).alloc _ | exact ((Chg.refl Nil w).alloc _).drew | assumption)).2 | go_keep) (fail)
      go_wp2_with fail
      have hb1 : Bk (w.alloc (.cells #[.int .u64 ((G : Int) + 1), .int .u64 (U : Int), .slice A L c] 78)).drew w.heap.size 78 #[.int .u64 ((G : Int) + 1), .int .u64 (U : Int), .slice A L c] := (Bk.new w 78 #[.int .u64 ((G : Int) + 1), .int .u64 (U : Int), .slice A L c]).keep (Chg.refl Nil _).drew (fun h => h)
      have hc1 : Chg Nil w (w.alloc (.cells #[.int .u64 ((G : Int) + 1), .int .u64 (U : Int), .slice A L c] 78)).drew := ((Chg.refl Nil w).alloc _).drew
      have hgl := HH.out.1.bk.lt
      obtain ⟨gx, hgx⟩ : ∃ gx, gx = w.heap.size := ⟨_, rfl⟩
      rw [← hgx] at hb1 hgl ⊢
      generalize (w.alloc (.cells #[.int .u64 ((G : Int) + 1), .int .u64 (U : Int), .slice A L c] 78)).drew = w1 at *
      have hne : gx ≠ gs := by omega
      have HX := Hid.mk (fun W (hW : Chg Nil w1 W) => (show W.cell? ⟨gs, 1, none⟩ = some (.int .i64 (sl : Int)) ∧ W.cell? ⟨gx, 0, none⟩ = some (.int .u64 ((G : Int) + 1)) ∧ W.cell? ⟨gx, 1, none⟩ = some (.int .u64 (U : Int)) ∧ W.cell? ⟨gx, 2, none⟩ = some (.slice A L c) from
        ⟨(HH.out.2.2.1 W (hc1.trans hW (fun _ _ h => h))).1, (hb1.keep hW (fun h => h)).cell 0 rfl, (hb1.keep hW (fun h => h)).cell 1 rfl, (hb1.keep hW (fun h => h)).cell 2 rfl⟩))
      have H1 := Hid.mk (And.intro hc1 (And.intro hb1 hgx))
      clear hc1 hb1 hgx hgl
      go_region_held3 (fun w' => w'.cell? ⟨gs, 1, none⟩ = some (.int .i64 (sl : Int)) ∧ w'.cell? ⟨gx, 0, none⟩ = some (.int .u64 ((G : Int) + 1)) ∧ w'.cell? ⟨gx, 1, none⟩ = some (.int .u64 (U : Int)) ∧ w'.cell? ⟨gx, 2, none⟩ = some (.slice A L c))
        (first | exact HX.out _ (by first | exact (Chg.refl Nil w1).drew | assumption) | go_keep)
        ((go_at_call 58; refine (HH.out.2.2.2.1 _ (H1.out.1.trans (Chg.refl Nil w1).drew (fun _ _ h => h))).mono ?_; rintro e w2 ⟨rfl, c2⟩; have hcw2 : Chg Nil w1 w2 := (Chg.refl Nil w1).drew.trans c2 (fun _ _ h => h); clear c2))
      cases ft with
      | false =>
        have hp : markP σ d = (σ, d, 12) := by unfold markP; rw [if_pos (by rw [HH.out.2.2.2.2.1]; decide), HH.out.2.2.2.2.1]; rfl
        have H2 := Hid.mk (And.intro (H1.out.1.trans hcw2 (fun _ _ h => h)) hp)
        clear hcw2 hp
        go_wp2_with fail
        go_ret
        rw [H2.out.2]
        exact ⟨M, R, rfl, WentS.nil H2.out.1, A, c, HH.out.1.nil H2.out.1⟩
      | true =>
        have hst2 := HH.out.1.nil (H1.out.1.trans hcw2 (fun _ _ h => h))
        have hf2 := hst2.cells.2.2.2.1
        have hsn := fits_snap HE.out.2.2.2.2.symm
        have hgxM : ¬ M gx := fun hm => by have := HH.out.1.dk.lt gx (.inl hm); have := H1.out.2.2; omega
        have H2 := Hid.mk (And.intro hcw2 hst2)
        clear hcw2 hst2
        by_cases hf : σ.from_ = 1
        · rw [hf] at hf2
          have hw := fun W (hW : Chg Nil w2 W) => swrite_go ((H2.out.2.nil hW).dk) 0 σ.slots (σ.gen + 1) σ.u A σ.pts.length c σ.pts _ (H2.out.2.nil hW).kept.rd H2.out.2.ok.slots (by have := H2.out.2.ok.room; omega) hsn.1 (by have := hsn.2; exact this) HH.out.2.2.2.2.2.2
          have htp : σ.to * σ.slots = 0 := by rw [to_le, if_pos hf]
          have hto : σ.to = 0 := by unfold Sp.to; rw [if_pos hf]
          have hwr : ∀ W, Chg Nil w2 W → Calls Try.prog 59 #[.pointer (some ⟨gd, 0, none⟩), .int .i64 0, .int .i64 (sl : Int), .agg #[.int .u64 ((G : Int) + 1), .int .u64 (U : Int), .slice A L c]] W fun e w' =>
              ∃ M' R', e = .returned (.int .i64 (slotW d (σ.to * σ.slots) σ.snap.bytes).2) ∧ Went W w' M R M' R' ∧ Dk w' gd M' R' (slotW d (σ.to * σ.slots) σ.snap.bytes).1 := fun W hW => by
            rw [htp, HE.out.2.2.2.1, HE.out.1, HE.out.2.1, HE.out.2.2.1]; exact hw W hW
          have hlen : (slotW d (σ.to * σ.slots) σ.snap.bytes).1.now.length = d.now.length := slotW_len (by rw [htp]; have := H2.out.2.ok.room; have := hsn.2; omega)
          have hsw0 : (slotW d (σ.to * σ.slots) σ.snap.bytes).2 = 0 → (slotW d (σ.to * σ.slots) σ.snap.bytes).1.waits = [] := slotW_waits
          have hres := slotW_res d (σ.to * σ.slots) σ.snap.bytes
          have hmk : markP σ d = if (slotW d (σ.to * σ.slots) σ.snap.bytes).2 ≠ 0 then ({ σ with broken := true }, (slotW d (σ.to * σ.slots) σ.snap.bytes).1, 9)
              else if (stepW (slotW d (σ.to * σ.slots) σ.snap.bytes).1 (2 * σ.slots) (zeros σ.used)).2 ≠ 0 then ({ σ.marked with broken := true }, (stepW (slotW d (σ.to * σ.slots) σ.snap.bytes).1 (2 * σ.slots) (zeros σ.used)).1, 9)
              else (σ.marked, (stepW (slotW d (σ.to * σ.slots) σ.snap.bytes).1 (2 * σ.slots) (zeros σ.used)).1, 0) := by
            unfold markP; rw [if_neg (by rw [HH.out.2.2.2.2.1]; decide)]; rfl
          have hbytes : (Sn.bytes ⟨σ.gen + 1, σ.u, σ.pts⟩) = σ.snap.bytes := rfl
          generalize slotW d (σ.to * σ.slots) σ.snap.bytes = W1 at *
          obtain ⟨d1, e1⟩ := W1
          simp only at hlen hsw0 hres hmk
          have HW := Hid.mk (And.intro hwr (And.intro hmk (And.intro hlen (And.intro hsw0 hto))))
          clear hw hwr hmk hlen hsw0 htp hto hbytes hsn
          have HC2 := Hid.mk (fun W (hW : Chg Nil w2 W) => (show W.cell? ⟨gs, 0, none⟩ = some (.pointer (some ⟨gd, 0, none⟩)) ∧ W.cell? ⟨gs, 1, none⟩ = some (.int .i64 (sl : Int)) ∧ W.cell? ⟨gx, 0, none⟩ = some (.int .u64 ((G : Int) + 1)) ∧ W.cell? ⟨gx, 1, none⟩ = some (.int .u64 (U : Int)) ∧ W.cell? ⟨gx, 2, none⟩ = some (.slice A L c) from ⟨(H2.out.2.nil hW).cells.1, HX.out W (H2.out.1.trans hW (fun _ _ h => h))⟩))
          go_wp2_with fail
          go_region_held3 (fun w' => w'.cell? ⟨gs, 0, none⟩ = some (.pointer (some ⟨gd, 0, none⟩)) ∧ w'.cell? ⟨gs, 1, none⟩ = some (.int .i64 (sl : Int)) ∧ w'.cell? ⟨gx, 0, none⟩ = some (.int .u64 ((G : Int) + 1)) ∧ w'.cell? ⟨gx, 1, none⟩ = some (.int .u64 (U : Int)) ∧ w'.cell? ⟨gx, 2, none⟩ = some (.slice A L c))
            (first | exact HC2.out _ (by first | exact (Chg.refl Nil w2).drew | assumption) | exact hcell3 | go_keep)
            ((go_at_call 59; refine (HW.out.1 _ (Chg.refl Nil w2).drew).mono ?_; rintro e w3 ⟨M3, R3, rfl, ww3, d3⟩; have hst3 := (H2.out.2.nil (Chg.refl Nil w2).drew).went ww3 d3 HW.out.2.2.1; have hcell3 : w3.cell? ⟨gs, 0, none⟩ = some (.pointer (some ⟨gd, 0, none⟩)) ∧ w3.cell? ⟨gs, 1, none⟩ = some (.int .i64 (sl : Int)) ∧ w3.cell? ⟨gx, 0, none⟩ = some (.int .u64 ((G : Int) + 1)) ∧ w3.cell? ⟨gx, 1, none⟩ = some (.int .u64 (U : Int)) ∧ w3.cell? ⟨gx, 2, none⟩ = some (.slice A L c) := ⟨hst3.cells.1, by rw [HE.out.2.2.2.1]; exact hst3.cells.2.1, ww3.chg.cell (HC2.out _ (Chg.refl Nil w2).drew).2.2.1 hgxM, ww3.chg.cell (HC2.out _ (Chg.refl Nil w2).drew).2.2.2.1 hgxM, ww3.chg.cell (HC2.out _ (Chg.refl Nil w2).drew).2.2.2.2 hgxM⟩; have hws3 : WentS w w3 gs M R M3 R3 := (WentS.nil ((H1.out.1.trans H2.out.1 (fun _ _ h => h)).trans (Chg.refl Nil w2).drew (fun _ _ h => h))).trans (WentS.of_went ww3); clear ww3 d3))
          all_goals
            have hx0 := hcell3.2.2.1
            have HS3 := Hid.mk (And.intro hws3 hst3)
            clear hcell3 hws3 hst3
            rcases hres with rfl | rfl
            · have h34 := HS3.out.2.cells
              have h3c := h34.2.2.2.1
              have h4c := h34.2.2.2.2.1
              have h7c := h34.2.2.2.2.2.2.2.1
              have f3 := HS3.out.2.bk.free 3
              have f4 := HS3.out.2.bk.free 4
              have f7 := HS3.out.2.bk.free 7
              obtain ⟨US, hUS⟩ : ∃ US, US = σ.used := ⟨_, rfl⟩
              rw [← hUS] at h7c
              have HU := Hid.mk hUS
              clear h34 hUS
              have hmm := StAt.mkd HS3.out.2 (by rw [← HE.out.1]; omega) 0 (by rw [HW.out.2.2.2.2]; rfl)
              rw [← HE.out.1] at hmm
              have hbl := blank_any hmm.2 0 US (Nat.zero_le _) (by show US ≤ σ.log; rw [HU.out]; exact HH.out.1.ok.used) (by rw [HW.out.2.2.2.1 rfl]; exact Nat.zero_le _)
              have hcl := hmm.2.cells.2.2.2.2.2.2.2.2
              have hmk := HW.out.2.1
              rw [if_neg (by decide)] at hmk
              have hz2 : 2 * σ.marked.slots + 0 = 2 * σ.slots := rfl
              have hz3 : US - 0 = σ.used := by rw [HU.out]; rfl
              rw [hz2, hz3] at hbl
              have hr2 := stepW_res d1 (2 * σ.slots) (zeros σ.used)
              generalize stepW d1 (2 * σ.slots) (zeros σ.used) = W2 at *
              obtain ⟨d2, e2⟩ := W2
              simp only at hmk hbl hr2
              have HM := Hid.mk (And.intro hmm (And.intro hbl hmk))
              clear hmm hbl hmk hz2 hz3 hcl
              go_wp2_with fail
              refine HM.out.2.1.mono ?_
              rintro e w4 ⟨M4, R4, rfl, ws4, s4⟩
              have H4 := Hid.mk (And.intro ((HS3.out.1.trans (WentS.of_gs HM.out.1.1)).trans ws4) s4)
              clear ws4 s4
              rcases hr2 with rfl | rfl
              · have hmk := HM.out.2.2
                rw [if_neg (by decide)] at hmk
                have hto := told_any H4.out.2 0
                rw [told_zero] at hto
                have H5 := Hid.mk (And.intro hto hmk)
                clear hto hmk
                go_wp2_with fail
                refine H5.out.1.mono ?_
                rintro e w6 ⟨rfl, c6, s6⟩
                have H6 := Hid.mk (And.intro (H4.out.1.trans (WentS.of_gs (M := M4) (R := R4) c6)) s6)
                clear c6 s6
                go_wp2_with fail
                go_ret
                rw [H5.out.2]
                exact ⟨M4, R4, rfl, H6.out.1, A, c, H6.out.2⟩
              · have hmk := HM.out.2.2
                rw [if_pos (by decide)] at hmk
                have hto := told_any H4.out.2 9
                rw [told_nine] at hto
                have H5 := Hid.mk (And.intro hto hmk)
                clear hto hmk
                go_wp2_with fail
                refine H5.out.1.mono ?_
                rintro e w6 ⟨rfl, c6, s6⟩
                have H6 := Hid.mk (And.intro (H4.out.1.trans (WentS.of_gs (M := M4) (R := R4) c6)) s6)
                clear c6 s6
                go_wp2_with fail
                go_ret
                rw [H5.out.2]
                exact ⟨M4, R4, rfl, H6.out.1, A, c, H6.out.2⟩
            · have hmk := HW.out.2.1
              rw [if_pos (by decide)] at hmk
              have hto9 := told_any HS3.out.2 9
              rw [told_nine] at hto9
              have H5 := Hid.mk (And.intro hto9 hmk)
              clear hto9 hmk
              go_wp2_with fail
              refine H5.out.1.mono ?_
              rintro e w6 ⟨rfl, c6, s6⟩
              have H6 := Hid.mk (And.intro (HS3.out.1.trans (WentS.of_gs (M := M3) (R := R3) c6)) s6)
              clear c6 s6
              go_wp2_with fail
              go_ret
              rw [H5.out.2]
              exact ⟨M3, R3, rfl, H6.out.1, A, c, H6.out.2⟩
        · have hd1 : decide (σ.from_ = 1) = false := decide_eq_false hf
          have hwS : IntKind.i64.wrap (sl : Int) = (sl : Int) := wrap_small (by rw [HE.out.2.2.2.1]; exact HH.out.2.2.2.2.2.1.1)
          have hw := fun W (hW : Chg Nil w2 W) => swrite_go ((H2.out.2.nil hW).dk) σ.slots σ.slots (σ.gen + 1) σ.u A σ.pts.length c σ.pts _ (H2.out.2.nil hW).kept.rd H2.out.2.ok.slots (by have := H2.out.2.ok.room; omega) hsn.1 (by have := hsn.2; exact this) HH.out.2.2.2.2.2.2
          have htp : σ.to * σ.slots = σ.slots := by rw [to_le, if_neg hf]
          have hto : σ.to = 1 := by unfold Sp.to; rw [if_neg hf]
          have hwr : ∀ W, Chg Nil w2 W → Calls Try.prog 59 #[.pointer (some ⟨gd, 0, none⟩), .int .i64 (sl : Int), .int .i64 (sl : Int), .agg #[.int .u64 ((G : Int) + 1), .int .u64 (U : Int), .slice A L c]] W fun e w' =>
              ∃ M' R', e = .returned (.int .i64 (slotW d (σ.to * σ.slots) σ.snap.bytes).2) ∧ Went W w' M R M' R' ∧ Dk w' gd M' R' (slotW d (σ.to * σ.slots) σ.snap.bytes).1 := fun W hW => by
            rw [htp, HE.out.2.2.2.1, HE.out.1, HE.out.2.1, HE.out.2.2.1]; exact hw W hW
          have hlen : (slotW d (σ.to * σ.slots) σ.snap.bytes).1.now.length = d.now.length := slotW_len (by rw [htp]; have := H2.out.2.ok.room; have := hsn.2; omega)
          have hsw0 : (slotW d (σ.to * σ.slots) σ.snap.bytes).2 = 0 → (slotW d (σ.to * σ.slots) σ.snap.bytes).1.waits = [] := slotW_waits
          have hres := slotW_res d (σ.to * σ.slots) σ.snap.bytes
          have hmk : markP σ d = if (slotW d (σ.to * σ.slots) σ.snap.bytes).2 ≠ 0 then ({ σ with broken := true }, (slotW d (σ.to * σ.slots) σ.snap.bytes).1, 9)
              else if (stepW (slotW d (σ.to * σ.slots) σ.snap.bytes).1 (2 * σ.slots) (zeros σ.used)).2 ≠ 0 then ({ σ.marked with broken := true }, (stepW (slotW d (σ.to * σ.slots) σ.snap.bytes).1 (2 * σ.slots) (zeros σ.used)).1, 9)
              else (σ.marked, (stepW (slotW d (σ.to * σ.slots) σ.snap.bytes).1 (2 * σ.slots) (zeros σ.used)).1, 0) := by
            unfold markP; rw [if_neg (by rw [HH.out.2.2.2.2.1]; decide)]; rfl
          have hbytes : (Sn.bytes ⟨σ.gen + 1, σ.u, σ.pts⟩) = σ.snap.bytes := rfl
          generalize slotW d (σ.to * σ.slots) σ.snap.bytes = W1 at *
          obtain ⟨d1, e1⟩ := W1
          simp only at hlen hsw0 hres hmk
          have HW := Hid.mk (And.intro hwr (And.intro hmk (And.intro hlen (And.intro hsw0 hto))))
          clear hw hwr hmk hlen hsw0 htp hto hbytes hsn
          have HC2 := Hid.mk (fun W (hW : Chg Nil w2 W) => (show W.cell? ⟨gs, 0, none⟩ = some (.pointer (some ⟨gd, 0, none⟩)) ∧ W.cell? ⟨gs, 1, none⟩ = some (.int .i64 (sl : Int)) ∧ W.cell? ⟨gx, 0, none⟩ = some (.int .u64 ((G : Int) + 1)) ∧ W.cell? ⟨gx, 1, none⟩ = some (.int .u64 (U : Int)) ∧ W.cell? ⟨gx, 2, none⟩ = some (.slice A L c) from ⟨(H2.out.2.nil hW).cells.1, HX.out W (H2.out.1.trans hW (fun _ _ h => h))⟩))
          go_wp2_with fail
          go_region_held3 (fun w' => w'.cell? ⟨gs, 0, none⟩ = some (.pointer (some ⟨gd, 0, none⟩)) ∧ w'.cell? ⟨gs, 1, none⟩ = some (.int .i64 (sl : Int)) ∧ w'.cell? ⟨gx, 0, none⟩ = some (.int .u64 ((G : Int) + 1)) ∧ w'.cell? ⟨gx, 1, none⟩ = some (.int .u64 (U : Int)) ∧ w'.cell? ⟨gx, 2, none⟩ = some (.slice A L c))
            (first | exact HC2.out _ (by first | exact (Chg.refl Nil w2).drew | assumption) | exact hcell3 | go_keep)
            ((go_at_call 59; refine (HW.out.1 _ (Chg.refl Nil w2).drew).mono ?_; rintro e w3 ⟨M3, R3, rfl, ww3, d3⟩; have hst3 := (H2.out.2.nil (Chg.refl Nil w2).drew).went ww3 d3 HW.out.2.2.1; have hcell3 : w3.cell? ⟨gs, 0, none⟩ = some (.pointer (some ⟨gd, 0, none⟩)) ∧ w3.cell? ⟨gs, 1, none⟩ = some (.int .i64 (sl : Int)) ∧ w3.cell? ⟨gx, 0, none⟩ = some (.int .u64 ((G : Int) + 1)) ∧ w3.cell? ⟨gx, 1, none⟩ = some (.int .u64 (U : Int)) ∧ w3.cell? ⟨gx, 2, none⟩ = some (.slice A L c) := ⟨hst3.cells.1, by rw [HE.out.2.2.2.1]; exact hst3.cells.2.1, ww3.chg.cell (HC2.out _ (Chg.refl Nil w2).drew).2.2.1 hgxM, ww3.chg.cell (HC2.out _ (Chg.refl Nil w2).drew).2.2.2.1 hgxM, ww3.chg.cell (HC2.out _ (Chg.refl Nil w2).drew).2.2.2.2 hgxM⟩; have hws3 : WentS w w3 gs M R M3 R3 := (WentS.nil ((H1.out.1.trans H2.out.1 (fun _ _ h => h)).trans (Chg.refl Nil w2).drew (fun _ _ h => h))).trans (WentS.of_went ww3); clear ww3 d3))
          all_goals
            have hx0 := hcell3.2.2.1
            have HS3 := Hid.mk (And.intro hws3 hst3)
            clear hcell3 hws3 hst3
            rcases hres with rfl | rfl
            · have h34 := HS3.out.2.cells
              have h3c := h34.2.2.2.1
              have h4c := h34.2.2.2.2.1
              have h7c := h34.2.2.2.2.2.2.2.1
              have f3 := HS3.out.2.bk.free 3
              have f4 := HS3.out.2.bk.free 4
              have f7 := HS3.out.2.bk.free 7
              obtain ⟨US, hUS⟩ : ∃ US, US = σ.used := ⟨_, rfl⟩
              rw [← hUS] at h7c
              have HU := Hid.mk hUS
              clear h34 hUS
              have hmm := StAt.mkd HS3.out.2 (by rw [← HE.out.1]; omega) 1 (by rw [HW.out.2.2.2.2]; rfl)
              rw [← HE.out.1] at hmm
              have hbl := blank_any hmm.2 0 US (Nat.zero_le _) (by show US ≤ σ.log; rw [HU.out]; exact HH.out.1.ok.used) (by rw [HW.out.2.2.2.1 rfl]; exact Nat.zero_le _)
              have hcl := hmm.2.cells.2.2.2.2.2.2.2.2
              have hmk := HW.out.2.1
              rw [if_neg (by decide)] at hmk
              have hz2 : 2 * σ.marked.slots + 0 = 2 * σ.slots := rfl
              have hz3 : US - 0 = σ.used := by rw [HU.out]; rfl
              rw [hz2, hz3] at hbl
              have hr2 := stepW_res d1 (2 * σ.slots) (zeros σ.used)
              generalize stepW d1 (2 * σ.slots) (zeros σ.used) = W2 at *
              obtain ⟨d2, e2⟩ := W2
              simp only at hmk hbl hr2
              have HM := Hid.mk (And.intro hmm (And.intro hbl hmk))
              clear hmm hbl hmk hz2 hz3 hcl
              go_wp2_with fail
              refine HM.out.2.1.mono ?_
              rintro e w4 ⟨M4, R4, rfl, ws4, s4⟩
              have H4 := Hid.mk (And.intro ((HS3.out.1.trans (WentS.of_gs HM.out.1.1)).trans ws4) s4)
              clear ws4 s4
              rcases hr2 with rfl | rfl
              · have hmk := HM.out.2.2
                rw [if_neg (by decide)] at hmk
                have hto := told_any H4.out.2 0
                rw [told_zero] at hto
                have H5 := Hid.mk (And.intro hto hmk)
                clear hto hmk
                go_wp2_with fail
                refine H5.out.1.mono ?_
                rintro e w6 ⟨rfl, c6, s6⟩
                have H6 := Hid.mk (And.intro (H4.out.1.trans (WentS.of_gs (M := M4) (R := R4) c6)) s6)
                clear c6 s6
                go_wp2_with fail
                go_ret
                rw [H5.out.2]
                exact ⟨M4, R4, rfl, H6.out.1, A, c, H6.out.2⟩
              · have hmk := HM.out.2.2
                rw [if_pos (by decide)] at hmk
                have hto := told_any H4.out.2 9
                rw [told_nine] at hto
                have H5 := Hid.mk (And.intro hto hmk)
                clear hto hmk
                go_wp2_with fail
                refine H5.out.1.mono ?_
                rintro e w6 ⟨rfl, c6, s6⟩
                have H6 := Hid.mk (And.intro (H4.out.1.trans (WentS.of_gs (M := M4) (R := R4) c6)) s6)
                clear c6 s6
                go_wp2_with fail
                go_ret
                rw [H5.out.2]
                exact ⟨M4, R4, rfl, H6.out.1, A, c, H6.out.2⟩
            · have hmk := HW.out.2.1
              rw [if_pos (by decide)] at hmk
              have hto9 := told_any HS3.out.2 9
              rw [told_nine] at hto9
              have H5 := Hid.mk (And.intro hto9 hmk)
              clear hto9 hmk
              go_wp2_with fail
              refine H5.out.1.mono ?_
              rintro e w6 ⟨rfl, c6, s6⟩
              have H6 := Hid.mk (And.intro (HS3.out.1.trans (WentS.of_gs (M := M3) (R := R3) c6)) s6)
              clear c6 s6
              go_wp2_with fail
              go_ret
              rw [H5.out.2]
              exact ⟨M3, R3, rfl, H6.out.1, A, c, H6.out.2⟩
end

end Go.Proofs.Ytanipieeegeheaa
