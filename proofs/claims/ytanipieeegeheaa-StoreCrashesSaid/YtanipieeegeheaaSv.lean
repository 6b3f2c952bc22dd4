/- Joined for this seat from: XStC. -/
import Derived.Test.YtanipieeegeheaaSu
namespace Go.Proofs.Ytanipieeegeheaa
open Go.RowKit

section
variable {w : World} {gs gd : Nat} {M R N : Nat → Prop} {A : Option Addr} {c : Nat} {σ : Sp} {d : Dp}
theorem told_zero (σ : Sp) : { σ with broken := σ.broken || (0 : Int) != 0 } = σ := by cases σ; simp
theorem told_nine (σ : Sp) : { σ with broken := σ.broken || (9 : Int) != 0 } = { σ with broken := true } := by simp
set_option maxHeartbeats 1000000 in
set_option maxRecDepth 100000 in
theorem stSync_any (h : StAt w gs gd M R N A c σ d) :
    Calls Try.prog 15 #[.pointer (some ⟨gs, 0, none⟩)] w fun e w' => e = .returned (.int .i64 ((syncP σ d).2.2 : Int)) ∧ WentS w w' gs M R M R ∧ StAt w' gs gd M R N A c (syncP σ d).1 (syncP σ d).2.1 := by
  have h0 := h.cells.1
  have h8 := h.cells.2.2.2.2.2.2.2.2
  cases hb : σ.broken with
  | true =>
    rw [hb] at h8
    have hp : syncP σ d = (σ, d, 9) := by simp [syncP, hb]
    rw [hp]
    have HH := Hid.mk h
    clear h hb hp
    go_enter Try.func15, Try.ntmps15
    go_wp2_with fail
    go_ret
    exact ⟨rfl, WentS.refl _ _ _ _, HH.out⟩
  | false =>
    rw [hb] at h8
    cases hd : d.dead with
    | true =>
      have hp : syncP σ d = ({ σ with broken := true }, d, 9) := by simp [syncP, hb, hd]
      rw [hp]
      have HH := Hid.mk (And.intro h (And.intro (dsync_dead h.dk hd) (told_any h 9)))
      clear h hb hp hd
      go_enter Try.func15, Try.ntmps15
      go_wp2_with fail
      refine HH.out.2.1.mono ?_
      rintro e w1 ⟨rfl, he⟩
      subst he
      go_wp2_with fail
      refine HH.out.2.2.mono ?_
      rintro e w2 ⟨rfl, c2, s2⟩
      rw [told_nine] at s2
      have H2 := Hid.mk (And.intro (WentS.of_gs (M := M) (R := R) c2) s2)
      clear c2 s2
      go_wp2_with fail
      go_ret
      exact ⟨rfl, H2.out.1, H2.out.2⟩
    | false =>
      have hp : syncP σ d = (σ, d.sync, 0) := by simp [syncP, hb, hd]
      rw [hp]
      have HH := Hid.mk (And.intro h (dsync_ok h.dk hd))
      clear h hb hp hd
      go_enter Try.func15, Try.ntmps15
      go_wp2_with fail
      refine HH.out.2.mono ?_
      rintro e w1 ⟨rfl, c1, d1⟩
      have hst := HH.out.1.went (Went.of_chg c1) d1 (by rw [Dp.sync_now])
      have hto := told_any hst 0
      rw [told_zero] at hto
      have H1 := Hid.mk (And.intro (WentS.of_went (gs := gs) (Went.of_chg (R := R) c1)) hto)
      clear c1 d1 hst hto
      go_wp2_with fail
      refine H1.out.2.mono ?_
      rintro e w2 ⟨rfl, c2, s2⟩
      have H2 := Hid.mk (And.intro (H1.out.1.trans (WentS.of_gs (M := M) (R := R) c2)) s2)
      clear c2 s2
      go_wp2_with fail
      go_ret
      exact ⟨rfl, H2.out.1, H2.out.2⟩
set_option maxHeartbeats 2000000 in
set_option maxRecDepth 100000 in
theorem done_any (h : StAt w gs gd M R N A c σ d) (B : Option Addr) (m mc n : Nat) (ops : List Oq) (S : Nat → Prop) (ho : RdO w S B m ops) (hbe : batE ops = 0) (hn : n ≤ 400000) (hroom : σ.used + (n + 13) ≤ σ.log) (hu : σ.u + 1 ≤ 9223372036854775807) :
    Calls Try.prog 51 #[.pointer (some ⟨gs, 0, none⟩), .slice B m mc, .int .i64 (n : Int)] w fun e w' =>
      (doneP σ ops n = none ∧ e = .returned (.bool false) ∧ Chg Nil w w') ∨ ∃ σ' A' c', doneP σ ops n = some σ' ∧ e = .returned (.bool true) ∧ Chg (· = gs) w w' ∧ StAt w' gs gd M R N A' c' σ' d := by
  have hml := ho.len
  have hm5 := batE_len hbe
  have hAp := apply_any A B σ.pts.length c m mc σ.pts ops _ S w h.kept.rd ho (by have := h.ok.len; omega) (by omega) h.ok.up
  have h6 := h.cells.2.2.2.2.2.2.1
  have hl20 := h.ok.len
  have hdl := do_len ops σ.pts h.ok.up
  by_cases hbig : 2000 < (doP σ.pts ops).length
  · have hp : doneP σ ops n = none := by unfold doneP; rw [if_pos hbig]
    have HH := Hid.mk (And.intro h (And.intro hAp hp))
    clear h hAp hp hbe
    obtain ⟨k, hk⟩ : ∃ k, k = (doP σ.pts ops).length := ⟨_, rfl⟩
    have hd : decide (2000 < (k : Int)) = true := decide_eq_true (by omega)
    have hk1 : k ≤ 30000 := by omega
    clear hbig hdl
    have HK := Hid.mk hk
    clear hk
    go_enter Try.func51, Try.ntmps51
    go_wp2_with fail
    refine HH.out.2.1.mono ?_
    rintro e w1 ⟨v1, rfl, o1, c1⟩
    rw [← HK.out] at o1
    obtain ⟨A1, k1, rfl, _, _⟩ := own_form o1
    have H1 := Hid.mk c1
    clear o1 c1
    go_wp2_with fail
    go_ret
    exact .inl ⟨HH.out.2.2, rfl, H1.out⟩
  · have hp : doneP σ ops n = some { σ with pts := doP σ.pts ops, u := σ.u + 1, used := σ.used + (n + 13) } := by unfold doneP; rw [if_neg hbig]
    rw [hp]
    have hmk : ∀ w : World, (Instr.makeSlice 46 (.int .i64 (n : Int)) (.int .i64 (n : Int))).run Try.prog w = .ok (.slice (some ⟨w.heap.size, 0, none⟩) n n) (w.alloc (.cells (madeCells #[.int .u8 0] n) 5)) :=
      run_make_row' (P := Try.prog) 46 5 (.int .u8 0) 1 Try.underlying46 Try.infoU8 rfl .i64 .i64 n (by omega) (by omega)
    have hgen := h.ok.gen1
    have hgen2 := h.ok.gen2
    have hc4 := fun W (hW : Chg Nil w W) => (h.nil hW).cells.2.2.2.2.1
    have hsm := h.ok.small h.dk.ok
    have hlt := h.bk.lt
    have HH := Hid.mk (And.intro h (And.intro hAp (And.intro hc4 hsm)))
    clear h hAp hc4 hp hsm
    obtain ⟨k, hk⟩ : ∃ k, k = (doP σ.pts ops).length := ⟨_, rfl⟩
    have hd : decide (2000 < (k : Int)) = false := decide_eq_false (by omega)
    have hk1 : k ≤ 2000 := by omega
    have hkeepk : (doP σ.pts ops).length = k := hk.symm
    have HK := Hid.mk hk
    clear hk hbig hdl hkeepk
    obtain ⟨gn, hgn⟩ : ∃ gn, gn = σ.gen := ⟨_, rfl⟩
    rw [← hgn] at hgen hgen2
    have HG := Hid.mk hgn
    clear hgn
    go_enter Try.func51, Try.ntmps51
    go_wp2_with fail
    refine HH.out.2.1.mono ?_
    rintro e w1 ⟨v1, rfl, o1, c1⟩
    rw [← HK.out] at o1
    obtain ⟨A1, k1, rfl, _, _⟩ := own_form o1
    have hc41 := HH.out.2.2.1 w1 c1
    rw [← HG.out] at hc41
    have HC4 := Hid.mk (fun W (hW : Chg Nil w1 W) => HH.out.2.2.1 W (c1.trans hW (fun _ _ h => h)))
    have H1 := Hid.mk (And.intro o1 c1)
    clear o1 c1
    go_wp2_with fail
    go_region_held3 (fun w' => w'.cell? ⟨gs, 4, none⟩ = some (.int .u64 (gn : Int)))
      (first | go_keep | (rw [HG.out]; exact HC4.out _ (by first | exact (Chg.refl Nil w1).drew | exact ((Chg.refl Nil w1).drew).alloc _ | assumption)))
      (first
        | (go_at_call 48; refine (put_ok gn (some ⟨w1.heap.size, 0, none⟩) n n (zeros n) _ _ (rds_made w1 n) hgen hgen2 hn).mono ?_; rintro e w2 ⟨v2, rfl, o2, b2⟩; have hcw2 : Chg Nil w1 w2 := (((Chg.refl Nil w1).drew).alloc (.cells (madeCells #[.int .u8 0] n) 5)).trans (Chg.of_below b2) (fun _ _ h => h); obtain ⟨A2, k2, hv2, _, _⟩ := own_form o2; subst hv2; clear o2 b2))
    all_goals
      have s2 := HH.out.1.nil (H1.out.2.trans hcw2 (fun _ _ h => h))
      have hkept : Kept w2 (fun k => (M k ∨ R k) ∨ k = gs ∨ N k) A1 k (doP σ.pts ops) := by
        refine ⟨Own (.slice A1 k k1), (Rds.of_own H1.out.1).keep hcw2 (fun _ _ h => h), fun i hi => ⟨Nat.lt_of_lt_of_le (own_lt H1.out.1 i hi) hcw2.size, ?_⟩⟩
        have hge := own_ge H1.out.1 i hi
        rintro (hmr | rfl | hN)
        · have := HH.out.1.dk.lt i hmr; omega
        · omega
        · have := HH.out.1.nlt i hN; omega
      have h5 := s2.cells.2.2.2.2.2.1
      have h6 := s2.cells.2.2.2.2.2.2.1
      have h7 := s2.cells.2.2.2.2.2.2.2.1
      have f5 := s2.bk.free 5
      have f6 := s2.bk.free 6
      have f7 := s2.bk.free 7
      have hz := zeros_len n
      have H2 := Hid.mk (And.intro hcw2 (And.intro s2 (And.intro hkept hz)))
      have hu7 := HH.out.2.2.2.2.2
      have hw7 : wrap64 ((σ.used : Int) + (((zeros n).length : Int) + 13)) = ((σ.used + (n + 13) : Nat) : Int) := by rw [hz]; unfold wrap64; omega
      have HW := Hid.mk hw7
      clear hcw2 s2 hkept hz hw7 hu7
      go_wp2_with fail
      go_ret
      refine .inr ⟨_, A1, k1, rfl, rfl, ?_, ?_⟩
      · have h0 : Chg (· = gs) w w2 := (H1.out.2.trans H2.out.1 (fun _ _ h => h)).wider (fun _ _ h => h.elim)
        exact (((h0.setCell (p := ⟨gs, 6, none⟩) (fun _ => rfl) _).setCell (p := ⟨gs, 5, none⟩) (fun _ => rfl) _).setCell (p := ⟨gs, 7, none⟩) (fun _ => rfl) _)
      · refine StAt.wrote H2.out.2.1 ((((Chg.refl (· = gs) w2).setCell (p := ⟨gs, 6, none⟩) (fun _ => rfl) _).setCell (p := ⟨gs, 5, none⟩) (fun _ => rfl) _).setCell (p := ⟨gs, 7, none⟩) (fun _ => rfl) _) ?_ ?_ ?_
        · have := ((H2.out.2.1.bk.set 6 (.slice A1 k k1)).set 5 (.int .u64 ((σ.u : Int) + 1))).set 7 (.int .i64 ((σ.used + (n + 13) : Nat) : Int))
          have e7 : wrap64 ((σ.used : Int) + (((zeros n).length : Int) + 13)) = ((σ.used + (n + 13) : Nat) : Int) := HW.out
          rw [e7, ← HK.out]
          exact this
        · rw [← HK.out]; exact H2.out.2.2.1
        · exact { HH.out.1.ok with used := hroom, u := hu, may := do_may HH.out.1.ok.may hbe (by rw [← HK.out]; omega) }
end

end Go.Proofs.Ytanipieeegeheaa
