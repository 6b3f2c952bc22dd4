/- Joined for this seat from: XSCrashes. -/
import Derived.Deep.RegionHeld3
import Derived.Deep.CutRange
import Derived.Deep.DeepCutAuto
import Derived.Deep.CutBlock
import Derived.Test.YtanipieeegeheaaTm
namespace Go.Proofs.Ytanipieeegeheaa
open Go.RowKit

theorem Try.infoPtrStore : (Try.prog.info? 58).map (fun i => (i.zero, i.size, i.bytes)) = some (some (.pointer none), 1, 8) := by kernel_rfl
theorem Work.count {s l : Nat} {σ : Sp} {D : Dp} {L : List Sp} (h : Work s l σ D L) : L.length ≤ l + 1 := by
  obtain ⟨β, bo, n, hi, hh⟩ := h.inv
  have h1 := hh.len
  have h2 := recsB_many σ.gen bo
  have h3 := hi.used_len
  have h4 := hi.used_le
  rw [h.log] at h4
  omega
theorem Crew.at_ {w0 w : World} {gs gd g off n cap j gq : Nat} {gl : List (Nat × Sp)} {bx : Option (Nat × Array Value)} {σ τ : Sp} {D : Dp} (h : Crew w0 w gs gd (.slice (some ⟨g, off, none⟩) n cap) gl bx σ D) (hq : gl[j]? = some (gq, τ)) :
    ∀ W, Chg Nil w W → W.cell? ⟨g, off + j, none⟩ = some (.pointer (some ⟨gq, 0, none⟩)) := by
  obtain ⟨g', off', cap', he, _, _, hc⟩ := h.slice
  injection he with e1 e2 e3
  injection e1 with e1
  injection e1 with e4 e5
  subst e4 e5
  exact fun W hW => hc W hW j _ hq
theorem crash_cases {gl : List (Nat × Sp)} {τ τK : Sp} {i K gK : Nat} (hu : Uniq (gl.map (·.2))) (hi : (gl.map (·.2))[i]? = some τ) (hK : gl[K]? = some (gK, τK)) :
    (eqB (τ.pts = τK.pts) = false ∧ K ≠ i) ∨ (eqB (τ.pts = τK.pts) = true ∧ τ.u ≠ τK.u ∧ K ≠ i) ∨ (eqB (τ.pts = τK.pts) = true ∧ τ.u = τK.u ∧ τ.gen ≠ τK.gen ∧ K ≠ i) ∨ (eqB (τ.pts = τK.pts) = true ∧ τ.u = τK.u ∧ τ.gen = τK.gen ∧ i = K) := by
  have hK2 : (gl.map (·.2))[K]? = some τK := by rw [List.getElem?_map, hK]; rfl
  have he : K = i → τ = τK := fun h => by
    subst h
    exact Option.some.inj (hi.symm.trans hK2)
  by_cases h1 : τ.pts = τK.pts
  · rw [eqB_true h1]
    by_cases h2 : τ.u = τK.u
    · by_cases h3 : τ.gen = τK.gen
      · exact .inr (.inr (.inr ⟨rfl, h2, h3, hu i K τ τK hi hK2 h2 h3⟩))
      · exact .inr (.inr (.inl ⟨rfl, h2, h3, fun h => h3 (by rw [he h])⟩))
    · exact .inr (.inl ⟨rfl, h2, fun h => h2 (by rw [he h])⟩)
  · rw [eqB_false h1]
    exact .inl ⟨rfl, fun h => h1 (by rw [he h])⟩
set_option maxHeartbeats 8000000 in
set_option maxRecDepth 100000 in
theorem storeCrashes_walk (A : Option Addr) (n c : Nat) (qs : List (Aq × Value)) (w : World) (hr : RdActs w (fun k => k < w.heap.size) A n qs) (hn : n ≤ maxLen) :
    Calls Try.prog 10 #[.slice A n c] w fun e w' => e = .returned (.bool true) ∧ Chg Nil w w' := by
  have hn' : n ≤ 9223372036854775807 := by have h := hn; unfold maxLen at h; omega
  obtain ⟨D1, q1, q2, q3, q4, q5⟩ := crashes_new
  have hN := dnew_any 2300 w
  have hO1 := fun {g : Nat} {M R : Nat → Prop} {w1 : World} (h : Dk w1 g M R (Dp.new 2300)) => open_any h 700 900 (by omega) (by rw [q5]; omega) (by show (0 : Nat) ≤ _; omega)
  rw [q3, q4] at hO1
  have HH := Hid.mk (And.intro hN (And.intro (@hO1) (And.intro q1 q2)))
  have HL := Hid.mk hr
  clear hN hO1 q1 q2 q3 q4 q5 hr
  go_enter Try.func10, Try.ntmps10
  go_wp2_with fail
  refine HH.out.1.mono ?_
  rintro e w1 ⟨gd, M, R, rfl, c1, d1, low1⟩
  have H1 := Hid.mk (Live.mk c1 d1 low1)
  clear c1 d1 low1
  go_wp2_with fail
  refine (HH.out.2.1 H1.out.dk).mono ?_
  rintro e w2 ho
  rcases H1.out.opened ho with ⟨_, gs, M2, R2, rfl, r2⟩ | ⟨h9, _⟩
  rotate_left
  · exact absurd h9 (by simp)
  have H2 := Hid.mk r2
  clear r2 ho
  go_wp2_with fail
  refine (awake15_any w2).mono ?_
  rintro e w3 ⟨rfl, c3⟩
  have H3 := Hid.mk (H2.out.nil c3)
  clear c3
  go_wp2_with fail
  refine (rFresh_any 700 900 w3).mono ?_
  rintro e w4 ⟨rfl, c4, f4⟩
  have hrf := f4 (fun k => M2 k ∨ k = gs) (fun k hk => H3.out.lt' k hk)
  have H4 := Hid.mk (crew_new H3.out c4 hrf)
  clear c4 f4 hrf
  unfold ptrV at H4
  go_wp2_with fail
  go_loopw [6, 8, 9] (fun vs vst vi wr => ∃ k gs : Nat, k ≤ 30 ∧ vs = .pointer (some ⟨gs, 0, none⟩) ∧ vi = .int .i64 (k : Int) ∧ Hid (∃ σ D gl, Crew w wr gs gd vst gl none σ D ∧ Work 700 900 σ D (gl.map (·.2)) ∧ D.free)) (fun _ _ vi _ => 30 - (intOf vi).toNat)
  case atStart => exact ⟨0, gs, by omega, rfl, rfl, Hid.mk ⟨_, _, _, H4.out, HH.out.2.2.2, HH.out.2.2.1⟩⟩
  case round =>
    obtain ⟨k, gt, hk, rfl, rfl, HR⟩ := hrel
    obtain ⟨σ, D, gl, cr, wk, fr⟩ := HR.out
    obtain ⟨gst, off, cap, rfl, hgc, hgm, hcell⟩ := cr.slice
    obtain ⟨ln, hln⟩ : ∃ ln, ln = gl.length := ⟨_, rfl⟩
    have hpos := wk.pos
    have hlast := wk.last
    have hcount := wk.count
    rw [List.length_map, ← hln] at hpos hlast hcount
    obtain ⟨gq, hgq⟩ : ∃ gq, gl[ln - 1]? = some (gq, σ) := by
      rw [List.getElem?_map] at hlast
      cases hx : gl[ln - 1]? with
      | none => rw [hx] at hlast; cases hlast
      | some q => rw [hx] at hlast; injection hlast with hlast; exact ⟨q.1, by rw [← hlast]⟩
    have hclast : ∀ W, Chg Nil wr W → W.cell? ⟨gst, off + (ln - 1), none⟩ = some (.pointer (some ⟨gq, 0, none⟩)) := fun W hW => hcell W hW (ln - 1) _ hgq
    rw [← hln] at hgc cr ⊢
    obtain ⟨j, hj⟩ : ∃ j, ln = j + 1 := ⟨ln - 1, by omega⟩
    subst hj
    have hj900 : j ≤ 900 := by omega
    clear hcount
    rw [Nat.add_sub_cancel] at hclast hgq hlast
    have HQ := Hid.mk (And.intro cr (And.intro wk (And.intro fr (And.intro hclast (And.intro hgq hln)))))
    clear cr wk fr hclast hgq hln hlast hcell hpos
    by_cases hlt : k < n ∧ k < 30
    · obtain ⟨hkn, hk30⟩ := hlt
      obtain ⟨g, o, kd, sp, op, kp, ops, B, bc, rfl, hS, hq, hfit, hoc, hcm, hro, z0, z1, z2, z3, z4⟩ := HL.out.at_ hkn
      have hlen : ops.length ≤ 9223372036854775807 := by unfold maxLen at hcm; omega
      have hch := HQ.out.1.chg
      have y0 := hch.cell z0 (fun h => h)
      have y1 := hch.cell z1 (fun h => h)
      have y2 := hch.cell z2 (fun h => h)
      have y3 := hch.cell z3 (fun h => h)
      have y4 := hch.cell z4 (fun h => h)
      have hbn := Bk.new wr 56 #[.int .i64 kd, .int .i64 sp, .int .i64 op, .int .i64 kp, .slice B ops.length bc]
      have hcx : Chg Nil wr (wr.alloc (.cells #[.int .i64 kd, .int .i64 sp, .int .i64 op, .int .i64 kp, .slice B ops.length bc] 56)) := (Chg.refl _ _).alloc _
      have x0 := hbn.cell 0 rfl
      have x1 := hbn.cell 1 rfl
      have x2 := hbn.cell 2 rfl
      have x3 := hbn.cell 3 rfl
      have x4 := hbn.cell 4 rfl
      have hcb := HQ.out.1.boxed hcx hbn (Nat.le_refl _)
      have HZ := Hid.mk (And.intro hcb (And.intro hcx (And.intro hro (And.intro hoc (And.intro hcm hfit)))))
      clear hbn hcx hcb hro hoc hcm hfit hS hq hch z0 z1 z2 z3 z4
      go_wp2_with fail
      refine (few15_any kd sp op kp B ops.length bc hlen).mono ?_
      rintro e w5 ⟨rfl, c5⟩
      obtain ⟨ga, hga⟩ : ∃ ga, ga = wr.heap.size := ⟨_, rfl⟩
      have hcr5 := HZ.out.1.nil c5
      have hc5 := HZ.out.2.1.trans c5 (fun _ _ h => h)
      rw [← hga] at hcr5
      have H5 := Hid.mk (And.intro hcr5 hc5)
      rw [← hga]
      clear c5 hcr5 hc5 x0 x1 x2 x3 x4 y0 y1 y2 y3 y4 hga
      have hb5 := H5.out.1.box
      have x1 : w5.cell? ⟨ga, 1, none⟩ = some (.int .i64 sp) := hb5.cell 1 rfl
      clear hb5
      cases hd : decide (ops.length ≤ 60) with
      | false =>
        have HC := Hid.mk H5.out.1.chg
        go_wp2_with fail
        go_ret
        exact ⟨rfl, HC.out⟩
      | true =>
        go_upto_if 72 with fail
        go_cut [] from 70 to 78 (fun wx => Hid (∃ D0, Crew w wx gt gd (.slice (some ⟨gst, off, none⟩) (j + 1) cap) gl (some (ga, #[.int .i64 kd, .int .i64 sp, .int .i64 op, .int .i64 kp, .slice B ops.length bc])) σ D0 ∧ Work 700 900 σ D0 (gl.map (·.2)) ∧ D0.dead = false))
        case first =>
          as_aux_lemma =>
            obtain ⟨C5, hC5, hC5b⟩ := i64_and_mask sp 15 4 rfl (by omega)
            have hC5' : bits .and .i64 sp 15 = (C5 : Int) := hC5
            clear hC5
            by_cases hsp : 0 ≤ sp
            · go_wp2_with fail
              refine (H5.out.1.stop ((C5 : Int) + 1) (by omega)).mono ?_
              rintro e w6 ⟨⟨v6, rfl⟩, cr6⟩
              have H6 := Hid.mk cr6
              clear cr6
              go_wp2_with fail
              go_meet
              refine Hid.mk ⟨_, H6.out, HQ.out.2.1.stopped _, ?_⟩
              show (D.dead || ((C5 : Int) + 1 == 0)) = false
              rw [HQ.out.2.2.1.dead, Bool.false_or, beq_eq_false_iff_ne]
              omega
            · go_wp2_with fail
              go_meet
              exact Hid.mk ⟨_, H5.out.1, HQ.out.2.1, HQ.out.2.2.1.dead⟩
        case rest =>
          as_aux_lemma =>
            obtain ⟨D0, hcr, hwk, hde⟩ := hcut.out
            have hp : Pok σ := hcr.ok.1.pok hcr.ok.2 hwk.unbroken
            have y0 := hcr.at_ HQ.out.2.2.2.2.1 wc (Chg.refl _ _)
            have hcp := hcr.copy (List.mem_of_getElem? HQ.out.2.2.2.2.1) hp
            have HW := Hid.mk (And.intro hwk (And.intro hde hp))
            clear hcr hwk hde hp hcut x1 H5
            go_wp2_with fail
            refine hcp.mono ?_
            rintro e w6 ⟨gn, rfl, cn⟩
            have H6 := Hid.mk cn
            clear cn y0 hcp
            have hb6 := H6.out.box
            have x0 : w6.cell? ⟨ga, 0, none⟩ = some (.int .i64 kd) := hb6.cell 0 rfl
            have x4 : w6.cell? ⟨ga, 4, none⟩ = some (.slice B ops.length bc) := hb6.cell 4 rfl
            clear hb6
            go_upto_block 2 with fail
            go_cut [13, 14] from 89 to 106 (fun vf vw wx => ∃ (F W : Nat) (Fi Wi : Int), vf = .int .i64 Fi ∧ vw = .int .i64 Wi ∧ Hid (Fi = (F : Int) ∧ Wi = (W : Int)) ∧ Hid (∃ σ' D' τ', CrewN w wx gt gd (.slice (some ⟨gst, off, none⟩) (j + 1) cap) gl (ga, #[.int .i64 kd, .int .i64 sp, .int .i64 op, .int .i64 kp, .slice B ops.length bc]) gn τ' σ' D' ∧ Did kd (gl.map (·.2)) F W σ' D' τ'))
            case first =>
              as_aux_lemma =>
                by_cases k0 : kd = 0
                · subst k0
                  have hdi := did_apply HW.out.1 HW.out.2.1 ops
                  have hra := H6.out.rapply HW.out.2.2 B ops.length bc ops (HZ.out.2.2.1.keep H6.out.drop.chg (fun _ _ h => h)) HZ.out.2.2.2.2.1 HZ.out.2.2.2.1
                  have HDI := Hid.mk hdi
                  clear hdi
                  go_wp2_with fail
                  refine hra.mono ?_
                  rintro e w7 ⟨rfl, cn7, _⟩
                  have H7 := Hid.mk cn7
                  clear cn7 hra x0 x4
                  have hb7 := H7.out.box
                  have x4 : w7.cell? ⟨ga, 4, none⟩ = some (.slice B ops.length bc) := hb7.cell 4 rfl
                  have hap := H7.out.apply B ops.length bc ops (HZ.out.2.2.1.keep H7.out.drop.chg (fun _ _ h => h)) HZ.out.2.2.2.1 HZ.out.2.2.2.2.1 (by have := HW.out.1.few2; omega)
                  clear hb7
                  go_wp2_with fail
                  refine hap.mono ?_
                  rintro e w8 ⟨rfl, cn8⟩
                  have H8 := Hid.mk cn8
                  clear cn8 hap x4
                  go_wp2_with fail
                  go_meet
                  exact ⟨_, _, _, _, rfl, rfl, Hid.mk ⟨rfl, rfl⟩, Hid.mk ⟨_, _, _, H8.out, HDI.out⟩⟩
                · by_cases k2 : kd = 2
                  · subst k2
                    have hdi := did_mark HW.out.1 HW.out.2.1
                    have hra := H6.out.rmark HW.out.2.2
                    have HDI := Hid.mk hdi
                    clear hdi
                    go_wp2_with fail
                    refine hra.mono ?_
                    rintro e w7 ⟨rfl, cn7⟩
                    have H7 := Hid.mk cn7
                    clear cn7 hra x0 x4
                    have hap := H7.out.mark (by have := HW.out.1.few2; omega)
                    go_wp2_with fail
                    refine hap.mono ?_
                    rintro e w8 ⟨rfl, cn8⟩
                    have H8 := Hid.mk cn8
                    clear cn8 hap
                    go_wp2_with fail
                    go_meet
                    exact ⟨_, _, _, _, rfl, rfl, Hid.mk ⟨rfl, rfl⟩, Hid.mk ⟨_, _, _, H8.out, HDI.out⟩⟩
                  · have e0 : (kd == 0) = false := by rw [beq_eq_false_iff_ne]; exact k0
                    have e2 : (kd == 2) = false := by rw [beq_eq_false_iff_ne]; exact k2
                    have hdi := did_sync HW.out.1 HW.out.2.1 k0
                    have HDI := Hid.mk hdi
                    clear hdi
                    have hap := H6.out.sync
                    go_wp2_with fail
                    refine hap.mono ?_
                    rintro e w8 ⟨rfl, cn8⟩
                    have H8 := Hid.mk cn8
                    clear cn8 hap x0 x4
                    go_wp2_with fail
                    go_meet
                    exact ⟨_, 0, _, _, rfl, rfl, Hid.mk ⟨rfl, rfl⟩, Hid.mk ⟨_, _, _, H8.out, HDI.out⟩⟩
            case rest =>
              as_aux_lemma =>
                obtain ⟨F, W, Fi, Wi, rfl, rfl, HFi, HS⟩ := hcut
                obtain ⟨σ', D', τ', cn7, did⟩ := HS.out
                have H7 := Hid.mk (And.intro cn7 did)
                have hfw : (Fi = Wi ∧ Wi ≠ 0 ∧ D'.dead = false) ∨ (kd = 0 ∧ Fi = 0 ∧ Wi = 0) ∨ (kd ≠ 0 ∧ Fi = 0 ∧ Wi = 0) ∨ (kd = 2 ∧ Fi = 9 ∧ Wi = 0 ∧ D'.dead = true) := by
                  have hi := HFi.out
                  rcases did.way with ⟨a1, a2, a3, _⟩ | ⟨a1, a2, a3, _⟩ | ⟨a1, a2, a3, _⟩ | ⟨a1, a2, a3, a4, _⟩
                  · exact .inl ⟨by omega, by omega, a3⟩
                  · exact .inr (.inl ⟨a1, by omega, by omega⟩)
                  · exact .inr (.inr (.inl ⟨a1, by omega, by omega⟩))
                  · exact .inr (.inr (.inr ⟨a1, by omega, by omega, a4⟩))
                have HFW := Hid.mk hfw
                clear cn7 did hfw HS H6 HW x0 x4
                go_upto_region 27 with fail
                go_cut [122] from 107 to 122 (fun b wx => b = .bool false ∧ wx = wc)
                case first =>
                  as_aux_lemma =>
                    rcases HFW.out with ⟨a1, a2, a3⟩ | ⟨a1, a2, a3⟩ | ⟨a1, a2, a3⟩ | ⟨a1, a2, a3, a4⟩
                    · subst a1
                      have hwz : (Fi == 0) = false := by rw [beq_eq_false_iff_ne]; exact a2
                      have hdd := H7.out.1.dead
                      rw [a3] at hdd
                      clear a2 a3
                      go_wp2_with fail
                      refine hdd.mono ?_
                      rintro e w8 ⟨rfl, he⟩
                      have he' := he.symm
                      subst he'
                      clear he
                      go_wp2_with fail
                      go_meet
                      exact ⟨rfl, rfl⟩
                    · subst a2 a3
                      have hdd := H7.out.1.dead
                      cases hdb : D'.dead with
                      | false =>
                        rw [hdb] at hdd
                        clear hdb a1
                        go_wp2_with fail
                        refine hdd.mono ?_
                        rintro e w8 ⟨rfl, he⟩
                        have he' := he.symm
                        subst he'
                        clear he
                        go_wp2_with fail
                        go_meet
                        exact ⟨rfl, rfl⟩
                      | true =>
                        rw [hdb] at hdd
                        clear hdb a1
                        go_wp2_with fail
                        refine hdd.mono ?_
                        rintro e w8 ⟨rfl, he⟩
                        have he' := he.symm
                        subst he'
                        clear he
                        go_wp2_with fail
                        go_meet
                        exact ⟨rfl, rfl⟩
                    · subst a2 a3
                      have hdd := H7.out.1.dead
                      cases hdb : D'.dead with
                      | false =>
                        rw [hdb] at hdd
                        clear hdb a1
                        go_wp2_with fail
                        refine hdd.mono ?_
                        rintro e w8 ⟨rfl, he⟩
                        have he' := he.symm
                        subst he'
                        clear he
                        go_wp2_with fail
                        go_meet
                        exact ⟨rfl, rfl⟩
                      | true =>
                        rw [hdb] at hdd
                        clear hdb a1
                        go_wp2_with fail
                        refine hdd.mono ?_
                        rintro e w8 ⟨rfl, he⟩
                        have he' := he.symm
                        subst he'
                        clear he
                        go_wp2_with fail
                        go_meet
                        exact ⟨rfl, rfl⟩
                    · subst a2 a3
                      have hdd := H7.out.1.dead
                      rw [a4] at hdd
                      clear a1 a4
                      go_wp2_with fail
                      refine hdd.mono ?_
                      rintro e w8 ⟨rfl, he⟩
                      have he' := he.symm
                      subst he'
                      clear he
                      go_wp2_with fail
                      go_meet
                      exact ⟨rfl, rfl⟩
                case rest =>
                  as_aux_lemma =>
                    obtain ⟨rfl, rfl⟩ := hcut
                    have hb7 := H7.out.1.box
                    have x0 : wc.cell? ⟨ga, 0, none⟩ = some (.int .i64 kd) := hb7.cell 0 rfl
                    clear hb7
                    obtain ⟨ap, hap⟩ : ∃ ap, ap = decide (W = 0 ∧ kd ≠ 1) := ⟨_, rfl⟩
                    have HAP := Hid.mk hap
                    clear hap
                    go_upto_region 29 with fail
                    go_cut [129] from 123 to 129 (fun b wx => b = .bool ap ∧ wx = wc)
                    case first =>
                      as_aux_lemma =>
                        have hap := HAP.out
                        have hi := HFi.out.2
                        by_cases hW : Wi = 0
                        · have hWn : W = 0 := by omega
                          by_cases k1 : kd = 1
                          · have hap2 : ap = false := by rw [hap]; exact decide_eq_false (fun h => h.2 k1)
                            have HA2 := Hid.mk hap2
                            clear hap hap2 hWn hi
                            subst hW
                            subst k1
                            go_wp2_with fail
                            go_meet
                            exact ⟨by rw [HA2.out], rfl⟩
                          · have hap2 : ap = true := by rw [hap]; exact decide_eq_true ⟨hWn, k1⟩
                            have hk1 : (kd == 1) = false := by rw [beq_eq_false_iff_ne]; exact k1
                            have hk1n : (kd != 1) = true := by rw [bne, hk1]; rfl
                            have HA2 := Hid.mk hap2
                            clear hap hap2 hWn hi
                            subst hW
                            go_wp2_with fail
                            go_meet
                            exact ⟨by rw [HA2.out, ← hk1n], rfl⟩
                        · have hap2 : ap = false := by rw [hap]; exact decide_eq_false (fun h => hW (by omega))
                          have hwz : (Wi == 0) = false := by rw [beq_eq_false_iff_ne]; exact hW
                          have HA2 := Hid.mk hap2
                          clear hap hap2 hi hW
                          go_wp2_with fail
                          go_meet
                          exact ⟨by rw [HA2.out], rfl⟩
                    case rest =>
                      as_aux_lemma =>
                        obtain ⟨rfl, rfl⟩ := hcut
                        go_upto_if 129 with fail
                        go_cut [8] from 130 to 133 (fun v8 wx => Hid (∃ gl8, Crew w wx gt gd v8 gl8 (some (ga, #[.int .i64 kd, .int .i64 sp, .int .i64 op, .int .i64 kp, .slice B ops.length bc])) σ' D' ∧ gl8 = if ap then gl ++ [(gn, τ')] else gl))
                        case first =>
                          as_aux_lemma =>
                            cases ap with
                            | false =>
                              go_wp2_with fail
                              go_meet
                              exact Hid.mk ⟨gl, H7.out.1.drop, rfl⟩
                            | true =>
                              obtain ⟨i0, hi, hz0, hz1, hz2⟩ := info_parts Try.infoPtrStore
                              have hal : Chg Nil wc (wc.alloc (.cells #[.pointer (some ⟨gn, 0, none⟩)] 58)) := (Chg.refl _ _).alloc _
                              have hu9 : (wc.alloc (.cells #[.pointer (some ⟨gn, 0, none⟩)] 58)).cell? ⟨wc.heap.size, 0, none⟩ = some (ptrV gn) := (Bk.new wc 58 #[.pointer (some ⟨gn, 0, none⟩)]).cell 0 rfl
                              have hcn := H7.out.1.nil hal
                              obtain ⟨M9, R9, N9, rn9, st9, _⟩ := hcn.ex
                              have hrow := st9.row
                              rw [← HQ.out.2.2.2.2.2] at hrow
                              have hsz : w.heap.size ≤ (wc.alloc (.cells #[.pointer (some ⟨gn, 0, none⟩)] 58)).heap.size := rn9.chg.size
                              have HR9 := Hid.mk (And.intro hcn (And.intro hrow (And.intro hu9 hsz)))
                              clear hal hu9 hcn rn9 st9 hrow hsz
                              go_wp2_with (at_builtin; refine wpl_append_off rfl (.tmp 130) (.tmp 132) 67 rfl i0 _ Try.underlying67 hi hz0 hz1 rfl HR9.out.2.1 rfl ⟨wc.heap.size, 0, none⟩ 1 rfl _ HR9.out.2.2.1 rfl (by simp only [maxLen]; omega) (by rw [hz2]; omega) HR9.out.2.2.2 ?_; intro v9 w9 o9 g9; have H9 := Hid.mk (And.intro o9 g9); clear o9 g9)
                              go_meet
                              refine Hid.mk ⟨gl ++ [(gn, τ')], HR9.out.1.grown H9.out.2 ?_, rfl⟩
                              rw [← HQ.out.2.2.2.2.2]
                              exact H9.out.1
                        case rest =>
                          as_aux_lemma =>
                            obtain ⟨gl8, hcr8, hgl8⟩ := hcut.out
                            have hl8 : gl8.length = j + 1 ∨ gl8.length = j + 2 := by
                              have hx := HQ.out.2.2.2.2.2
                              rw [hgl8]
                              split
                              · rw [List.length_append, ← hx]; exact .inr rfl
                              · exact .inl hx.symm
                            obtain ⟨g8, off8, cap8, hv8, hgc8, hgm8, hcell8⟩ := hcr8.slice
                            obtain ⟨j8, hj8⟩ : ∃ j8, gl8.length = j8 + 1 := ⟨gl8.length - 1, by omega⟩
                            subst hv8
                            rw [hj8] at hcr8 hgc8 ⊢
                            have hj8b : j8 ≤ 902 := by omega
                            have hb8 := hcr8.box
                            have x0 : wc.cell? ⟨ga, 0, none⟩ = some (.int .i64 kd) := hb8.cell 0 rfl
                            obtain ⟨tr, htr⟩ : ∃ tr, tr = decide (F = 0 ∧ kd ≠ 0 ∧ W = 0) := ⟨_, rfl⟩
                            have H8 := Hid.mk (And.intro hcr8 (And.intro hgl8 hj8))
                            have HTR := Hid.mk htr
                            clear hcr8 hgl8 hj8 hl8 hb8 htr hcell8 hcut
                            go_upto_region 31 with fail
                            go_cut [144] from 134 to 144 (fun b wx => b = .bool tr ∧ wx = wc)
                            case first =>
                              as_aux_lemma =>
                                have htr := HTR.out
                                have hi1 := HFi.out.1
                                have hi2 := HFi.out.2
                                by_cases hF : Fi = 0
                                · have hFn : F = 0 := by omega
                                  by_cases k0 : kd = 0
                                  · have h2 : tr = false := by rw [htr]; exact decide_eq_false (fun h => h.2.1 k0)
                                    have HA2 := Hid.mk h2
                                    clear htr h2 hFn hi1 hi2
                                    subst hF
                                    subst k0
                                    go_wp2_with fail
                                    go_meet
                                    exact ⟨by rw [HA2.out], rfl⟩
                                  · have hk0 : (kd == 0) = false := by rw [beq_eq_false_iff_ne]; exact k0
                                    have hk0n : (kd != 0) = true := by rw [bne, hk0]; rfl
                                    by_cases hW : Wi = 0
                                    · have h2 : tr = true := by rw [htr]; exact decide_eq_true ⟨hFn, k0, by omega⟩
                                      have HA2 := Hid.mk h2
                                      clear htr h2 hFn hi1 hi2
                                      subst hF
                                      subst hW
                                      go_wp2_with fail
                                      go_meet
                                      exact ⟨by rw [HA2.out], rfl⟩
                                    · have h2 : tr = false := by rw [htr]; exact decide_eq_false (fun h => hW (by omega))
                                      have hwz : (Wi == 0) = false := by rw [beq_eq_false_iff_ne]; exact hW
                                      have HA2 := Hid.mk h2
                                      clear htr h2 hFn hi1 hi2 hW
                                      subst hF
                                      go_wp2_with fail
                                      go_meet
                                      exact ⟨by rw [HA2.out], rfl⟩
                                · have h2 : tr = false := by rw [htr]; exact decide_eq_false (fun h => hF (by omega))
                                  have hfz : (Fi == 0) = false := by rw [beq_eq_false_iff_ne]; exact hF
                                  have HA2 := Hid.mk h2
                                  clear htr h2 hi1 hi2 hF
                                  go_wp2_with fail
                                  go_meet
                                  exact ⟨by rw [HA2.out], rfl⟩
                            case rest =>
                              as_aux_lemma =>
                                obtain ⟨rfl, rfl⟩ := hcut
                                clear x0
                                go_upto_if 144 with fail
                                go_cut [8] from 145 to 149 (fun v3 wx => Hid (∃ gl3, Crew w wx gt gd v3 gl3 (some (ga, #[.int .i64 kd, .int .i64 sp, .int .i64 op, .int .i64 kp, .slice B ops.length bc])) σ' D' ∧ gl3 = if tr then gl8.drop (gl8.length - 1) else gl8))
                                case first =>
                                  as_aux_lemma =>
                                    cases tr with
                                    | false =>
                                      go_wp2_with fail
                                      go_meet
                                      exact Hid.mk ⟨gl8, H8.out.1, rfl⟩
                                    | true =>
                                      have hcu := H8.out.1.cut (k := j8) H8.out.2.2 (by omega)
                                      have HCU := Hid.mk hcu
                                      clear hcu
                                      go_wp2_with fail
                                      go_meet
                                      refine Hid.mk ⟨gl8.drop (gl8.length - 1), ?_, rfl⟩
                                      rw [H8.out.2.2, Nat.add_sub_cancel]
                                      have hcu := HCU.out
                                      rw [Nat.add_sub_cancel_left] at hcu
                                      exact hcu
                                case rest =>
                                  as_aux_lemma =>
                                    obtain ⟨gl3, hcr3, hgl3⟩ := hcut.out
                                    have e8 : gl8 = if W = 0 ∧ kd ≠ 1 then gl ++ [(gn, τ')] else gl := by rw [H8.out.2.1, HAP.out]; simp only [decide_eq_true_eq]
                                    have e3 : gl3 = if F = 0 ∧ kd ≠ 0 ∧ W = 0 then gl8.drop (gl8.length - 1) else gl8 := by rw [hgl3, HTR.out]; simp only [decide_eq_true_eq]
                                    have hend := did_end H7.out.2 (by rw [← HQ.out.2.2.2.2.2]; omega) e8 e3
                                    have hl3 : 1 ≤ gl3.length ∧ gl3.length ≤ j8 + 1 := by
                                      rw [hgl3]
                                      have hx := H8.out.2.2
                                      split
                                      · rw [List.length_drop]; omega
                                      · omega
                                    obtain ⟨g3, off3, cap3, hv3, hgc3, hgm3, _⟩ := hcr3.slice
                                    obtain ⟨m3, hm3⟩ : ∃ m3, gl3.length = m3 + 1 := ⟨gl3.length - 1, by omega⟩
                                    subst hv3
                                    rw [hm3] at hcr3 hgc3 ⊢
                                    have hm3b : m3 ≤ 902 := by omega
                                    have HM := Hid.mk hm3
                                    clear e8 e3 hl3 hm3
                                    have hfew := H7.out.2.few
                                    have H3 := Hid.mk (And.intro hcr3 (And.intro hend hfew))
                                    clear hcr3 hgl3 hend hfew hcut H8 HTR HAP HFW HFi H7 hj8b hgc8 hgm8
                                    --HEAD
                                    have hdd := H3.out.1.dead
                                    cases hdb : D'.dead with
                                    | false =>
                                      have hwk : Work 700 900 σ' D' (gl3.map (·.2)) := by
                                        rcases H3.out.2.1 with h | h
                                        · exact h.2
                                        · exact absurd (hdb.symm.trans h.1) (by decide)
                                      have HW := Hid.mk (And.intro hwk hdb)
                                      rw [hdb] at hdd
                                      clear hdb hwk
                                      go_wp2_with fail
                                      refine hdd.mono ?_
                                      rintro e w8 ⟨rfl, he⟩
                                      have he' := he.symm
                                      subst he'
                                      clear he hdd
                                      go_wp2_with fail
                                      refine (H3.out.1.stop (-1) (by omega)).mono ?_
                                      rintro e w9 ⟨⟨v9, rfl⟩, cr9⟩
                                      have H9 := Hid.mk cr9.forget
                                      clear cr9
                                      go_wp2_with fail
                                      go_roundw
                                      case rel => exact ⟨k + 1, gt, by omega, rfl, by go_num, Hid.mk ⟨σ', _, gl3, H9.out, HW.out.1.stopped _, ⟨by show (D'.dead || ((-1 : Int) == 0)) = false; rw [HW.out.2]; rfl, rfl⟩⟩⟩
                                      case measure => simp [intOf]; omega
                                    | true =>
                                      have hlost : Lost 700 900 D' (gl3.map (·.2)) := by
                                        rcases H3.out.2.1 with h | h
                                        · exact absurd (hdb.symm.trans h.1) (by decide)
                                        · exact h.2
                                      have HW := Hid.mk hlost
                                      rw [hdb] at hdd
                                      clear hdb hlost
                                      have hb3 := H3.out.1.box
                                      have x3 : wc.cell? ⟨ga, 3, none⟩ = some (.int .i64 kp) := hb3.cell 3 rfl
                                      clear hb3
                                      go_wp2_with fail
                                      refine hdd.mono ?_
                                      rintro e w8 ⟨rfl, he⟩
                                      have he' := he.symm
                                      subst he'
                                      clear he hdd
                                      go_wp2_with fail
                                      refine (H3.out.1.crash (bits .and .i64 kp 2047) (mask2047 kp).1 (mask2047 kp).2 (Nat.le_trans H3.out.2.2 (by omega))).mono ?_
                                      rintro e w9 ⟨⟨v9, rfl⟩, cl9⟩
                                      obtain ⟨i, τ, β, bo, hi, hbk⟩ := HW.out.backs (bits .and .i64 kp 2047)
                                      have HI := Hid.mk (And.intro hi (And.intro HW.out.uniq HW.out.may))
                                      have H9 := Hid.mk (And.intro cl9 hbk)
                                      clear hi hbk cl9 x3 HW H3
                                      go_wp2_with fail
                                      go_loopw [15, 16, 17] (fun vk v16 v17 wr => ∃ q : Nat, q ≤ 2 ∧ vk = .int .i64 (q : Int) ∧ Hid (∃ d, CrewL w wr gd (.slice (some ⟨g3, off3, none⟩) (m3 + 1) cap3) gl3 (ga, #[.int .i64 kd, .int .i64 sp, .int .i64 op, .int .i64 kp, .slice B ops.length bc]) d ∧ Back τ β bo d)) (fun vk _ _ _ => 2 - (intOf vk).toNat)
                                      case atStart => exact ⟨0, by omega, rfl, Hid.mk ⟨_, H9.out.1, H9.out.2⟩⟩
                                      case round =>
                                        as_aux_lemma =>
                                          obtain ⟨q, hq, rfl, HR2⟩ := hrel
                                          obtain ⟨d, cl, bk⟩ := HR2.out
                                          have hb2 := cl.box
                                          have x2 : wr.cell? ⟨ga, 2, none⟩ = some (.int .i64 op) := hb2.cell 2 rfl
                                          have x3 : wr.cell? ⟨ga, 3, none⟩ = some (.int .i64 kp) := hb2.cell 3 rfl
                                          have HC := Hid.mk (And.intro cl bk)
                                          clear cl bk hb2 HR2 H9
                                          by_cases hlt : q < 2 ∧ 0 ≤ op
                                          · obtain ⟨hq2, hop⟩ := hlt
                                            rcases (by omega : q = 0 ∨ q = 1) with rfl | rfl
                                            · go_wp2_with fail
                                              refine (HC.out.1.stop _ (mask15 _)).mono ?_
                                              rintro e w10 ⟨⟨v10, rfl⟩, cl10⟩
                                              have H10 := Hid.mk cl10
                                              have hop10 := cl10.open_ 700 900 (by omega) (HC.out.2.again _ 0).2.2.1 (HC.out.2.again _ 0).2.2.2.1
                                              clear cl10 x2 x3
                                              go_wp2_with fail
                                              refine hop10.mono ?_
                                              rintro e w11 ⟨hres, cl11⟩
                                              have hb11 := cl11.box
                                              have x3 : w11.cell? ⟨ga, 3, none⟩ = some (.int .i64 kp) := hb11.cell 3 rfl
                                              have H11 := Hid.mk cl11
                                              clear cl11 hb11 hop10
                                              rcases hres with ⟨_, gz, rfl⟩ | ⟨_, rfl⟩
                                              all_goals
                                                go_wp2_with fail
                                                refine (H11.out.crash _ (mask1023 _).1 (mask1023 _).2 (HC.out.2.again _ 0).2.2.2.2).mono ?_
                                                rintro e w12 ⟨⟨v12, rfl⟩, cl12⟩
                                                have H12 := Hid.mk cl12
                                                clear cl12 x3
                                                go_wp2_with fail
                                                go_roundw
                                                case rel => exact ⟨0 + 1, by omega, (by simp), Hid.mk ⟨_, H12.out, (HC.out.2.again _ _).1⟩⟩
                                                case measure => simp [intOf] <;> omega
                                            · go_wp2_with fail
                                              refine (HC.out.1.stop _ (mask15 _)).mono ?_
                                              rintro e w10 ⟨⟨v10, rfl⟩, cl10⟩
                                              have H10 := Hid.mk cl10
                                              have hop10 := cl10.open_ 700 900 (by omega) (HC.out.2.again _ 0).2.2.1 (HC.out.2.again _ 0).2.2.2.1
                                              clear cl10 x2 x3
                                              go_wp2_with fail
                                              refine hop10.mono ?_
                                              rintro e w11 ⟨hres, cl11⟩
                                              have hb11 := cl11.box
                                              have x3 : w11.cell? ⟨ga, 3, none⟩ = some (.int .i64 kp) := hb11.cell 3 rfl
                                              have H11 := Hid.mk cl11
                                              clear cl11 hb11 hop10
                                              rcases hres with ⟨_, gz, rfl⟩ | ⟨_, rfl⟩
                                              all_goals
                                                go_wp2_with fail
                                                refine (H11.out.crash _ (mask1023 _).1 (mask1023 _).2 (HC.out.2.again _ 0).2.2.2.2).mono ?_
                                                rintro e w12 ⟨⟨v12, rfl⟩, cl12⟩
                                                have H12 := Hid.mk cl12
                                                clear cl12 x3
                                                go_wp2_with fail
                                                go_roundw
                                                case rel => exact ⟨1 + 1, by omega, (by simp), Hid.mk ⟨_, H12.out, (HC.out.2.again _ _).1⟩⟩
                                                case measure => simp [intOf] <;> omega
                                          · have hlp : (decide ((q : Int) < 2) && decide (0 ≤ op)) = false := by
                                              rw [Bool.and_eq_false_iff, decide_eq_false_iff_not, decide_eq_false_iff_not]
                                              omega
                                            have HLP := Hid.mk hlp
                                            clear hlp hlt
                                            go_upto_region 37 with fail
                                            go_cut [166] from 160 to 166 (fun b wx => b = .bool false ∧ wx = wr)
                                            case first =>
                                              as_aux_lemma =>
                                                by_cases hq2 : q < 2
                                                · have hop : ¬ 0 ≤ op := by
                                                    have h := HLP.out
                                                    rw [Bool.and_eq_false_iff, decide_eq_false_iff_not, decide_eq_false_iff_not] at h
                                                    omega
                                                  go_wp2_with fail
                                                  go_meet
                                                  exact ⟨rfl, rfl⟩
                                                · go_wp2_with fail
                                                  go_meet
                                                  exact ⟨rfl, rfl⟩
                                            case rest =>
                                              as_aux_lemma =>
                                                obtain ⟨rfl, rfl⟩ := hcut
                                                obtain ⟨D2, o1, o2, o3, o4, o5, o6⟩ := HC.out.2.opened
                                                have hopn := HC.out.1.opened 700 900 (by omega) o5 o6 o1 o2
                                                have HO := Hid.mk (And.intro o3 o4)
                                                clear o1 o2 o3 o4 o5 o6 x2 x3 HLP
                                                go_wp2_with fail
                                                refine hopn.mono ?_
                                                rintro e w10 ⟨gs2, rfl, cr10⟩
                                                have H10 := Hid.mk cr10
                                                have hil : i < m3 + 1 := by
                                                  rw [← HM.out]
                                                  have h := HI.out.1
                                                  rcases Nat.lt_or_ge i gl3.length with h1 | h1
                                                  · exact h1
                                                  · rw [List.getElem?_eq_none (by rw [List.length_map]; exact h1)] at h; cases h
                                                clear cr10 hopn HC
                                                go_wp2_with fail
                                                go_loopw [20, 21] (fun vf vk wr => ∃ (f kk : Int), vf = .int .i64 f ∧ vk = .int .i64 kk ∧ ((f = -1 ∧ (i : Int) ≤ kk ∧ kk ≤ (m3 : Int)) ∨ (f = (i : Int) ∧ kk = (i : Int) - 1)) ∧ Hid (Crew w wr gs2 gd (.slice (some ⟨g3, off3, none⟩) (m3 + 1) cap3) gl3 (some (ga, #[.int .i64 kd, .int .i64 sp, .int .i64 op, .int .i64 kp, .slice B ops.length bc])) τ D2)) (fun _ vk _ => (intOf vk + 1).toNat)
                                                case atStart => exact ⟨-1, (m3 : Int), rfl, by go_num, .inl ⟨rfl, by omega, Int.le_refl _⟩, Hid.mk H10.out⟩
                                                case round =>
                                                  as_aux_lemma =>
                                                    obtain ⟨f, kk, rfl, rfl, hrl, HR3⟩ := hrel
                                                    rcases hrl with ⟨rfl, h1, h2⟩ | ⟨rfl, rfl⟩
                                                    · obtain ⟨K, rfl⟩ : ∃ K : Nat, kk = (K : Int) := ⟨kk.toNat, by omega⟩
                                                      have hK : gl3[K]? = some (gl3[K]'(by rw [HM.out]; omega)) := List.getElem?_eq_getElem _
                                                      generalize gl3[K]'(by rw [HM.out]; omega) = qK at hK
                                                      obtain ⟨gK, τK⟩ := qK
                                                      have hcase := crash_cases HI.out.2.1 HI.out.1 hK
                                                      obtain ⟨F5, rf5⟩ := HR3.out.ref (List.mem_of_getElem? hK)
                                                      obtain ⟨M5, R5, N5, rn5⟩ := HR3.out.run
                                                      obtain ⟨A5, c5, ⟨_, _, _, z3, z4, z5⟩, kp5⟩ := rf5.cells
                                                      have hy := HR3.out.at_ hK
                                                      have hC : ∀ W, Chg Nil wr W → W.cell? ⟨g3, off3 + K, none⟩ = some (.pointer (some ⟨gK, 0, none⟩)) ∧ W.cell? ⟨gK, 5, none⟩ = some (.slice A5 τK.pts.length c5) ∧ W.cell? ⟨gK, 4, none⟩ = some (.int .u64 (τK.u : Int)) ∧ W.cell? ⟨gK, 3, none⟩ = some (.int .u64 (τK.gen : Int)) := fun W hW => ⟨hy W hW, hW.cell z5 (fun h => h), hW.cell z4 (fun h => h), hW.cell z3 (fun h => h)⟩
                                                      have hP := fun W (hW : Chg Nil wr W) => (rn5.nil hW).pointsC
                                                      have hlen1 : τ.pts.length ≤ 20000 := (mayP_zero (HI.out.2.2 τ (List.mem_of_getElem? HI.out.1))).1
                                                      have hlen2 : τK.pts.length ≤ 20000 := (mayP_zero (HI.out.2.2 τK (List.mem_map_of_mem (f := (·.2)) (List.mem_of_getElem? hK)))).1
                                                      have hSP := fun W A1 k1 (hW : Chg Nil wr W) (q : RdP W (fun _ => True) A1 τ.pts.length τ.pts) => samePts_eqB A1 A5 τ.pts.length τK.pts.length k1 c5 τ.pts τK.pts _ _ W q (kp5.nil hW).rd (by omega) (by omega)
                                                      have hU := fun W (hW : Chg Nil wr W) => (rn5.nil hW).uC
                                                      have hG := fun W (hW : Chg Nil wr W) => (rn5.nil hW).genC
                                                      have hK1 : K < m3 + 1 := by omega
                                                      have hK2 : (0 : Int) ≤ (K : Int) := by omega
                                                      have hK3 : (K : Int) < (m3 : Int) + 1 := by omega
                                                      have hK4 : (K : Int) < ((m3 + 1 : Nat) : Int) := by omega
                                                      have hK5 : (K : Int).toNat = K := by omega
                                                      clear rn5 rf5 hK kp5 hy hlen1 hlen2 z3 z4 z5
                                                      generalize τ.pts.length = L at hP hSP
                                                      generalize τK.pts.length = LK at hSP hC
                                                      generalize eqB (τ.pts = τK.pts) = pb at hcase hSP
                                                      generalize τ.u = U at hU hcase
                                                      generalize τK.u = UK at hC hcase
                                                      generalize τ.gen = G at hG hcase
                                                      generalize τK.gen = GK at hC hcase
                                                      have HF := Hid.mk (And.intro hC (And.intro hP (And.intro hSP (And.intro hU hG))))
                                                      clear hC hP hSP hU hG
                                                      rcases hcase with ⟨rfl, hne⟩ | ⟨rfl, hx, hne⟩ | ⟨rfl, rfl, hx, hne⟩ | ⟨rfl, rfl, rfl, rfl⟩
                                                      · go_wp2_with fail
                                                        refine wp_region_held_drew (S := (fun w' => w'.cell? ⟨g3, off3 + K, none⟩ = some (.pointer (some ⟨gK, 0, none⟩)) ∧ w'.cell? ⟨gK, 5, none⟩ = some (.slice A5 LK c5) ∧ w'.cell? ⟨gK, 4, none⟩ = some (.int .u64 (UK : Int)) ∧ w'.cell? ⟨gK, 3, none⟩ = some (.int .u64 (GK : Int)))) (by kernel_rfl) (HF.out.1 _ (Chg.refl Nil wr).drew) (fun hHeld => ?_)
                                                        refine wpAnyH_take (i := 0) (oi := { dst := some 227, op := Op.move (Operand.tmp 18), type := 24, pos := "law.go:153", after := #[], guard := none }) (v := ?v0) rfl (by kernel_rfl) (by kernel_rfl) (by kernel_rfl) (fun _ _ _ h => h) (Or.inl ⟨by rfl, ?hy0⟩) (by assumption) ?rest0
                                                        case hy0 =>
                                                          intro W hSW
                                                          obtain ⟨s1, s2, s3, s4⟩ := hSW
                                                          go_simp
                                                          all_goals with_reducible rfl
                                                        try simp only [Act.put, List.setIfInBounds_toArray, List.set_cons_zero, List.set_cons_succ]
                                                        refine wpAnyH_take (i := 2) (oi := { dst := some 229, op := Op.move (Operand.tmp 8), type := 67, pos := "law.go:153", after := #[], guard := none }) (v := ?v2) rfl (by kernel_rfl) (by kernel_rfl) (by kernel_rfl) (fun _ _ _ h => h) (Or.inl ⟨by rfl, ?hy2⟩) (by assumption) ?rest2
                                                        case hy2 =>
                                                          intro W hSW
                                                          obtain ⟨s1, s2, s3, s4⟩ := hSW
                                                          go_simp
                                                          all_goals with_reducible rfl
                                                        try simp only [Act.put, List.setIfInBounds_toArray, List.set_cons_zero, List.set_cons_succ]
                                                        refine wpAnyH_take (i := 3) (oi := { dst := some 230, op := Op.move (Operand.tmp 21), type := 3, pos := "law.go:153", after := #[], guard := none }) (v := ?v3) rfl (by kernel_rfl) (by kernel_rfl) (by kernel_rfl) (fun _ _ _ h => h) (Or.inl ⟨by rfl, ?hy3⟩) (by assumption) ?rest3
                                                        case hy3 =>
                                                          intro W hSW
                                                          obtain ⟨s1, s2, s3, s4⟩ := hSW
                                                          go_simp
                                                          all_goals with_reducible rfl
                                                        try simp only [Act.put, List.setIfInBounds_toArray, List.set_cons_zero, List.set_cons_succ]
                                                        refine wpAnyH_take (i := 4) (oi := { dst := some 231, op := Op.indexAddr 67 (Operand.tmp 229) (Operand.tmp 230), type := 0, pos := "law.go:153", after := #[{ on := 2, ground := Ground.data }, { on := 3, ground := Ground.data }], guard := none }) (v := ?v4) rfl (by kernel_rfl) (by kernel_rfl) (by kernel_rfl) (fun _ _ _ h => h) (Or.inl ⟨by rfl, ?hy4⟩) (by assumption) ?rest4
                                                        case hy4 =>
                                                          intro W hSW
                                                          obtain ⟨s1, s2, s3, s4⟩ := hSW
                                                          go_simp
                                                          all_goals with_reducible rfl
                                                        try simp only [Act.put, List.setIfInBounds_toArray, List.set_cons_zero, List.set_cons_succ]
                                                        refine wpAnyH_take (i := 5) (oi := { dst := some 232, op := Op.load 58 (Operand.tmp 231), type := 58, pos := "law.go:153", after := #[{ on := 4, ground := Ground.data }], guard := none }) (v := ?v5) rfl (by kernel_rfl) (by kernel_rfl) (by kernel_rfl) (fun _ _ _ h => h) (Or.inl ⟨by rfl, ?hy5⟩) (by assumption) ?rest5
                                                        case hy5 =>
                                                          intro W hSW
                                                          obtain ⟨s1, s2, s3, s4⟩ := hSW
                                                          go_simp
                                                          all_goals with_reducible rfl
                                                        try simp only [Act.put, List.setIfInBounds_toArray, List.set_cons_zero, List.set_cons_succ]
                                                        refine wpAnyH_take (i := 6) (oi := { dst := some 233, op := Op.nilCheck (Operand.tmp 232), type := 0, pos := "law.go:153", after := #[{ on := 5, ground := Ground.data }], guard := none }) (v := ?v6) rfl (by kernel_rfl) (by kernel_rfl) (by kernel_rfl) (fun _ _ _ h => h) (Or.inl ⟨by rfl, ?hy6⟩) (by assumption) ?rest6
                                                        case hy6 =>
                                                          intro W hSW
                                                          obtain ⟨s1, s2, s3, s4⟩ := hSW
                                                          go_simp
                                                          all_goals with_reducible rfl
                                                        try simp only [Act.put, List.setIfInBounds_toArray, List.set_cons_zero, List.set_cons_succ]
                                                        refine wpAnyH_take (i := 7) (oi := { dst := some 234, op := Op.fieldAddr 65 (Operand.tmp 233) 5, type := 0, pos := "law.go:153", after := #[{ on := 6, ground := Ground.data }], guard := none }) (v := ?v7) rfl (by kernel_rfl) (by kernel_rfl) (by kernel_rfl) (fun _ _ _ h => h) (Or.inl ⟨by rfl, ?hy7⟩) (by assumption) ?rest7
                                                        case hy7 =>
                                                          intro W hSW
                                                          obtain ⟨s1, s2, s3, s4⟩ := hSW
                                                          go_simp
                                                          all_goals with_reducible rfl
                                                        try simp only [Act.put, List.setIfInBounds_toArray, List.set_cons_zero, List.set_cons_succ]
                                                        refine wpAnyH_take (i := 8) (oi := { dst := some 235, op := Op.load 36 (Operand.tmp 234), type := 36, pos := "law.go:153", after := #[{ on := 7, ground := Ground.data }], guard := none }) (v := ?v8) rfl (by kernel_rfl) (by kernel_rfl) (by kernel_rfl) (fun _ _ _ h => h) (Or.inl ⟨by rfl, ?hy8⟩) (by assumption) ?rest8
                                                        case hy8 =>
                                                          intro W hSW
                                                          obtain ⟨s1, s2, s3, s4⟩ := hSW
                                                          go_simp
                                                          all_goals with_reducible rfl
                                                        try simp only [Act.put, List.setIfInBounds_toArray, List.set_cons_zero, List.set_cons_succ]
                                                        refine wpAnyH_ready (rs := [1]) (by kernel_rfl) (by simp) ?_
                                                        refine AllReadyH.cons rfl (fun K' hK' => ?_) AllReadyH.nil
                                                        go_simp
                                                        go_wp2_with fail
                                                        refine (HF.out.2.1 _ (Chg.refl Nil wr).drew).mono ?_
                                                        rintro e w1 ⟨A1, k1, rfl, q0, q1, c1⟩
                                                        have H1 := Hid.mk (And.intro ((Chg.refl Nil wr).drew.trans c1 (fun _ _ h => h)) q0.rd)
                                                        clear c1 q0 q1
                                                        go_wp2_with fail
                                                        refine hK'.out _ _ (HF.out.1 _ H1.out.1) (fun hHeld => ?_)
                                                        clear hK' K'
                                                        refine wpAnyH_ready (rs := [9]) (by kernel_rfl) (by simp) ?_
                                                        refine AllReadyH.cons rfl (fun K' hK' => ?_) AllReadyH.nil
                                                        go_simp
                                                        go_wp2_with fail
                                                        refine (HF.out.2.2.1 _ _ _ H1.out.1 H1.out.2).mono ?_
                                                        rintro e w2 ⟨rfl, c2⟩
                                                        have H2 := Hid.mk (H1.out.1.trans c2 (fun _ _ h => h))
                                                        clear c2
                                                        go_wp2_with fail
                                                        refine hK'.out _ _ (HF.out.1 _ H2.out) (fun hHeld => ?_)
                                                        clear hK' K'
                                                        refine wpAnyH_take (i := 10) (oi := { dst := some 237, op := Op.move (Operand.tmp 236), type := 4, pos := "law.go:153", after := #[{ on := 9, ground := Ground.data }, { on := 9, ground := Ground.chain }], guard := none }) (v := ?v10) rfl (by kernel_rfl) (by kernel_rfl) (by kernel_rfl) (fun _ _ _ h => h) (Or.inl ⟨by rfl, ?hy10⟩) (by assumption) ?rest10
                                                        case hy10 =>
                                                          intro W hSW
                                                          obtain ⟨s1, s2, s3, s4⟩ := hSW
                                                          go_simp
                                                          all_goals with_reducible rfl
                                                        try simp only [Act.put, List.setIfInBounds_toArray, List.set_cons_zero, List.set_cons_succ]
                                                        refine wpAnyH_take (i := 11) (oi := { dst := some 238, op := Op.move (Operand.tmp 18), type := 24, pos := "law.go:153", after := #[{ on := 10, ground := Ground.guard }], guard := some (10, true) }) (v := undef) rfl (by kernel_rfl) (by kernel_rfl) (by kernel_rfl) (fun _ _ _ h => h) (Or.inr ⟨by rfl, rfl⟩) (by assumption) ?_
                                                        try simp only [Act.put, List.setIfInBounds_toArray, List.set_cons_zero, List.set_cons_succ]
                                                        refine wpAnyH_take (i := 12) (oi := { dst := some 239, op := Op.call { callee := Callee.value (Operand.func 18), args := #[Operand.tmp 238], argTypes := #[24] }, type := 38, pos := "law.go:153", after := #[{ on := 11, ground := Ground.data }, { on := 10, ground := Ground.chain }, { on := 10, ground := Ground.guard }], guard := some (10, true) }) (v := undef) rfl (by kernel_rfl) (by kernel_rfl) (by kernel_rfl) (fun _ _ _ h => h) (Or.inr ⟨by rfl, rfl⟩) (by assumption) ?_
                                                        try simp only [Act.put, List.setIfInBounds_toArray, List.set_cons_zero, List.set_cons_succ]
                                                        refine wpAnyH_take (i := 13) (oi := { dst := some 240, op := Op.move (Operand.tmp 8), type := 67, pos := "law.go:153", after := #[{ on := 10, ground := Ground.guard }], guard := some (10, true) }) (v := undef) rfl (by kernel_rfl) (by kernel_rfl) (by kernel_rfl) (fun _ _ _ h => h) (Or.inr ⟨by rfl, rfl⟩) (by assumption) ?_
                                                        try simp only [Act.put, List.setIfInBounds_toArray, List.set_cons_zero, List.set_cons_succ]
                                                        refine wpAnyH_take (i := 14) (oi := { dst := some 241, op := Op.move (Operand.tmp 21), type := 3, pos := "law.go:153", after := #[{ on := 10, ground := Ground.guard }], guard := some (10, true) }) (v := undef) rfl (by kernel_rfl) (by kernel_rfl) (by kernel_rfl) (fun _ _ _ h => h) (Or.inr ⟨by rfl, rfl⟩) (by assumption) ?_
                                                        try simp only [Act.put, List.setIfInBounds_toArray, List.set_cons_zero, List.set_cons_succ]
                                                        refine wpAnyH_take (i := 15) (oi := { dst := some 242, op := Op.indexAddr 67 (Operand.tmp 240) (Operand.tmp 241), type := 0, pos := "law.go:153", after := #[{ on := 13, ground := Ground.data }, { on := 14, ground := Ground.data }, { on := 10, ground := Ground.guard }], guard := some (10, true) }) (v := undef) rfl (by kernel_rfl) (by kernel_rfl) (by kernel_rfl) (fun _ _ _ h => h) (Or.inr ⟨by rfl, rfl⟩) (by assumption) ?_
                                                        try simp only [Act.put, List.setIfInBounds_toArray, List.set_cons_zero, List.set_cons_succ]
                                                        refine wpAnyH_take (i := 16) (oi := { dst := some 243, op := Op.load 58 (Operand.tmp 242), type := 58, pos := "law.go:153", after := #[{ on := 15, ground := Ground.data }, { on := 10, ground := Ground.guard }], guard := some (10, true) }) (v := undef) rfl (by kernel_rfl) (by kernel_rfl) (by kernel_rfl) (fun _ _ _ h => h) (Or.inr ⟨by rfl, rfl⟩) (by assumption) ?_
                                                        try simp only [Act.put, List.setIfInBounds_toArray, List.set_cons_zero, List.set_cons_succ]
                                                        refine wpAnyH_take (i := 17) (oi := { dst := some 244, op := Op.nilCheck (Operand.tmp 243), type := 0, pos := "law.go:153", after := #[{ on := 16, ground := Ground.data }, { on := 10, ground := Ground.guard }], guard := some (10, true) }) (v := undef) rfl (by kernel_rfl) (by kernel_rfl) (by kernel_rfl) (fun _ _ _ h => h) (Or.inr ⟨by rfl, rfl⟩) (by assumption) ?_
                                                        try simp only [Act.put, List.setIfInBounds_toArray, List.set_cons_zero, List.set_cons_succ]
                                                        refine wpAnyH_take (i := 18) (oi := { dst := some 245, op := Op.fieldAddr 65 (Operand.tmp 244) 4, type := 0, pos := "law.go:153", after := #[{ on := 17, ground := Ground.data }, { on := 10, ground := Ground.guard }], guard := some (10, true) }) (v := undef) rfl (by kernel_rfl) (by kernel_rfl) (by kernel_rfl) (fun _ _ _ h => h) (Or.inr ⟨by rfl, rfl⟩) (by assumption) ?_
                                                        try simp only [Act.put, List.setIfInBounds_toArray, List.set_cons_zero, List.set_cons_succ]
                                                        refine wpAnyH_take (i := 19) (oi := { dst := some 246, op := Op.load 38 (Operand.tmp 245), type := 38, pos := "law.go:153", after := #[{ on := 18, ground := Ground.data }, { on := 10, ground := Ground.guard }], guard := some (10, true) }) (v := undef) rfl (by kernel_rfl) (by kernel_rfl) (by kernel_rfl) (fun _ _ _ h => h) (Or.inr ⟨by rfl, rfl⟩) (by assumption) ?_
                                                        try simp only [Act.put, List.setIfInBounds_toArray, List.set_cons_zero, List.set_cons_succ]
                                                        refine wpAnyH_take (i := 20) (oi := { dst := some 247, op := Op.binOp BinOp.eql 38 (Operand.tmp 239) (Operand.tmp 246) 38, type := 4, pos := "law.go:153", after := #[{ on := 12, ground := Ground.data }, { on := 19, ground := Ground.data }, { on := 10, ground := Ground.guard }], guard := some (10, true) }) (v := undef) rfl (by kernel_rfl) (by kernel_rfl) (by kernel_rfl) (fun _ _ _ h => h) (Or.inr ⟨by rfl, rfl⟩) (by assumption) ?_
                                                        try simp only [Act.put, List.setIfInBounds_toArray, List.set_cons_zero, List.set_cons_succ]
                                                        refine wpAnyH_take (i := 21) (oi := { dst := some 248, op := Op.pick (Operand.tmp 237) (Operand.tmp 247) (Operand.const (Value.bool false)), type := 4, pos := "law.go:153", after := #[{ on := 10, ground := Ground.data }, { on := 20, ground := Ground.data }], guard := none }) (v := ?v21) rfl (by kernel_rfl) (by kernel_rfl) (by kernel_rfl) (fun _ _ _ h => h) (Or.inl ⟨by rfl, ?hy21⟩) (by assumption) ?rest21
                                                        case hy21 =>
                                                          intro W hSW
                                                          obtain ⟨s1, s2, s3, s4⟩ := hSW
                                                          go_simp
                                                          all_goals with_reducible rfl
                                                        try simp only [Act.put, List.setIfInBounds_toArray, List.set_cons_zero, List.set_cons_succ]
                                                        refine wpAnyH_take (i := 22) (oi := { dst := some 249, op := Op.move (Operand.tmp 248), type := 4, pos := "law.go:153", after := #[{ on := 21, ground := Ground.data }, { on := 12, ground := Ground.chain }], guard := none }) (v := ?v22) rfl (by kernel_rfl) (by kernel_rfl) (by kernel_rfl) (fun _ _ _ h => h) (Or.inl ⟨by rfl, ?hy22⟩) (by assumption) ?rest22
                                                        case hy22 =>
                                                          intro W hSW
                                                          obtain ⟨s1, s2, s3, s4⟩ := hSW
                                                          go_simp
                                                          all_goals with_reducible rfl
                                                        try simp only [Act.put, List.setIfInBounds_toArray, List.set_cons_zero, List.set_cons_succ]
                                                        refine wpAnyH_take (i := 23) (oi := { dst := some 250, op := Op.move (Operand.tmp 18), type := 24, pos := "law.go:153", after := #[{ on := 22, ground := Ground.guard }], guard := some (22, true) }) (v := undef) rfl (by kernel_rfl) (by kernel_rfl) (by kernel_rfl) (fun _ _ _ h => h) (Or.inr ⟨by rfl, rfl⟩) (by assumption) ?_
                                                        try simp only [Act.put, List.setIfInBounds_toArray, List.set_cons_zero, List.set_cons_succ]
                                                        refine wpAnyH_take (i := 24) (oi := { dst := some 251, op := Op.call { callee := Callee.value (Operand.func 26), args := #[Operand.tmp 250], argTypes := #[24] }, type := 38, pos := "law.go:153", after := #[{ on := 23, ground := Ground.data }, { on := 22, ground := Ground.chain }, { on := 22, ground := Ground.guard }], guard := some (22, true) }) (v := undef) rfl (by kernel_rfl) (by kernel_rfl) (by kernel_rfl) (fun _ _ _ h => h) (Or.inr ⟨by rfl, rfl⟩) (by assumption) ?_
                                                        try simp only [Act.put, List.setIfInBounds_toArray, List.set_cons_zero, List.set_cons_succ]
                                                        refine wpAnyH_take (i := 25) (oi := { dst := some 252, op := Op.move (Operand.tmp 8), type := 67, pos := "law.go:153", after := #[{ on := 22, ground := Ground.guard }], guard := some (22, true) }) (v := undef) rfl (by kernel_rfl) (by kernel_rfl) (by kernel_rfl) (fun _ _ _ h => h) (Or.inr ⟨by rfl, rfl⟩) (by assumption) ?_
                                                        try simp only [Act.put, List.setIfInBounds_toArray, List.set_cons_zero, List.set_cons_succ]
                                                        refine wpAnyH_take (i := 26) (oi := { dst := some 253, op := Op.move (Operand.tmp 21), type := 3, pos := "law.go:153", after := #[{ on := 22, ground := Ground.guard }], guard := some (22, true) }) (v := undef) rfl (by kernel_rfl) (by kernel_rfl) (by kernel_rfl) (fun _ _ _ h => h) (Or.inr ⟨by rfl, rfl⟩) (by assumption) ?_
                                                        try simp only [Act.put, List.setIfInBounds_toArray, List.set_cons_zero, List.set_cons_succ]
                                                        refine wpAnyH_take (i := 27) (oi := { dst := some 254, op := Op.indexAddr 67 (Operand.tmp 252) (Operand.tmp 253), type := 0, pos := "law.go:153", after := #[{ on := 25, ground := Ground.data }, { on := 26, ground := Ground.data }, { on := 22, ground := Ground.guard }], guard := some (22, true) }) (v := undef) rfl (by kernel_rfl) (by kernel_rfl) (by kernel_rfl) (fun _ _ _ h => h) (Or.inr ⟨by rfl, rfl⟩) (by assumption) ?_
                                                        try simp only [Act.put, List.setIfInBounds_toArray, List.set_cons_zero, List.set_cons_succ]
                                                        refine wpAnyH_take (i := 28) (oi := { dst := some 255, op := Op.load 58 (Operand.tmp 254), type := 58, pos := "law.go:153", after := #[{ on := 27, ground := Ground.data }, { on := 22, ground := Ground.guard }], guard := some (22, true) }) (v := undef) rfl (by kernel_rfl) (by kernel_rfl) (by kernel_rfl) (fun _ _ _ h => h) (Or.inr ⟨by rfl, rfl⟩) (by assumption) ?_
                                                        try simp only [Act.put, List.setIfInBounds_toArray, List.set_cons_zero, List.set_cons_succ]
                                                        refine wpAnyH_take (i := 29) (oi := { dst := some 256, op := Op.nilCheck (Operand.tmp 255), type := 0, pos := "law.go:153", after := #[{ on := 28, ground := Ground.data }, { on := 22, ground := Ground.guard }], guard := some (22, true) }) (v := undef) rfl (by kernel_rfl) (by kernel_rfl) (by kernel_rfl) (fun _ _ _ h => h) (Or.inr ⟨by rfl, rfl⟩) (by assumption) ?_
                                                        try simp only [Act.put, List.setIfInBounds_toArray, List.set_cons_zero, List.set_cons_succ]
                                                        refine wpAnyH_take (i := 30) (oi := { dst := some 257, op := Op.fieldAddr 65 (Operand.tmp 256) 3, type := 0, pos := "law.go:153", after := #[{ on := 29, ground := Ground.data }, { on := 22, ground := Ground.guard }], guard := some (22, true) }) (v := undef) rfl (by kernel_rfl) (by kernel_rfl) (by kernel_rfl) (fun _ _ _ h => h) (Or.inr ⟨by rfl, rfl⟩) (by assumption) ?_
                                                        try simp only [Act.put, List.setIfInBounds_toArray, List.set_cons_zero, List.set_cons_succ]
                                                        refine wpAnyH_take (i := 31) (oi := { dst := some 258, op := Op.load 38 (Operand.tmp 257), type := 38, pos := "law.go:153", after := #[{ on := 30, ground := Ground.data }, { on := 22, ground := Ground.guard }], guard := some (22, true) }) (v := undef) rfl (by kernel_rfl) (by kernel_rfl) (by kernel_rfl) (fun _ _ _ h => h) (Or.inr ⟨by rfl, rfl⟩) (by assumption) ?_
                                                        try simp only [Act.put, List.setIfInBounds_toArray, List.set_cons_zero, List.set_cons_succ]
                                                        refine wpAnyH_take (i := 32) (oi := { dst := some 259, op := Op.binOp BinOp.eql 38 (Operand.tmp 251) (Operand.tmp 258) 38, type := 4, pos := "law.go:153", after := #[{ on := 24, ground := Ground.data }, { on := 31, ground := Ground.data }, { on := 22, ground := Ground.guard }], guard := some (22, true) }) (v := undef) rfl (by kernel_rfl) (by kernel_rfl) (by kernel_rfl) (fun _ _ _ h => h) (Or.inr ⟨by rfl, rfl⟩) (by assumption) ?_
                                                        try simp only [Act.put, List.setIfInBounds_toArray, List.set_cons_zero, List.set_cons_succ]
                                                        refine wpAnyH_take (i := 33) (oi := { dst := some 260, op := Op.pick (Operand.tmp 249) (Operand.tmp 259) (Operand.const (Value.bool false)), type := 4, pos := "law.go:153", after := #[{ on := 22, ground := Ground.data }, { on := 32, ground := Ground.data }], guard := none }) (v := ?v33) rfl (by kernel_rfl) (by kernel_rfl) (by kernel_rfl) (fun _ _ _ h => h) (Or.inl ⟨by rfl, ?hy33⟩) (by assumption) ?rest33
                                                        case hy33 =>
                                                          intro W hSW
                                                          obtain ⟨s1, s2, s3, s4⟩ := hSW
                                                          go_simp
                                                          all_goals with_reducible rfl
                                                        try simp only [Act.put, List.setIfInBounds_toArray, List.set_cons_zero, List.set_cons_succ]
                                                        refine wpAnyH_done (by kernel_rfl) ?_ _
                                                        go_wp2_with fail
                                                        go_roundw
                                                        case rel => exact ⟨-1, (K : Int) - 1, rfl, rfl, .inl ⟨rfl, by omega, by omega⟩, Hid.mk (HR3.out.nil H2.out)⟩
                                                        case measure => simp [intOf] <;> omega
                                                      · have hxb : ((U : Int) == (UK : Int)) = false := by rw [beq_eq_false_iff_ne]; omega
                                                        go_wp2_with fail
                                                        refine wp_region_held_drew (S := (fun w' => w'.cell? ⟨g3, off3 + K, none⟩ = some (.pointer (some ⟨gK, 0, none⟩)) ∧ w'.cell? ⟨gK, 5, none⟩ = some (.slice A5 LK c5) ∧ w'.cell? ⟨gK, 4, none⟩ = some (.int .u64 (UK : Int)) ∧ w'.cell? ⟨gK, 3, none⟩ = some (.int .u64 (GK : Int)))) (by kernel_rfl) (HF.out.1 _ (Chg.refl Nil wr).drew) (fun hHeld => ?_)
                                                        refine wpAnyH_take (i := 0) (oi := { dst := some 227, op := Op.move (Operand.tmp 18), type := 24, pos := "law.go:153", after := #[], guard := none }) (v := ?vb0) rfl (by kernel_rfl) (by kernel_rfl) (by kernel_rfl) (fun _ _ _ h => h) (Or.inl ⟨by rfl, ?hyb0⟩) (by assumption) ?restb0
                                                        case hyb0 =>
                                                          intro W hSW
                                                          obtain ⟨s1, s2, s3, s4⟩ := hSW
                                                          go_simp
                                                          all_goals with_reducible rfl
                                                        try simp only [Act.put, List.setIfInBounds_toArray, List.set_cons_zero, List.set_cons_succ]
                                                        refine wpAnyH_take (i := 2) (oi := { dst := some 229, op := Op.move (Operand.tmp 8), type := 67, pos := "law.go:153", after := #[], guard := none }) (v := ?vb2) rfl (by kernel_rfl) (by kernel_rfl) (by kernel_rfl) (fun _ _ _ h => h) (Or.inl ⟨by rfl, ?hyb2⟩) (by assumption) ?restb2
                                                        case hyb2 =>
                                                          intro W hSW
                                                          obtain ⟨s1, s2, s3, s4⟩ := hSW
                                                          go_simp
                                                          all_goals with_reducible rfl
                                                        try simp only [Act.put, List.setIfInBounds_toArray, List.set_cons_zero, List.set_cons_succ]
                                                        refine wpAnyH_take (i := 3) (oi := { dst := some 230, op := Op.move (Operand.tmp 21), type := 3, pos := "law.go:153", after := #[], guard := none }) (v := ?vb3) rfl (by kernel_rfl) (by kernel_rfl) (by kernel_rfl) (fun _ _ _ h => h) (Or.inl ⟨by rfl, ?hyb3⟩) (by assumption) ?restb3
                                                        case hyb3 =>
                                                          intro W hSW
                                                          obtain ⟨s1, s2, s3, s4⟩ := hSW
                                                          go_simp
                                                          all_goals with_reducible rfl
                                                        try simp only [Act.put, List.setIfInBounds_toArray, List.set_cons_zero, List.set_cons_succ]
                                                        refine wpAnyH_take (i := 4) (oi := { dst := some 231, op := Op.indexAddr 67 (Operand.tmp 229) (Operand.tmp 230), type := 0, pos := "law.go:153", after := #[{ on := 2, ground := Ground.data }, { on := 3, ground := Ground.data }], guard := none }) (v := ?vb4) rfl (by kernel_rfl) (by kernel_rfl) (by kernel_rfl) (fun _ _ _ h => h) (Or.inl ⟨by rfl, ?hyb4⟩) (by assumption) ?restb4
                                                        case hyb4 =>
                                                          intro W hSW
                                                          obtain ⟨s1, s2, s3, s4⟩ := hSW
                                                          go_simp
                                                          all_goals with_reducible rfl
                                                        try simp only [Act.put, List.setIfInBounds_toArray, List.set_cons_zero, List.set_cons_succ]
                                                        refine wpAnyH_take (i := 5) (oi := { dst := some 232, op := Op.load 58 (Operand.tmp 231), type := 58, pos := "law.go:153", after := #[{ on := 4, ground := Ground.data }], guard := none }) (v := ?vb5) rfl (by kernel_rfl) (by kernel_rfl) (by kernel_rfl) (fun _ _ _ h => h) (Or.inl ⟨by rfl, ?hyb5⟩) (by assumption) ?restb5
                                                        case hyb5 =>
                                                          intro W hSW
                                                          obtain ⟨s1, s2, s3, s4⟩ := hSW
                                                          go_simp
                                                          all_goals with_reducible rfl
                                                        try simp only [Act.put, List.setIfInBounds_toArray, List.set_cons_zero, List.set_cons_succ]
                                                        refine wpAnyH_take (i := 6) (oi := { dst := some 233, op := Op.nilCheck (Operand.tmp 232), type := 0, pos := "law.go:153", after := #[{ on := 5, ground := Ground.data }], guard := none }) (v := ?vb6) rfl (by kernel_rfl) (by kernel_rfl) (by kernel_rfl) (fun _ _ _ h => h) (Or.inl ⟨by rfl, ?hyb6⟩) (by assumption) ?restb6
                                                        case hyb6 =>
                                                          intro W hSW
                                                          obtain ⟨s1, s2, s3, s4⟩ := hSW
                                                          go_simp
                                                          all_goals with_reducible rfl
                                                        try simp only [Act.put, List.setIfInBounds_toArray, List.set_cons_zero, List.set_cons_succ]
                                                        refine wpAnyH_take (i := 7) (oi := { dst := some 234, op := Op.fieldAddr 65 (Operand.tmp 233) 5, type := 0, pos := "law.go:153", after := #[{ on := 6, ground := Ground.data }], guard := none }) (v := ?vb7) rfl (by kernel_rfl) (by kernel_rfl) (by kernel_rfl) (fun _ _ _ h => h) (Or.inl ⟨by rfl, ?hyb7⟩) (by assumption) ?restb7
                                                        case hyb7 =>
                                                          intro W hSW
                                                          obtain ⟨s1, s2, s3, s4⟩ := hSW
                                                          go_simp
                                                          all_goals with_reducible rfl
                                                        try simp only [Act.put, List.setIfInBounds_toArray, List.set_cons_zero, List.set_cons_succ]
                                                        refine wpAnyH_take (i := 8) (oi := { dst := some 235, op := Op.load 36 (Operand.tmp 234), type := 36, pos := "law.go:153", after := #[{ on := 7, ground := Ground.data }], guard := none }) (v := ?vb8) rfl (by kernel_rfl) (by kernel_rfl) (by kernel_rfl) (fun _ _ _ h => h) (Or.inl ⟨by rfl, ?hyb8⟩) (by assumption) ?restb8
                                                        case hyb8 =>
                                                          intro W hSW
                                                          obtain ⟨s1, s2, s3, s4⟩ := hSW
                                                          go_simp
                                                          all_goals with_reducible rfl
                                                        try simp only [Act.put, List.setIfInBounds_toArray, List.set_cons_zero, List.set_cons_succ]
                                                        refine wpAnyH_ready (rs := [1]) (by kernel_rfl) (by simp) ?_
                                                        refine AllReadyH.cons rfl (fun K' hK' => ?_) AllReadyH.nil
                                                        go_simp
                                                        go_wp2_with fail
                                                        refine (HF.out.2.1 _ (Chg.refl Nil wr).drew).mono ?_
                                                        rintro e w1 ⟨A1, k1, rfl, q0, q1, c1⟩
                                                        have H1 := Hid.mk (And.intro ((Chg.refl Nil wr).drew.trans c1 (fun _ _ h => h)) q0.rd)
                                                        clear c1 q0 q1
                                                        go_wp2_with fail
                                                        refine hK'.out _ _ (HF.out.1 _ H1.out.1) (fun hHeld => ?_)
                                                        clear hK' K'
                                                        refine wpAnyH_ready (rs := [9]) (by kernel_rfl) (by simp) ?_
                                                        refine AllReadyH.cons rfl (fun K' hK' => ?_) AllReadyH.nil
                                                        go_simp
                                                        go_wp2_with fail
                                                        refine (HF.out.2.2.1 _ _ _ H1.out.1 H1.out.2).mono ?_
                                                        rintro e w2 ⟨rfl, c2⟩
                                                        have H2 := Hid.mk (H1.out.1.trans c2 (fun _ _ h => h))
                                                        clear c2
                                                        go_wp2_with fail
                                                        refine hK'.out _ _ (HF.out.1 _ H2.out) (fun hHeld => ?_)
                                                        clear hK' K'
                                                        refine wpAnyH_take (i := 10) (oi := { dst := some 237, op := Op.move (Operand.tmp 236), type := 4, pos := "law.go:153", after := #[{ on := 9, ground := Ground.data }, { on := 9, ground := Ground.chain }], guard := none }) (v := ?vb10) rfl (by kernel_rfl) (by kernel_rfl) (by kernel_rfl) (fun _ _ _ h => h) (Or.inl ⟨by rfl, ?hyb10⟩) (by assumption) ?restb10
                                                        case hyb10 =>
                                                          intro W hSW
                                                          obtain ⟨s1, s2, s3, s4⟩ := hSW
                                                          go_simp
                                                          all_goals with_reducible rfl
                                                        try simp only [Act.put, List.setIfInBounds_toArray, List.set_cons_zero, List.set_cons_succ]
                                                        refine wpAnyH_take (i := 11) (oi := { dst := some 238, op := Op.move (Operand.tmp 18), type := 24, pos := "law.go:153", after := #[{ on := 10, ground := Ground.guard }], guard := some (10, true) }) (v := ?vb11) rfl (by kernel_rfl) (by kernel_rfl) (by kernel_rfl) (fun _ _ _ h => h) (Or.inl ⟨by rfl, ?hyb11⟩) (by assumption) ?restb11
                                                        case hyb11 =>
                                                          intro W hSW
                                                          obtain ⟨s1, s2, s3, s4⟩ := hSW
                                                          go_simp
                                                          all_goals with_reducible rfl
                                                        try simp only [Act.put, List.setIfInBounds_toArray, List.set_cons_zero, List.set_cons_succ]
                                                        refine wpAnyH_take (i := 13) (oi := { dst := some 240, op := Op.move (Operand.tmp 8), type := 67, pos := "law.go:153", after := #[{ on := 10, ground := Ground.guard }], guard := some (10, true) }) (v := ?vb13) rfl (by kernel_rfl) (by kernel_rfl) (by kernel_rfl) (fun _ _ _ h => h) (Or.inl ⟨by rfl, ?hyb13⟩) (by assumption) ?restb13
                                                        case hyb13 =>
                                                          intro W hSW
                                                          obtain ⟨s1, s2, s3, s4⟩ := hSW
                                                          go_simp
                                                          all_goals with_reducible rfl
                                                        try simp only [Act.put, List.setIfInBounds_toArray, List.set_cons_zero, List.set_cons_succ]
                                                        refine wpAnyH_take (i := 14) (oi := { dst := some 241, op := Op.move (Operand.tmp 21), type := 3, pos := "law.go:153", after := #[{ on := 10, ground := Ground.guard }], guard := some (10, true) }) (v := ?vb14) rfl (by kernel_rfl) (by kernel_rfl) (by kernel_rfl) (fun _ _ _ h => h) (Or.inl ⟨by rfl, ?hyb14⟩) (by assumption) ?restb14
                                                        case hyb14 =>
                                                          intro W hSW
                                                          obtain ⟨s1, s2, s3, s4⟩ := hSW
                                                          go_simp
                                                          all_goals with_reducible rfl
                                                        try simp only [Act.put, List.setIfInBounds_toArray, List.set_cons_zero, List.set_cons_succ]
                                                        refine wpAnyH_take (i := 15) (oi := { dst := some 242, op := Op.indexAddr 67 (Operand.tmp 240) (Operand.tmp 241), type := 0, pos := "law.go:153", after := #[{ on := 13, ground := Ground.data }, { on := 14, ground := Ground.data }, { on := 10, ground := Ground.guard }], guard := some (10, true) }) (v := ?vb15) rfl (by kernel_rfl) (by kernel_rfl) (by kernel_rfl) (fun _ _ _ h => h) (Or.inl ⟨by rfl, ?hyb15⟩) (by assumption) ?restb15
                                                        case hyb15 =>
                                                          intro W hSW
                                                          obtain ⟨s1, s2, s3, s4⟩ := hSW
                                                          go_simp
                                                          all_goals with_reducible rfl
                                                        try simp only [Act.put, List.setIfInBounds_toArray, List.set_cons_zero, List.set_cons_succ]
                                                        refine wpAnyH_take (i := 16) (oi := { dst := some 243, op := Op.load 58 (Operand.tmp 242), type := 58, pos := "law.go:153", after := #[{ on := 15, ground := Ground.data }, { on := 10, ground := Ground.guard }], guard := some (10, true) }) (v := ?vb16) rfl (by kernel_rfl) (by kernel_rfl) (by kernel_rfl) (fun _ _ _ h => h) (Or.inl ⟨by rfl, ?hyb16⟩) (by assumption) ?restb16
                                                        case hyb16 =>
                                                          intro W hSW
                                                          obtain ⟨s1, s2, s3, s4⟩ := hSW
                                                          go_simp
                                                          all_goals with_reducible rfl
                                                        try simp only [Act.put, List.setIfInBounds_toArray, List.set_cons_zero, List.set_cons_succ]
                                                        refine wpAnyH_take (i := 17) (oi := { dst := some 244, op := Op.nilCheck (Operand.tmp 243), type := 0, pos := "law.go:153", after := #[{ on := 16, ground := Ground.data }, { on := 10, ground := Ground.guard }], guard := some (10, true) }) (v := ?vb17) rfl (by kernel_rfl) (by kernel_rfl) (by kernel_rfl) (fun _ _ _ h => h) (Or.inl ⟨by rfl, ?hyb17⟩) (by assumption) ?restb17
                                                        case hyb17 =>
                                                          intro W hSW
                                                          obtain ⟨s1, s2, s3, s4⟩ := hSW
                                                          go_simp
                                                          all_goals with_reducible rfl
                                                        try simp only [Act.put, List.setIfInBounds_toArray, List.set_cons_zero, List.set_cons_succ]
                                                        refine wpAnyH_take (i := 18) (oi := { dst := some 245, op := Op.fieldAddr 65 (Operand.tmp 244) 4, type := 0, pos := "law.go:153", after := #[{ on := 17, ground := Ground.data }, { on := 10, ground := Ground.guard }], guard := some (10, true) }) (v := ?vb18) rfl (by kernel_rfl) (by kernel_rfl) (by kernel_rfl) (fun _ _ _ h => h) (Or.inl ⟨by rfl, ?hyb18⟩) (by assumption) ?restb18
                                                        case hyb18 =>
                                                          intro W hSW
                                                          obtain ⟨s1, s2, s3, s4⟩ := hSW
                                                          go_simp
                                                          all_goals with_reducible rfl
                                                        try simp only [Act.put, List.setIfInBounds_toArray, List.set_cons_zero, List.set_cons_succ]
                                                        refine wpAnyH_take (i := 19) (oi := { dst := some 246, op := Op.load 38 (Operand.tmp 245), type := 38, pos := "law.go:153", after := #[{ on := 18, ground := Ground.data }, { on := 10, ground := Ground.guard }], guard := some (10, true) }) (v := ?vb19) rfl (by kernel_rfl) (by kernel_rfl) (by kernel_rfl) (fun _ _ _ h => h) (Or.inl ⟨by rfl, ?hyb19⟩) (by assumption) ?restb19
                                                        case hyb19 =>
                                                          intro W hSW
                                                          obtain ⟨s1, s2, s3, s4⟩ := hSW
                                                          go_simp
                                                          all_goals with_reducible rfl
                                                        try simp only [Act.put, List.setIfInBounds_toArray, List.set_cons_zero, List.set_cons_succ]
                                                        refine wpAnyH_ready (rs := [12]) (by kernel_rfl) (by simp) ?_
                                                        refine AllReadyH.cons rfl (fun K' hK' => ?_) AllReadyH.nil
                                                        go_simp
                                                        go_wp2_with fail
                                                        refine (HF.out.2.2.2.1 _ H2.out).mono ?_
                                                        rintro e w3 ⟨rfl, he⟩
                                                        have he' := he.symm
                                                        subst he'
                                                        clear he
                                                        go_wp2_with fail
                                                        refine hK'.out _ _ (HF.out.1 _ H2.out) (fun hHeld => ?_)
                                                        clear hK' K'
                                                        refine wpAnyH_take (i := 20) (oi := { dst := some 247, op := Op.binOp BinOp.eql 38 (Operand.tmp 239) (Operand.tmp 246) 38, type := 4, pos := "law.go:153", after := #[{ on := 12, ground := Ground.data }, { on := 19, ground := Ground.data }, { on := 10, ground := Ground.guard }], guard := some (10, true) }) (v := ?vb20) rfl (by kernel_rfl) (by kernel_rfl) (by kernel_rfl) (fun _ _ _ h => h) (Or.inl ⟨by rfl, ?hyb20⟩) (by assumption) ?restb20
                                                        case hyb20 =>
                                                          intro W hSW
                                                          obtain ⟨s1, s2, s3, s4⟩ := hSW
                                                          go_simp
                                                          all_goals with_reducible rfl
                                                        try simp only [Act.put, List.setIfInBounds_toArray, List.set_cons_zero, List.set_cons_succ]
                                                        refine wpAnyH_take (i := 21) (oi := { dst := some 248, op := Op.pick (Operand.tmp 237) (Operand.tmp 247) (Operand.const (Value.bool false)), type := 4, pos := "law.go:153", after := #[{ on := 10, ground := Ground.data }, { on := 20, ground := Ground.data }], guard := none }) (v := ?vb21) rfl (by kernel_rfl) (by kernel_rfl) (by kernel_rfl) (fun _ _ _ h => h) (Or.inl ⟨by rfl, ?hyb21⟩) (by assumption) ?restb21
                                                        case hyb21 =>
                                                          intro W hSW
                                                          obtain ⟨s1, s2, s3, s4⟩ := hSW
                                                          go_simp
                                                          all_goals with_reducible rfl
                                                        try simp only [Act.put, List.setIfInBounds_toArray, List.set_cons_zero, List.set_cons_succ]
                                                        refine wpAnyH_take (i := 22) (oi := { dst := some 249, op := Op.move (Operand.tmp 248), type := 4, pos := "law.go:153", after := #[{ on := 21, ground := Ground.data }, { on := 12, ground := Ground.chain }], guard := none }) (v := ?vb22) rfl (by kernel_rfl) (by kernel_rfl) (by kernel_rfl) (fun _ _ _ h => h) (Or.inl ⟨by rfl, ?hyb22⟩) (by assumption) ?restb22
                                                        case hyb22 =>
                                                          intro W hSW
                                                          obtain ⟨s1, s2, s3, s4⟩ := hSW
                                                          go_simp
                                                          all_goals with_reducible rfl
                                                        try simp only [Act.put, List.setIfInBounds_toArray, List.set_cons_zero, List.set_cons_succ]
                                                        refine wpAnyH_take (i := 23) (oi := { dst := some 250, op := Op.move (Operand.tmp 18), type := 24, pos := "law.go:153", after := #[{ on := 22, ground := Ground.guard }], guard := some (22, true) }) (v := undef) rfl (by kernel_rfl) (by kernel_rfl) (by kernel_rfl) (fun _ _ _ h => h) (Or.inr ⟨by rfl, rfl⟩) (by assumption) ?_
                                                        try simp only [Act.put, List.setIfInBounds_toArray, List.set_cons_zero, List.set_cons_succ]
                                                        refine wpAnyH_take (i := 24) (oi := { dst := some 251, op := Op.call { callee := Callee.value (Operand.func 26), args := #[Operand.tmp 250], argTypes := #[24] }, type := 38, pos := "law.go:153", after := #[{ on := 23, ground := Ground.data }, { on := 22, ground := Ground.chain }, { on := 22, ground := Ground.guard }], guard := some (22, true) }) (v := undef) rfl (by kernel_rfl) (by kernel_rfl) (by kernel_rfl) (fun _ _ _ h => h) (Or.inr ⟨by rfl, rfl⟩) (by assumption) ?_
                                                        try simp only [Act.put, List.setIfInBounds_toArray, List.set_cons_zero, List.set_cons_succ]
                                                        refine wpAnyH_take (i := 25) (oi := { dst := some 252, op := Op.move (Operand.tmp 8), type := 67, pos := "law.go:153", after := #[{ on := 22, ground := Ground.guard }], guard := some (22, true) }) (v := undef) rfl (by kernel_rfl) (by kernel_rfl) (by kernel_rfl) (fun _ _ _ h => h) (Or.inr ⟨by rfl, rfl⟩) (by assumption) ?_
                                                        try simp only [Act.put, List.setIfInBounds_toArray, List.set_cons_zero, List.set_cons_succ]
                                                        refine wpAnyH_take (i := 26) (oi := { dst := some 253, op := Op.move (Operand.tmp 21), type := 3, pos := "law.go:153", after := #[{ on := 22, ground := Ground.guard }], guard := some (22, true) }) (v := undef) rfl (by kernel_rfl) (by kernel_rfl) (by kernel_rfl) (fun _ _ _ h => h) (Or.inr ⟨by rfl, rfl⟩) (by assumption) ?_
                                                        try simp only [Act.put, List.setIfInBounds_toArray, List.set_cons_zero, List.set_cons_succ]
                                                        refine wpAnyH_take (i := 27) (oi := { dst := some 254, op := Op.indexAddr 67 (Operand.tmp 252) (Operand.tmp 253), type := 0, pos := "law.go:153", after := #[{ on := 25, ground := Ground.data }, { on := 26, ground := Ground.data }, { on := 22, ground := Ground.guard }], guard := some (22, true) }) (v := undef) rfl (by kernel_rfl) (by kernel_rfl) (by kernel_rfl) (fun _ _ _ h => h) (Or.inr ⟨by rfl, rfl⟩) (by assumption) ?_
                                                        try simp only [Act.put, List.setIfInBounds_toArray, List.set_cons_zero, List.set_cons_succ]
                                                        refine wpAnyH_take (i := 28) (oi := { dst := some 255, op := Op.load 58 (Operand.tmp 254), type := 58, pos := "law.go:153", after := #[{ on := 27, ground := Ground.data }, { on := 22, ground := Ground.guard }], guard := some (22, true) }) (v := undef) rfl (by kernel_rfl) (by kernel_rfl) (by kernel_rfl) (fun _ _ _ h => h) (Or.inr ⟨by rfl, rfl⟩) (by assumption) ?_
                                                        try simp only [Act.put, List.setIfInBounds_toArray, List.set_cons_zero, List.set_cons_succ]
                                                        refine wpAnyH_take (i := 29) (oi := { dst := some 256, op := Op.nilCheck (Operand.tmp 255), type := 0, pos := "law.go:153", after := #[{ on := 28, ground := Ground.data }, { on := 22, ground := Ground.guard }], guard := some (22, true) }) (v := undef) rfl (by kernel_rfl) (by kernel_rfl) (by kernel_rfl) (fun _ _ _ h => h) (Or.inr ⟨by rfl, rfl⟩) (by assumption) ?_
                                                        try simp only [Act.put, List.setIfInBounds_toArray, List.set_cons_zero, List.set_cons_succ]
                                                        refine wpAnyH_take (i := 30) (oi := { dst := some 257, op := Op.fieldAddr 65 (Operand.tmp 256) 3, type := 0, pos := "law.go:153", after := #[{ on := 29, ground := Ground.data }, { on := 22, ground := Ground.guard }], guard := some (22, true) }) (v := undef) rfl (by kernel_rfl) (by kernel_rfl) (by kernel_rfl) (fun _ _ _ h => h) (Or.inr ⟨by rfl, rfl⟩) (by assumption) ?_
                                                        try simp only [Act.put, List.setIfInBounds_toArray, List.set_cons_zero, List.set_cons_succ]
                                                        refine wpAnyH_take (i := 31) (oi := { dst := some 258, op := Op.load 38 (Operand.tmp 257), type := 38, pos := "law.go:153", after := #[{ on := 30, ground := Ground.data }, { on := 22, ground := Ground.guard }], guard := some (22, true) }) (v := undef) rfl (by kernel_rfl) (by kernel_rfl) (by kernel_rfl) (fun _ _ _ h => h) (Or.inr ⟨by rfl, rfl⟩) (by assumption) ?_
                                                        try simp only [Act.put, List.setIfInBounds_toArray, List.set_cons_zero, List.set_cons_succ]
                                                        refine wpAnyH_take (i := 32) (oi := { dst := some 259, op := Op.binOp BinOp.eql 38 (Operand.tmp 251) (Operand.tmp 258) 38, type := 4, pos := "law.go:153", after := #[{ on := 24, ground := Ground.data }, { on := 31, ground := Ground.data }, { on := 22, ground := Ground.guard }], guard := some (22, true) }) (v := undef) rfl (by kernel_rfl) (by kernel_rfl) (by kernel_rfl) (fun _ _ _ h => h) (Or.inr ⟨by rfl, rfl⟩) (by assumption) ?_
                                                        try simp only [Act.put, List.setIfInBounds_toArray, List.set_cons_zero, List.set_cons_succ]
                                                        refine wpAnyH_take (i := 33) (oi := { dst := some 260, op := Op.pick (Operand.tmp 249) (Operand.tmp 259) (Operand.const (Value.bool false)), type := 4, pos := "law.go:153", after := #[{ on := 22, ground := Ground.data }, { on := 32, ground := Ground.data }], guard := none }) (v := ?vb33) rfl (by kernel_rfl) (by kernel_rfl) (by kernel_rfl) (fun _ _ _ h => h) (Or.inl ⟨by rfl, ?hyb33⟩) (by assumption) ?restb33
                                                        case hyb33 =>
                                                          intro W hSW
                                                          obtain ⟨s1, s2, s3, s4⟩ := hSW
                                                          go_simp
                                                          all_goals with_reducible rfl
                                                        try simp only [Act.put, List.setIfInBounds_toArray, List.set_cons_zero, List.set_cons_succ]
                                                        refine wpAnyH_done (by kernel_rfl) ?_ _
                                                        go_wp2_with fail
                                                        go_roundw
                                                        case rel => exact ⟨-1, (K : Int) - 1, rfl, rfl, .inl ⟨rfl, by omega, by omega⟩, Hid.mk (HR3.out.nil H2.out)⟩
                                                        case measure => simp [intOf] <;> omega
                                                      · have hxb : ((G : Int) == (GK : Int)) = false := by rw [beq_eq_false_iff_ne]; omega
                                                        go_wp2_with fail
                                                        go_region_held3 (fun w' => w'.cell? ⟨g3, off3 + K, none⟩ = some (.pointer (some ⟨gK, 0, none⟩)) ∧ w'.cell? ⟨gK, 5, none⟩ = some (.slice A5 LK c5) ∧ w'.cell? ⟨gK, 4, none⟩ = some (.int .u64 (U : Int)) ∧ w'.cell? ⟨gK, 3, none⟩ = some (.int .u64 (GK : Int)))
                                                          (first | exact HF.out.1 _ H2.out | exact HF.out.1 _ H1.out.1 | exact HF.out.1 _ (by first | exact (Chg.refl Nil wr).drew | exact Chg.refl Nil wr) | go_keep)
                                                          (first
                                                            | ((with_reducible refine (HF.out.2.1 _ (by first | exact (Chg.refl Nil wr).drew | exact Chg.refl Nil wr)).mono ?_); rintro e w1 ⟨A1, k1, rfl, q0, q1, c1⟩; have H1 := Hid.mk (And.intro ((Chg.refl Nil wr).drew.trans c1 (fun _ _ h => h)) q0.rd); clear c1 q0 q1)
                                                            | ((with_reducible refine (HF.out.2.2.1 _ _ _ H1.out.1 H1.out.2).mono ?_); rintro e w2 ⟨rfl, c2⟩; have H2 := Hid.mk (H1.out.1.trans c2 (fun _ _ h => h)); clear c2)
                                                            | ((with_reducible refine (HF.out.2.2.2.1 _ H2.out).mono ?_); rintro e w3 ⟨rfl, he⟩; have he' := he.symm; subst he'; clear he)
                                                            | ((with_reducible refine (HF.out.2.2.2.2 _ H2.out).mono ?_); rintro e w3 ⟨rfl, he⟩; have he' := he.symm; subst he'; clear he))
                                                        go_wp2_with fail
                                                        go_roundw
                                                        case rel => exact ⟨-1, (K : Int) - 1, rfl, rfl, .inl ⟨rfl, by omega, by omega⟩, Hid.mk (HR3.out.nil H2.out)⟩
                                                        case measure => simp [intOf] <;> omega
                                                      · go_wp2_with fail
                                                        go_region_held3 (fun w' => w'.cell? ⟨g3, off3 + i, none⟩ = some (.pointer (some ⟨gK, 0, none⟩)) ∧ w'.cell? ⟨gK, 5, none⟩ = some (.slice A5 LK c5) ∧ w'.cell? ⟨gK, 4, none⟩ = some (.int .u64 (U : Int)) ∧ w'.cell? ⟨gK, 3, none⟩ = some (.int .u64 (G : Int)))
                                                          (first | exact HF.out.1 _ H2.out | exact HF.out.1 _ H1.out.1 | exact HF.out.1 _ (by first | exact (Chg.refl Nil wr).drew | exact Chg.refl Nil wr) | go_keep)
                                                          (first
                                                            | ((with_reducible refine (HF.out.2.1 _ (by first | exact (Chg.refl Nil wr).drew | exact Chg.refl Nil wr)).mono ?_); rintro e w1 ⟨A1, k1, rfl, q0, q1, c1⟩; have H1 := Hid.mk (And.intro ((Chg.refl Nil wr).drew.trans c1 (fun _ _ h => h)) q0.rd); clear c1 q0 q1)
                                                            | ((with_reducible refine (HF.out.2.2.1 _ _ _ H1.out.1 H1.out.2).mono ?_); rintro e w2 ⟨rfl, c2⟩; have H2 := Hid.mk (H1.out.1.trans c2 (fun _ _ h => h)); clear c2)
                                                            | ((with_reducible refine (HF.out.2.2.2.1 _ H2.out).mono ?_); rintro e w3 ⟨rfl, he⟩; have he' := he.symm; subst he'; clear he)
                                                            | ((with_reducible refine (HF.out.2.2.2.2 _ H2.out).mono ?_); rintro e w3 ⟨rfl, he⟩; have he' := he.symm; subst he'; clear he))
                                                        go_wp2_with fail
                                                        go_roundw
                                                        case rel => exact ⟨(i : Int), (i : Int) - 1, by go_num, by go_num, .inr ⟨rfl, rfl⟩, Hid.mk (HR3.out.nil H2.out)⟩
                                                        case measure => simp [intOf] <;> omega
                                                    · go_upto_region 49 with fail
                                                      go_cut [224] from 219 to 224 (fun b wx => b = .bool false ∧ wx = wr)
                                                      case first =>
                                                        as_aux_lemma =>
                                                          by_cases hi0 : i = 0
                                                          · subst hi0
                                                            go_wp2_with fail
                                                            go_meet
                                                            exact ⟨rfl, rfl⟩
                                                          · go_wp2_with fail
                                                            go_meet
                                                            exact ⟨rfl, rfl⟩
                                                      case rest =>
                                                        as_aux_lemma =>
                                                          obtain ⟨rfl, rfl⟩ := hcut
                                                          obtain ⟨gI, hgI⟩ : ∃ gI, gl3[i]? = some (gI, τ) := by
                                                            have hx := HI.out.1
                                                            rw [List.getElem?_map] at hx
                                                            cases hy : gl3[i]? with
                                                            | none => rw [hy] at hx; cases hx
                                                            | some q => rw [hy] at hx; injection hx with hx; exact ⟨q.1, by rw [← hx]⟩
                                                          have y0 := HR3.out.at_ hgI wc (Chg.refl _ _)
                                                          have hp : Pok τ := HR3.out.ok.1.pok HR3.out.ok.2 HO.out.2.unbroken
                                                          have hcp := HR3.out.copy (List.mem_of_getElem? hgI) hp
                                                          have HP := Hid.mk hp
                                                          clear hgI hp
                                                          go_wp2_with fail
                                                          refine hcp.mono ?_
                                                          rintro e w12 ⟨gN, rfl, cn12⟩
                                                          have H12 := Hid.mk cn12
                                                          obtain ⟨M6, R6, N6, rn6⟩ := cn12.drop.run
                                                          have hrm := rn6.roomC
                                                          have hrm2 := fun W (hW : Chg Nil w12 W) => (H12.out.nil hW).rroom HP.out
                                                          generalize τ.log - τ.used = Rm at hrm hrm2
                                                          have HRM := Hid.mk (And.intro hrm hrm2)
                                                          clear cn12 hcp rn6 hrm hrm2 y0
                                                          go_wp2_with fail
                                                          refine HRM.out.1.mono ?_
                                                          rintro e w13 ⟨rfl, c13⟩
                                                          have H13 := Hid.mk c13
                                                          clear c13
                                                          go_wp2_with fail
                                                          refine (HRM.out.2 _ H13.out).mono ?_
                                                          rintro e w14 ⟨rfl, c14⟩
                                                          have hfr := ((H12.out.nil H13.out).nil c14).fresh
                                                          unfold ptrV at hfr
                                                          have H14 := Hid.mk hfr
                                                          clear c14 hfr
                                                          go_wp2_with fail
                                                          go_roundw
                                                          case rel => exact ⟨k + 1, gs2, by omega, rfl, by go_num, Hid.mk ⟨τ, D2, [(gN, τ)], H14.out, HO.out.2, HO.out.1⟩⟩
                                                          case measure => simp [intOf] <;> omega
--EXIT
    · have hx : ¬ k < n ∨ (k < n ∧ ¬ k < 30) := by omega
      have y0 := HQ.out.2.2.2.1 wr (Chg.refl _ _)
      rcases hx with hx | ⟨hx, hx2⟩
      all_goals
        go_wp2_with fail
        obtain ⟨M5, R5, N5, rn5⟩ := HQ.out.1.run
        obtain ⟨F5, rf5⟩ := HQ.out.1.ref (List.mem_of_getElem? HQ.out.2.2.2.2.1)
        refine (same15_any rn5 rf5 (rn5.st.ok.pok rn5.st.dk.ok HQ.out.2.1.unbroken)).mono ?_
        rintro e w5 ⟨rfl, c5⟩
        have H5 := Hid.mk (rn5.chg.trans c5 (fun _ _ h => h))
        clear c5 rn5 rf5
        go_wp2_with fail
        go_ret
        exact ⟨rfl, H5.out⟩

end Go.Proofs.Ytanipieeegeheaa
