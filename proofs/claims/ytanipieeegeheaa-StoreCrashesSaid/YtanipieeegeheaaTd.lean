/- Joined for this seat from: XStK. -/
import Derived.Test.YtanipieeegeheaaTc
namespace Go.Proofs.Ytanipieeegeheaa
open Go.RowKit

theorem Inv.back {σ β : Sp} {d : Dp} {bo : List (List UInt8)} {n : Nat} (h : Inv σ d β bo n) (keep : Int) :
    ∃ j σj, n ≤ j ∧ j ≤ bo.length ∧ (σ.used ≤ synced σ bo n + keep.toNat → j = bo.length) ∧ runB β (bo.take j) = some σj ∧ σj.slots = σ.slots ∧ σj.log = σ.log ∧ Opened (d.crash keep) β σj (bo.take j) := by
  obtain ⟨j, σj, h1, h2, h3, h4, h5⟩ := h.crashed keep
  have r1 := h.img.runs
  have r2 := h5.runs
  exact ⟨j, σj, h1, h2, h3, h4, by rw [r2.slots, r1.slots], by rw [r2.log, r1.log], opened_crash h5⟩
/-- Nothing is lost. -/
theorem Inv.whole {σ β : Sp} {d : Dp} {bo : List (List UInt8)} {n : Nat} (h : Inv σ d β bo n) (keep : Int) (hk : n = bo.length ∨ σ.used ≤ synced σ bo n + keep.toNat) : Opened (d.crash keep) β σ bo := by
  obtain ⟨j, σj, h1, h2, h3, h4, _, _, h5⟩ := h.back keep
  have hj : j = bo.length := by
    rcases hk with hk | hk
    · omega
    · exact h3 hk
  subst hj
  rw [List.take_length] at h4 h5
  rw [h.run] at h4
  injection h4 with h4
  subst h4
  exact h5
def awP : Pt := ⟨7, 1, 2, -3⟩
def awO : Oq := ⟨1, awP⟩
theorem aw_bat : batE [awO] = 0 := by decide
theorem aw_len : (batB [awO]).length = 17 := by decide
theorem aw_do : doP [] [awO] = [awP] := rfl
theorem aw_apply : applyE (freshS 300 400) [awO] = 0 := by
  unfold applyE
  rw [if_neg (by decide), if_neg (by rw [aw_bat]; decide)]
  show (if 2000 < (doP [] [awO]).length then 7 else if 400 < 0 + ((batB [awO]).length + 13) ∨ 4611686018427387904 ≤ 0 then 12 else 0) = 0
  rw [aw_do, aw_len]
  rfl
theorem aw_point : pointP [awP] 7 = awP ∧ hasP [awP] 7 = true := ⟨rfl, rfl⟩
set_option maxHeartbeats 2000000 in
set_option maxRecDepth 100000 in
theorem awake15_any (w : World) : Calls Try.prog 19 #[] w fun e w' => e = .returned (.bool true) ∧ Chg Nil w w' := by
  have hnl : (Dp.new 1000).now.length = 1000 := new_len (n := 1000) (by omega)
  have o1 : Opened (Dp.new 1000) (freshS 300 400) (freshS 300 400) [] := opened_new (n := 1000) (by omega) (by omega) (by omega)
  have hN := dnew_any 1000 w
  have hO1 := fun {g : Nat} {M R : Nat → Prop} {w1 : World} (h : Dk w1 g M R (Dp.new 1000)) => open_any h 300 400 (by omega) (by rw [hnl]; omega) (by show (0 : Nat) ≤ _; omega)
  have e1 : openD (Dp.new 1000) 300 400 = ((openD (Dp.new 1000) 300 400).1, 0) := by
    have := o1.res
    exact Prod.ext rfl this
  have e2 : openS (Dp.new 1000) 300 400 = freshS 300 400 := o1.openS
  have i1 : Inv (freshS 300 400) (openD (Dp.new 1000) 300 400).1 (freshS 300 400) [] 0 := o1.inv
  have f1 : (openD (Dp.new 1000) 300 400).1.free := o1.free
  rw [e2, e1] at hO1
  generalize (openD (Dp.new 1000) 300 400).1 = D1 at *
  have hp : (applyP (freshS 300 400) D1 [awO]).2.2 = 0 := by unfold applyP; rw [if_neg (by rw [aw_apply]; decide), if_neg (by rw [f1.dead]; decide)]
  have hp2 : (applyP (freshS 300 400) D1 [awO]).2.1 = D1.write (2 * 300 + 0) (recB 1 (batB [awO])) := by unfold applyP; rw [if_neg (by rw [aw_apply]; decide), if_neg (by rw [f1.dead]; decide)]; rfl
  have hp1 : (applyP (freshS 300 400) D1 [awO]).1 = ⟨300, 400, -1, 1, 1, [awP], 30, false⟩ := by unfold applyP; rw [if_neg (by rw [aw_apply]; decide), if_neg (by rw [f1.dead]; decide), aw_len]; rfl
  have i2 := i1.apply f1.dead [awO] aw_apply
  have f2 : (applyP (freshS 300 400) D1 [awO]).2.1.free := by rw [hp2]; exact Dp.free_write f1 _ _
  rw [hp1] at i2
  have hl1 : D1.waits.length ≤ 1000000 := Nat.le_trans i1.many (by show (0 : Nat) ≤ _; omega)
  have hA := fun {gs gd : Nat} {M R N : Nat → Prop} {A : Option Addr} {c : Nat} {W : World} (h : StAt W gs gd M R N A c (freshS 300 400) D1) (B : Option Addr) (S : Nat → Prop) (ho : RdO W S B 1 [awO]) (hS : ∀ k, S k → ¬ M k ∧ k ≠ gs) => stApply_any h B 1 1 [awO] S ho (by omega) (by unfold maxLen; omega) hS hl1
  have e3 : applyP (freshS 300 400) D1 [awO] = (⟨300, 400, -1, 1, 1, [awP], 30, false⟩, (applyP (freshS 300 400) D1 [awO]).2.1, 0) := Prod.ext hp1 (Prod.ext rfl hp)
  rw [e3] at hA
  generalize (applyP (freshS 300 400) D1 [awO]).2.1 = D2 at *
  have i3 := i2.sync
  have f3 := Dp.free_sync f2
  have o3 := i3.whole 0 (.inl rfl)
  have hl3 : D2.sync.waits.length ≤ 1000000 := Nat.le_trans i3.many (by show (1 : Nat) ≤ _; omega)
  have e4 : syncP ⟨300, 400, -1, 1, 1, [awP], 30, false⟩ D2 = (⟨300, 400, -1, 1, 1, [awP], 30, false⟩, D2.sync, 0) := by unfold syncP; rw [if_neg (by decide), if_neg (by rw [f2.dead]; decide)]
  have hnow : 2 * 300 + 400 ≤ (D2.sync.crash 0).now.length := o3.img.room
  have hO2 := fun {g : Nat} {M R : Nat → Prop} {w1 : World} (h : Dk w1 g M R (D2.sync.crash 0)) => open_any h 300 400 (by omega) hnow (by show (0 : Nat) ≤ _; omega)
  have e5 : openD (D2.sync.crash 0) 300 400 = ((openD (D2.sync.crash 0) 300 400).1, 0) := Prod.ext rfl o3.res
  have e6 : openS (D2.sync.crash 0) 300 400 = ⟨300, 400, -1, 1, 1, [awP], 30, false⟩ := o3.openS
  rw [e6, e5] at hO2
  generalize (openD (D2.sync.crash 0) 300 400).1 = D5 at *
  have hS3 := fun {gs gd : Nat} {M R N : Nat → Prop} {A : Option Addr} {c : Nat} {W : World} (h : StAt W gs gd M R N A c ⟨300, 400, -1, 1, 1, [awP], 30, false⟩ D2) => stSync_any h
  rw [e4] at hS3
  have hC := fun {g : Nat} {M R : Nat → Prop} {W : World} (h : Dk W g M R D2.sync) => dcrash_any h 0 (by omega) (by omega) hl3
  have HH := Hid.mk (And.intro hN (And.intro (@hO1) (And.intro (@hA) (And.intro (@hS3) (And.intro (@hC) (@hO2))))))
  clear hN hO1 hA hS3 hC hO2 i1 i2 i3 f1 f2 f3 o1 o3 e1 e2 e3 e4 e5 e6 hp hp1 hp2 hl1 hl3 hnow hnl
  go_enter Try.func19, Try.ntmps19
  go_wp2_with fail
  refine HH.out.1.mono ?_
  rintro e w1 ⟨gd, M, R, rfl, c1, d1, low1⟩
  have H1 := Hid.mk (Live.mk c1 d1 low1)
  clear c1 d1 low1
  go_wp2_with fail
  refine (HH.out.2.1 H1.out.dk).mono ?_
  rintro e w2 ho
  rcases H1.out.opened ho with ⟨_, gs, M2, R2, rfl, r2⟩ | ⟨h9, _⟩
  · have H2 := Hid.mk r2
    clear r2 ho
    go_wp2_with fail
    have hc2 : Chg Nil w2 ((w2.alloc (.cells #[.int .i64 7, .int .i64 1, .int .i64 2, .int .i64 (-3)] 30)).alloc (.cells #[.int .i64 1, .int .i64 7, .int .i64 1, .int .i64 2, .int .i64 (-3)] 32)) := ((Chg.refl Nil w2).alloc _).alloc _
    have hro := rdo_one (w2.alloc (.cells #[.int .i64 7, .int .i64 1, .int .i64 2, .int .i64 (-3)] 30)) awO
    have hbp := (Bk.new w2 30 #[.int .i64 7, .int .i64 1, .int .i64 2, .int .i64 (-3)]).keep ((Chg.refl Nil _).alloc (.cells #[.int .i64 1, .int .i64 7, .int .i64 1, .int .i64 2, .int .i64 (-3)] 32)) (fun h => h)
    obtain ⟨A2, c2, st2⟩ := (H2.out.nil hc2).st
    have hgp : ¬ M2 w2.heap.size ∧ w2.heap.size ≠ gs := ⟨fun h => by have := H2.out.st.dk.lt _ (.inl h); omega, fun h => by obtain ⟨_, _, q⟩ := H2.out.st; have := q.bk.lt; omega⟩
    have hsz : w2.heap.size + 1 = (w2.alloc (.cells #[.int .i64 7, .int .i64 1, .int .i64 2, .int .i64 (-3)] 30)).heap.size := by simp
    have hap := HH.out.2.2.1 st2 _ _ hro (fun k hk => by
      have hk : k = (w2.alloc (.cells #[.int .i64 7, .int .i64 1, .int .i64 2, .int .i64 (-3)] 30)).heap.size := hk
      rw [← hsz] at hk
      exact ⟨fun h => by have := H2.out.st.dk.lt _ (.inl h); omega, fun h => by obtain ⟨_, _, q⟩ := H2.out.st; have := q.bk.lt; omega⟩)
    rw [← hsz] at hap
    have H3 := Hid.mk (And.intro (H2.out.nil hc2) (And.intro hbp (And.intro hgp hap)))
    clear hc2 hro hbp st2 hgp hsz hap
    have hgl : w2.heap.size < ((w2.alloc (.cells #[.int .i64 7, .int .i64 1, .int .i64 2, .int .i64 (-3)] 30)).alloc (.cells #[.int .i64 1, .int .i64 7, .int .i64 1, .int .i64 2, .int .i64 (-3)] 32)).heap.size := by simp; omega
    have HGL := Hid.mk hgl
    clear hgl
    refine H3.out.2.2.2.mono ?_
    rintro e w3 ⟨M3, R3, rfl, ws3, st3⟩
    obtain ⟨gp, hgp⟩ : ∃ gp, gp = w2.heap.size := ⟨_, rfl⟩
    have hfp : ¬ (M2 gp ∨ gp = gs) := by rw [hgp]; exact fun h => h.elim H3.out.2.2.1.1 H3.out.2.2.1.2
    have hb3 := H3.out.2.1.keep ws3.chg (by rw [← hgp]; exact hfp)
    have hf3 : ¬ (M3 gp ∨ gp = gs) := fun h => hfp (h.imp (fun h => ws3.m gp (by rw [hgp]; exact HGL.out) h) id)
    have hl3 : gp < w3.heap.size := Nat.lt_of_lt_of_le (by rw [hgp]; exact HGL.out) ws3.chg.size
    rw [← hgp] at hb3 ⊢
    have H4 := Hid.mk (And.intro (H3.out.1.wentS ws3 st3) (And.intro hb3 (And.intro hf3 hl3)))
    clear ws3 st3 hb3 hf3 hl3 hfp hgp
    go_wp2_with fail
    obtain ⟨A4, c4, st4⟩ := H4.out.1.st
    refine (HH.out.2.2.2.1 st4).mono ?_
    rintro e w5 ⟨rfl, ws5, st5⟩
    have H5 := Hid.mk (And.intro (H4.out.1.wentS ws5 ⟨_, _, st5⟩) (And.intro (H4.out.2.1.keep ws5.chg H4.out.2.2.1) (Nat.lt_of_lt_of_le H4.out.2.2.2 ws5.chg.size)))
    clear st4 ws5 st5
    go_wp2_with fail
    refine (HH.out.2.2.2.2.1 H5.out.1.st.dk).mono ?_
    rintro e w6 ⟨⟨v6, rfl⟩, c6, d6⟩
    have H6 := Hid.mk (And.intro (H5.out.1.live.step c6 d6) (And.intro (H5.out.2.1.keep c6 (fun h => H4.out.2.2.1 (.inl h))) (Nat.lt_of_lt_of_le H5.out.2.2 c6.size)))
    clear c6 d6
    go_wp2_with fail
    refine (HH.out.2.2.2.2.2 H6.out.1.dk).mono ?_
    rintro e w7 ho
    obtain ⟨M7, R7, hw7, _⟩ := id ho
    have hb7 := H6.out.2.1.keep hw7.chg (fun h => H4.out.2.2.1 (.inl h))
    rcases H6.out.1.opened ho with ⟨_, gt, M8, R8, rfl, r8⟩ | ⟨h9, _⟩
    · have H8 := Hid.mk (And.intro r8 hb7)
      clear r8 ho hw7 hb7
      go_wp2_with fail
      obtain ⟨A8, c8, st8⟩ := H8.out.1.st
      refine (stPoint_any st8 7).mono ?_
      rintro e w9 ⟨he, c9⟩
      obtain ⟨hp7, hh7⟩ := aw_point
      rw [show (⟨300, 400, -1, 1, 1, [awP], 30, false⟩ : Sp).pts = [awP] from rfl, hp7, hh7] at he
      subst he
      have hx := H8.out.1.nil c9
      have hbx := H8.out.2.keep c9 (fun h => h)
      have hby := hbx.keep ((Chg.refl Nil w9).alloc (.cells #[.int .i64 7, .int .i64 1, .int .i64 2, .int .i64 (-3)] 30)) (fun h => h)
      have z0 := hby.cell 0 rfl
      have z1 := hby.cell 1 rfl
      have z2 := hby.cell 2 rfl
      have z3 := hby.cell 3 rfl
      have H9 := Hid.mk (hx.nil ((Chg.refl Nil w9).alloc (.cells #[.int .i64 7, .int .i64 1, .int .i64 2, .int .i64 (-3)] 30)))
      clear c9 hx hbx hby
      unfold Pt.agg awP
      simp only
      go_wp2_with fail
      obtain ⟨A9, c9, st9⟩ := H9.out.st
      refine (stU_any st9).mono ?_
      rintro e w10 ⟨rfl, he⟩
      have he' := he.symm
      subst he'
      clear he
      go_wp2_with fail
      refine (stGen_any st9).mono ?_
      rintro e w10 ⟨rfl, he⟩
      have he' := he.symm
      subst he'
      clear he
      go_wp2_with fail
      go_ret
      exact ⟨rfl, H9.out.chg⟩
    · exact absurd h9 (by simp)
  · exact absurd h9 (by simp)

end Go.Proofs.Ytanipieeegeheaa
