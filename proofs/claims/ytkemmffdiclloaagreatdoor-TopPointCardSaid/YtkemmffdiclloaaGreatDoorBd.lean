/- Joined for this seat from: XEz XFa XFb XFc XFd XFe XFf. -/
import Derived.Maps.Own
import Derived.DeepKeys4
import Derived.Test.YtkemmffdiclloaaGreatDoorBc
set_option linter.unusedVariables false
set_option linter.unusedSimpArgs false
namespace Go.Proofs.YtkemmffdiclloaaGreatDoor
open Go.RowKit
theorem half_int (j : Nat) : Int.tdiv ((j : Int) - 1) 2 = (((j - 1) / 2 : Nat) : Int) := by
  rcases Nat.eq_zero_or_pos j with rfl | h
  · rfl
  · rw [Int.tdiv_eq_ediv_of_nonneg (by omega)]; omega
set_option maxHeartbeats 4000000 in
set_option maxRecDepth 100000 in
theorem up_any (B f g cap n : Nat) (c0 c1 c4 : Value) (T : List (Int × Int)) (hn : T.length = n) (hnb : n ≤ 1000001) (j : Nat) (hj : j < n) (w : World)
    (hB : Bk w f 101 #[c0, c1, .slice (some { block := g, off := 0 }) n cap, c4]) (h : ERow w B g cap T) (hfg : f < B) :
    Calls Tryz.prog 133 #[.iface 105 (.pointer (some { block := f, off := 2 })), .int .i64 (j : Int)] w fun e w' => e = .returned (.tuple #[]) ∧
      ∃ T', T'.Perm T ∧ Bk w' f 101 #[c0, c1, .slice (some { block := g, off := 0 }) n cap, c4] ∧ ERow w' B g cap T' ∧ Chg (fun k => k = g) w w' := by
  have HI := Hid.mk (And.intro hB h)
  clear hB h
  have hgf := HI.out.2.lt.1
  go_enter Tryz.func133, Tryz.ntmps133
  go_wp2_with fail
  go_loopw [1] (fun v1 wr => ∃ j : Nat, j < n ∧ v1 = .int .i64 (j : Int) ∧ Hid (∃ T', T'.Perm T ∧ Bk wr f 101 #[c0, c1, .slice (some { block := g, off := 0 }) n cap, c4] ∧ ERow wr B g cap T' ∧ Chg (fun k => k = g) w wr)) (fun v1 _ => (intOf v1).toNat)
  case atStart => exact ⟨j, hj, rfl, Hid.mk ⟨T, List.Perm.refl _, HI.out.1, HI.out.2, Chg.refl _ _⟩⟩
  case round =>
    obtain ⟨j, hj, rfl, HR⟩ := hrel
    clear HI
    have kq := half_int j
    obtain ⟨T', hp, hb, hr, hc⟩ := HR.out
    have hl : T'.length = n := by rw [hp.length_eq, hn]
    have m1 := Tryz.rowLess { block := f, off := 2 } (.slice (some { block := g, off := 0 }) n cap) wr (hb.cell 2 rfl)
    have HR2 := Hid.mk (And.intro hp (And.intro hb (And.intro hr hc)))
    clear HR hp hb hr hc
    obtain ⟨i, hi⟩ : ∃ i, (j - 1) / 2 = i := ⟨_, rfl⟩
    rw [hi] at kq
    by_cases hij : i = j
    · have k1 : ((i : Int) == (j : Int)) = true := by rw [hij]; simp
      go_wp2_with fail
      refine bodyPost_end (results_none rfl _ _ _) rfl ?_
      exact ⟨rfl, T', HR2.out⟩
    · have k1 : ((i : Int) == (j : Int)) = false := by rw [beq_eq_false_iff_ne]; omega
      have hij2 : i < j := by omega
      clear hi
      go_wp2_with fail
      refine (rowLess_any B g cap n T' hl j i hj (by omega) _ HR2.out.2.2.1).mono ?_
      rintro e w2 ⟨b, rfl, c2⟩
      have hb2 := HR2.out.2.1.keep c2 (fun h => h)
      have m2 := Tryz.rowSwap { block := f, off := 2 } (.slice (some { block := g, off := 0 }) n cap) w2 (hb2.cell 2 rfl)
      have hr2 : ERow w2 B g cap T' := own_keep HR2.out.2.2.1 c2 (fun _ _ h => h)
      have H3 := Hid.mk (And.intro HR2.out.1 (And.intro hb2 (And.intro hr2 (HR2.out.2.2.2.trans c2 (fun _ _ h => False.elim h)))))
      clear HR2 c2 hb2 hr2 m1
      cases b with
      | false =>
        go_wp2_with fail
        refine bodyPost_end (results_none rfl _ _ _) rfl ?_
        exact ⟨rfl, T', H3.out⟩
      | true =>
        go_wp2_with fail
        refine (rowSwap_any B g cap n T' hl i j (by omega) hj _ H3.out.2.2.1).mono ?_
        rintro e w3 ⟨rfl, T3, hp3, hr3, c3⟩
        have hb3 := H3.out.2.1.keep c3 (fun h => by have := hgf; omega)
        have H4 := Hid.mk (show ∃ T', T'.Perm T ∧ Bk w3 f 101 #[c0, c1, .slice (some { block := g, off := 0 }) n cap, c4] ∧ ERow w3 B g cap T' ∧ Chg (fun k => k = g) w w3 from ⟨T3, hp3.trans H3.out.1, hb3, hr3, H3.out.2.2.2.trans c3 (fun _ _ h => h)⟩)
        clear H3 hb3 hr3 c3 m2
        go_wp2_with fail
        refine ⟨⟨i, by omega, rfl, H4⟩, by simp [intOf]; omega⟩

end Go.Proofs.YtkemmffdiclloaaGreatDoor
namespace Go.Proofs.YtkemmffdiclloaaGreatDoor
open Go.RowKit
set_option maxHeartbeats 4000000 in
set_option maxRecDepth 100000 in
theorem heapPush_any (B f n : Nat) (c0 c1 c4 v : Value) (T : List (Int × Int)) (p : Int × Int) (hn : T.length = n) (hnb : n ≤ 1000000) (w : World)
    (hB : Bk w f 101 #[c0, c1, v, c4]) (h : w.ownsRow B 25 2 v n (ringC T)) (hfg : f < B) (hBw : B ≤ w.heap.size) :
    Calls Tryz.prog 81 #[.iface 105 (.pointer (some { block := f, off := 2 })), .iface 25 (eV p.1 p.2)] w fun e w' => e = .returned (.tuple #[]) ∧
      ∃ v' T', T'.Perm (p :: T) ∧ Bk w' f 101 #[c0, c1, v', c4] ∧ w'.ownsRow B 25 2 v' (n + 1) (ringC T') ∧ Chg (fun k => k = f ∨ Own v k) w w' ∧ ∀ k, Own v' k → Own v k ∨ w.heap.size ≤ k := by
  have h1 := rowPush_any B f n c0 c1 c4 v T p hn hnb w hB h hfg hBw
  clear hB h
  go_enter Tryz.func81, Tryz.ntmps81
  go_wp2_with fail
  refine h1.mono ?_
  rintro e w1 ⟨rfl, v1, hb1, hr1, hc1, ho1⟩
  clear h1
  obtain ⟨g, cap, rfl, hg1, hg2⟩ := hr1.form (by omega)
  have hl1 : (T ++ [p]).length = n + 1 := by simp [hn]
  have he1 : ERow w1 B g cap (T ++ [p]) := by unfold ERow; rw [hl1]; exact hr1
  have m1 := Tryz.rowLen { block := f, off := 2 } (.slice (some { block := g, off := 0 }) (n + 1) cap) w1 (hb1.cell 2 rfl)
  have H1 := Hid.mk (And.intro hb1 (And.intro he1 (And.intro hc1 ho1)))
  clear hb1 hr1 hc1 ho1 he1 hg1 hg2
  go_wp2_with fail
  refine (rowLen_any _ _ _ _).mono ?_
  rintro e w2 ⟨rfl, rfl⟩
  clear m1
  go_wp2_with fail
  refine (up_any B f g cap (n + 1) c0 c1 c4 (T ++ [p]) hl1 (by omega) n (by omega) _ H1.out.1 H1.out.2.1 hfg).mono ?_
  rintro e w3 ⟨rfl, T3, hp3, hb3, hr3, hc3⟩
  go_wp2_with fail
  refine bodyPost_end (results_none rfl _ _ _) rfl ?_
  have hl3 : T3.length = n + 1 := by rw [hp3.length_eq, hl1]
  unfold ERow at hr3
  rw [hl3] at hr3
  exact ⟨rfl, _, T3, hp3.trans (List.perm_append_singleton p T), hb3, hr3, H1.out.2.2.1.trans hc3 (fun k hk e => by
    subst e
    rcases H1.out.2.2.2 k rfl with h | h
    · exact .inr h
    · omega), H1.out.2.2.2⟩

end Go.Proofs.YtkemmffdiclloaaGreatDoor
namespace Go.Proofs.YtkemmffdiclloaaGreatDoor
open Go.RowKit
set_option maxHeartbeats 8000000 in
set_option maxRecDepth 100000 in
theorem down_any (B f g cap n N : Nat) (c0 c1 c4 : Value) (T : List (Int × Int)) (hn : T.length = n) (hnb : n ≤ 1000001) (hN : N ≤ n) (i0 : Nat) (hi0 : i0 < n) (w : World)
    (hB : Bk w f 101 #[c0, c1, .slice (some { block := g, off := 0 }) n cap, c4]) (h : ERow w B g cap T) (hfg : f < B) :
    Calls Tryz.prog 82 #[.iface 105 (.pointer (some { block := f, off := 2 })), .int .i64 (i0 : Int), .int .i64 (N : Int)] w fun e w' => (∃ b, e = .returned (.bool b)) ∧
      ∃ T', T'.Perm T ∧ Bk w' f 101 #[c0, c1, .slice (some { block := g, off := 0 }) n cap, c4] ∧ ERow w' B g cap T' ∧ Chg (fun k => k = g) w w' := by
  have HI := Hid.mk (And.intro hB h)
  clear hB h
  have hgf := HI.out.2.lt.1
  go_enter Tryz.func82, Tryz.ntmps82
  go_wp2_with fail
  go_loopw [7] (fun v7 wr => ∃ i : Nat, i < n ∧ v7 = .int .i64 (i : Int) ∧ Hid (∃ T', T'.Perm T ∧ Bk wr f 101 #[c0, c1, .slice (some { block := g, off := 0 }) n cap, c4] ∧ ERow wr B g cap T' ∧ Chg (fun k => k = g) w wr)) (fun v7 _ => n - (intOf v7).toNat)
  case atStart => exact ⟨i0, hi0, rfl, Hid.mk ⟨T, List.Perm.refl _, HI.out.1, HI.out.2, Chg.refl _ _⟩⟩
  case round =>
    obtain ⟨i, hi, rfl, HR⟩ := hrel
    clear HI
    obtain ⟨T', hp, hb, hr, hc⟩ := HR.out
    have hl : T'.length = n := by rw [hp.length_eq, hn]
    have m1 := Tryz.rowLess { block := f, off := 2 } (.slice (some { block := g, off := 0 }) n cap) wr (hb.cell 2 rfl)
    have HR2 := Hid.mk (And.intro hp (And.intro hb (And.intro hr hc)))
    clear HR hp hb hr hc
    by_cases hge : N ≤ 2 * i + 1
    · have k1 : decide ((N : Int) ≤ 2 * (i : Int) + 1) = true := decide_eq_true (by omega)
      go_wp2_with fail
      go_ret
      exact ⟨⟨_, rfl⟩, T', HR2.out⟩
    · have k1 : decide ((N : Int) ≤ 2 * (i : Int) + 1) = false := decide_eq_false (by omega)
      have k2 : decide (2 * (i : Int) + 1 < 0) = false := decide_eq_false (by omega)
      obtain ⟨j, hj⟩ : ∃ j, 2 * i + 1 = j := ⟨_, rfl⟩
      have kj : 2 * (i : Int) + 1 = (j : Int) := by omega
      obtain ⟨j2, hj2⟩ : ∃ j2, j + 1 = j2 := ⟨_, rfl⟩
      have kj2 : (j : Int) + 1 = (j2 : Int) := by omega
      by_cases h3 : j2 < N
      · have k3 : decide ((j2 : Int) < (N : Int)) = true := decide_eq_true (by omega)
        go_wp2_with fail
        refine (rowLess_any B g cap n T' hl j2 j (by omega) (by omega) _ HR2.out.2.2.1).mono ?_
        rintro e w2 ⟨b2, rfl, c2⟩
        have hb2 := HR2.out.2.1.keep c2 (fun h => h)
        have m2 := Tryz.rowLess { block := f, off := 2 } (.slice (some { block := g, off := 0 }) n cap) w2 (hb2.cell 2 rfl)
        have hr2 : ERow w2 B g cap T' := own_keep HR2.out.2.2.1 c2 (fun _ _ h => h)
        have H3 := Hid.mk (And.intro HR2.out.1 (And.intro hb2 (And.intro hr2 (HR2.out.2.2.2.trans c2 (fun _ _ h => False.elim h)))))
        clear HR2 c2 hb2 hr2 m1
        cases b2 with
        | true =>
          go_wp2_with fail
          refine (rowLess_any B g cap n T' hl j2 i (by omega) hi _ H3.out.2.2.1).mono ?_
          rintro e wa1 ⟨b, rfl, ce⟩
          have hbe := H3.out.2.1.keep ce (fun h => h)
          have me := Tryz.rowSwap { block := f, off := 2 } (.slice (some { block := g, off := 0 }) n cap) wa1 (hbe.cell 2 rfl)
          have hre : ERow wa1 B g cap T' := own_keep H3.out.2.2.1 ce (fun _ _ h => h)
          have HE := Hid.mk (And.intro H3.out.1 (And.intro hbe (And.intro hre (H3.out.2.2.2.trans ce (fun _ _ h => False.elim h)))))
          clear H3 ce hbe hre m2
          cases b with
          | false =>
            go_wp2_with fail
            go_ret
            exact ⟨⟨_, rfl⟩, T', HE.out⟩
          | true =>
            go_wp2_with fail
            refine (rowSwap_any B g cap n T' hl i j2 hi (by omega) _ HE.out.2.2.1).mono ?_
            rintro e wa2 ⟨rfl, T3, hp3, hr3, c3⟩
            have hb3 := HE.out.2.1.keep c3 (fun h => by have := hgf; omega)
            have H4 := Hid.mk (show ∃ T', T'.Perm T ∧ Bk wa2 f 101 #[c0, c1, .slice (some { block := g, off := 0 }) n cap, c4] ∧ ERow wa2 B g cap T' ∧ Chg (fun k => k = g) w wa2 from ⟨T3, hp3.trans HE.out.1, hb3, hr3, HE.out.2.2.2.trans c3 (fun _ _ h => h)⟩)
            clear HE hb3 hr3 c3 me
            go_wp2_with fail
            refine ⟨⟨j2, by omega, rfl, H4⟩, by simp [intOf]; omega⟩
        | false =>
          go_wp2_with fail
          refine (rowLess_any B g cap n T' hl j i (by omega) hi _ H3.out.2.2.1).mono ?_
          rintro e wb1 ⟨b, rfl, ce⟩
          have hbe := H3.out.2.1.keep ce (fun h => h)
          have me := Tryz.rowSwap { block := f, off := 2 } (.slice (some { block := g, off := 0 }) n cap) wb1 (hbe.cell 2 rfl)
          have hre : ERow wb1 B g cap T' := own_keep H3.out.2.2.1 ce (fun _ _ h => h)
          have HE := Hid.mk (And.intro H3.out.1 (And.intro hbe (And.intro hre (H3.out.2.2.2.trans ce (fun _ _ h => False.elim h)))))
          clear H3 ce hbe hre m2
          cases b with
          | false =>
            go_wp2_with fail
            go_ret
            exact ⟨⟨_, rfl⟩, T', HE.out⟩
          | true =>
            go_wp2_with fail
            refine (rowSwap_any B g cap n T' hl i j hi (by omega) _ HE.out.2.2.1).mono ?_
            rintro e wb2 ⟨rfl, T3, hp3, hr3, c3⟩
            have hb3 := HE.out.2.1.keep c3 (fun h => by have := hgf; omega)
            have H4 := Hid.mk (show ∃ T', T'.Perm T ∧ Bk wb2 f 101 #[c0, c1, .slice (some { block := g, off := 0 }) n cap, c4] ∧ ERow wb2 B g cap T' ∧ Chg (fun k => k = g) w wb2 from ⟨T3, hp3.trans HE.out.1, hb3, hr3, HE.out.2.2.2.trans c3 (fun _ _ h => h)⟩)
            clear HE hb3 hr3 c3 me
            go_wp2_with fail
            refine ⟨⟨j, by omega, rfl, H4⟩, by simp [intOf]; omega⟩
      · have k3 : decide ((j2 : Int) < (N : Int)) = false := decide_eq_false (by omega)
        go_wp2_with fail
        refine (rowLess_any B g cap n T' hl j i (by omega) hi _ HR2.out.2.2.1).mono ?_
        rintro e wc1 ⟨b, rfl, ce⟩
        have hbe := HR2.out.2.1.keep ce (fun h => h)
        have me := Tryz.rowSwap { block := f, off := 2 } (.slice (some { block := g, off := 0 }) n cap) wc1 (hbe.cell 2 rfl)
        have hre : ERow wc1 B g cap T' := own_keep HR2.out.2.2.1 ce (fun _ _ h => h)
        have HE := Hid.mk (And.intro HR2.out.1 (And.intro hbe (And.intro hre (HR2.out.2.2.2.trans ce (fun _ _ h => False.elim h)))))
        clear HR2 ce hbe hre m1
        cases b with
        | false =>
          go_wp2_with fail
          go_ret
          exact ⟨⟨_, rfl⟩, T', HE.out⟩
        | true =>
          go_wp2_with fail
          refine (rowSwap_any B g cap n T' hl i j hi (by omega) _ HE.out.2.2.1).mono ?_
          rintro e wc2 ⟨rfl, T3, hp3, hr3, c3⟩
          have hb3 := HE.out.2.1.keep c3 (fun h => by have := hgf; omega)
          have H4 := Hid.mk (show ∃ T', T'.Perm T ∧ Bk wc2 f 101 #[c0, c1, .slice (some { block := g, off := 0 }) n cap, c4] ∧ ERow wc2 B g cap T' ∧ Chg (fun k => k = g) w wc2 from ⟨T3, hp3.trans HE.out.1, hb3, hr3, HE.out.2.2.2.trans c3 (fun _ _ h => h)⟩)
          clear HE hb3 hr3 c3 me
          go_wp2_with fail
          refine ⟨⟨j, by omega, rfl, H4⟩, by simp [intOf]; omega⟩

end Go.Proofs.YtkemmffdiclloaaGreatDoor
namespace Go.Proofs.YtkemmffdiclloaaGreatDoor
open Go.RowKit
set_option maxHeartbeats 4000000 in
set_option maxRecDepth 100000 in
theorem heapPop_any (B f g cap n : Nat) (c0 c1 c4 : Value) (T : List (Int × Int)) (hn : T.length = n + 1) (hnb : n ≤ 1000000) (w : World)
    (hB : Bk w f 101 #[c0, c1, .slice (some { block := g, off := 0 }) (n + 1) cap, c4]) (h : ERow w B g cap T) (hfg : f < B) :
    Calls Tryz.prog 44 #[.iface 105 (.pointer (some { block := f, off := 2 }))] w fun e w' => ∃ p T', e = .returned (.iface 25 (eV p.1 p.2)) ∧ T.Perm (p :: T') ∧
      Bk w' f 101 #[c0, c1, .slice (some { block := g, off := 0 }) n cap, c4] ∧ ERow w' B g cap T' ∧ T'.length = n ∧ Chg (fun k => k = f ∨ k = g) w w' := by
  have hgf := h.lt.1
  have m0 := Tryz.rowLen { block := f, off := 2 } (.slice (some { block := g, off := 0 }) (n + 1) cap) w (hB.cell 2 rfl)
  have m1 := Tryz.rowSwap { block := f, off := 2 } (.slice (some { block := g, off := 0 }) (n + 1) cap) w (hB.cell 2 rfl)
  have H0 := Hid.mk (And.intro hB h)
  clear hB h
  go_enter Tryz.func44, Tryz.ntmps44
  go_wp2_with fail
  refine (rowLen_any _ _ _ _).mono ?_
  rintro e w1 ⟨rfl, rfl⟩
  go_wp2_with fail
  refine (rowSwap_any B g cap (n + 1) T hn 0 n (by omega) (by omega) _ H0.out.2).mono ?_
  rintro e w2 ⟨rfl, T2, hp2, hr2, c2⟩
  have hb2 := H0.out.1.keep c2 (fun h => by omega)
  have H2 := Hid.mk (And.intro hp2 (And.intro hb2 (And.intro hr2 c2)))
  have hl2 : T2.length = n + 1 := by rw [hp2.length_eq, hn]
  clear H0 hp2 hb2 hr2 c2 m0 m1
  go_wp2_with fail
  refine (down_any B f g cap (n + 1) n c0 c1 c4 T2 hl2 (by omega) (by omega) 0 (by omega) _ H2.out.2.1 H2.out.2.2.1 hfg).mono ?_
  rintro e w3 ⟨⟨b, rfl⟩, T3, hp3, hb3, hr3, c3⟩
  have hl3 : T3.length = n + 1 := by rw [hp3.length_eq, hl2]
  obtain ⟨T4, p, rfl⟩ : ∃ T4 p, T3 = T4 ++ [p] := by
    rcases List.eq_nil_or_concat T3 with h | ⟨L, x, h⟩
    · rw [h] at hl3; cases hl3
    · exact ⟨L, x, by simpa using h⟩
  have hl4 : T4.length = n := by simpa using hl3
  have hperm : T.Perm (p :: T4) := (H2.out.1.symm.trans hp3.symm).trans (List.perm_append_singleton p T4)
  have H3 := Hid.mk (And.intro hperm (And.intro hb3 (And.intro hr3 (H2.out.2.2.2.trans c3 (fun _ _ h => h)))))
  clear H2 hp3 hb3 hr3 c3 hperm
  go_wp2_with fail
  refine (rowPop_any B f g cap n c0 c1 c4 T4 p hl4 hnb _ H3.out.2.1 H3.out.2.2.1 hfg).mono ?_
  rintro e w4 ⟨rfl, hb4, hr4, c4'⟩
  have c5 : Chg (fun k => k = f ∨ k = g) w1 w4 := ((Chg.refl (fun k => k = f ∨ k = g) w1).trans H3.out.2.2.2 (fun _ _ h => .inr h)).trans c4' (fun _ _ h => .inl h)
  have H4 := Hid.mk (And.intro H3.out.1 (And.intro hb4 (And.intro hr4 c5)))
  clear H3 hb4 hr4 c4' c5
  go_wp2_with fail
  go_ret
  exact ⟨p, T4, rfl, H4.out.1, H4.out.2.1, H4.out.2.2.1, hl4, H4.out.2.2.2⟩

end Go.Proofs.YtkemmffdiclloaaGreatDoor
namespace Go.Proofs.YtkemmffdiclloaaGreatDoor
open Go.RowKit
/-- The low k bits of any number. -/
theorem i64_low (k : Nat) (m n : Int) (hk : k ≤ 62) (hm : (BitVec.ofInt 64 m).toNat = 2 ^ k - 1) : bits .and .i64 n m = IntKind.i64.wrap (((n % 18446744073709551616).toNat % 2 ^ k : Nat) : Int) := by
  have h : (BitVec.ofInt 64 n &&& BitVec.ofInt 64 m).toNat = (n % 18446744073709551616).toNat % 2 ^ k := by
    simp only [BitVec.toNat_and, BitVec.toNat_ofInt] at hm ⊢
    rw [hm, Nat.and_two_pow_sub_one_eq_mod]
    rfl
  exact congrArg (fun x : Nat => IntKind.i64.wrap (x : Int)) h
theorem i64_low30 (n : Int) : bits .and .i64 n 1073741823 = n % 1073741824 := by
  rw [i64_low 30 1073741823 n (by decide) (by decide), IntKind.wrap_i64]
  omega
theorem i64_low8 (n : Int) : bits .and .i64 n 255 = n % 256 := by
  rw [i64_low 8 255 n (by decide) (by decide), IntKind.wrap_i64]
  omega
set_option maxHeartbeats 1000000 in
theorem lawPoint_any (x y : Int) (w : World) :
    Calls Tryz.prog 6 #[.int .i64 x, .int .i64 y] w fun e w' => e = .returned (.tuple #[.int .i64 (x % 1073741824), .int .i64 (y % 1073741824)]) ∧ w' = w := by
  have hx := i64_low30 x
  have hy := i64_low30 y
  go_enter Tryz.func6, Tryz.ntmps6
  go_wp2_with fail
  go_ret2
  exact ⟨rfl, rfl⟩

end Go.Proofs.YtkemmffdiclloaaGreatDoor
namespace Go.Proofs.YtkemmffdiclloaaGreatDoor
open Go.RowKit
def wordsC (xs : List Nat) : List Value := xs.map fun (x : Nat) => .int .u64 (x : Int)
def Rising (xs : List Nat) : Prop := ∀ (i j a b : Nat), i ≤ j → xs[i]? = some a → xs[j]? = some b → a ≤ b
theorem rising_hit {xs : List Nat} (h : Rising xs) {v lo : Nat} (hm : v ∈ xs) (hb : ∀ (i a : Nat), i < lo → xs[i]? = some a → a < v) (ha : ∀ (i a : Nat), lo ≤ i → xs[i]? = some a → v ≤ a) : xs[lo]? = some v := by
  obtain ⟨k, hk⟩ := List.mem_iff_getElem?.1 hm
  have h1 : lo ≤ k := by
    rcases Nat.lt_or_ge k lo with h2 | h2
    · exact absurd (hb k v h2 hk) (by omega)
    · exact h2
  have hkl : k < xs.length := (List.getElem?_eq_some_iff.1 hk).1
  obtain ⟨u, hu⟩ : ∃ u, xs[lo]? = some u := ⟨_, List.getElem?_eq_getElem (by omega)⟩
  have h2 := h lo k u v h1 hu hk
  have h3 := ha lo u (Nat.le_refl _) hu
  rw [hu, show u = v by omega]
set_option maxHeartbeats 2000000 in
theorem has_any (g n c v : Nat) (xs : List Nat) (hn : xs.length = n) (hnb : n ≤ 1000000) (hr : Rising xs) (hm : v ∈ xs) (w : World) (hx : ∀ (j x : Nat), xs[j]? = some x → w.cell? { block := g, off := j } = some (.int .u64 (x : Int))) :
    Calls Tryz.prog 12 #[.slice (some { block := g, off := 0 }) n c, .int .u64 (v : Int)] w fun e w' => e = .returned (.bool true) ∧ w' = w := by
  have HX := Hid.mk hx
  have HRS := Hid.mk (And.intro hr hm)
  clear hx hr hm
  go_enter Tryz.func12, Tryz.ntmps12
  go_wp2_with fail
  go_loop [5, 6] (fun v5 v6 => ∃ lo hi : Nat, lo ≤ hi ∧ hi ≤ n ∧ v5 = .int .i64 (lo : Int) ∧ v6 = .int .i64 (hi : Int) ∧ Hid ((∀ (i a : Nat), i < lo → xs[i]? = some a → a < v) ∧ ∀ (i a : Nat), hi ≤ i → xs[i]? = some a → v ≤ a)) (fun v5 v6 => (intOf v6).toNat - (intOf v5).toNat)
  case atStart => exact ⟨0, n, by omega, by omega, rfl, rfl, Hid.mk ⟨fun i a h => absurd h (by omega), fun i a h h2 => by have := (List.getElem?_eq_some_iff.1 h2).1; omega⟩⟩
  case round =>
    obtain ⟨lo, hi, h1, h2, rfl, rfl, HI⟩ := hrel
    by_cases hlt : lo < hi
    · obtain ⟨m, hm⟩ : ∃ m, (lo + hi) / 2 = m := ⟨_, rfl⟩
      have km : Int.tdiv ((lo : Int) + (hi : Int)) 2 = (m : Int) := by rw [Int.tdiv_eq_ediv_of_nonneg (by omega)]; omega
      obtain ⟨x, hxm⟩ : ∃ x, xs[m]? = some x := ⟨_, List.getElem?_eq_getElem (by omega)⟩
      have y0 := HX.out m x hxm
      have HXM := Hid.mk hxm
      have hml : lo ≤ m ∧ m < hi := by omega
      obtain ⟨hm1, hm2⟩ := hml
      clear hxm hm
      by_cases hv : x < v
      · have k1 : decide ((x : Int) < (v : Int)) = true := decide_eq_true (by omega)
        go_wp2_with fail
        refine ⟨⟨m + 1, hi, by omega, h2, by go_num, rfl, Hid.mk ⟨fun i a hi' ha => ?_, HI.out.2⟩⟩, by simp [intOf]; omega⟩
        have := HRS.out.1 i m a x (by omega) ha HXM.out
        omega
      · have k1 : decide ((x : Int) < (v : Int)) = false := decide_eq_false (by omega)
        go_wp2_with fail
        refine ⟨⟨lo, m, hm1, by omega, rfl, rfl, Hid.mk ⟨HI.out.1, fun i a hi' ha => ?_⟩⟩, by simp [intOf]; omega⟩
        have := HRS.out.1 m i x a hi' HXM.out ha
        omega
    · obtain rfl : lo = hi := by omega
      have hit := rising_hit HRS.out.1 HRS.out.2 HI.out.1 HI.out.2
      have hl : lo < n := by have := (List.getElem?_eq_some_iff.1 hit).1; omega
      have y0 := HX.out lo v hit
      clear hit HX HRS HI
      go_wp2_with fail
      go_ret
      exact ⟨by simp, rfl⟩

end Go.Proofs.YtkemmffdiclloaaGreatDoor
namespace Go.Proofs.YtkemmffdiclloaaGreatDoor
open Go.RowKit
theorem keyE : Maps.Keyed Tryz.prog 25 :=
  Maps.Keyed.of_law (deep_law (m := 4) (by decide) (k := 25) (by kernel_rfl) (by kernel_rfl) (by kernel_rfl))

end Go.Proofs.YtkemmffdiclloaaGreatDoor
