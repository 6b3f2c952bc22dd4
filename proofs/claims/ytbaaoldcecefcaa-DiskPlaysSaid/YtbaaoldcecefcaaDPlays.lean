/- The walk of DiskPlays: it returns true, whatever the input. -/
import Derived.Test.YtbaaoldcecefcaaPair
namespace Go.Proofs.Ytbaaoldcecefcaa
open Go.RowKit

theorem wpAnyH_mono {P : Program} {md : Region.Mode} {ops : Array Oper} {Q : Exit → Act → World → Prop} {S1 S2 : World → Prop} (hS : ∀ w, S2 w → S1 w) :
    ∀ (fuel : Nat) (listed : Array Bool) (a : Act) (w : World), wpAnyH P md ops Q S2 fuel listed a w → wpAnyH P md ops Q S1 fuel listed a w
  | 0, _, _, _, h => h
  | fuel + 1, _, _, _, h => ⟨h.1, fun i hi => wpOp_mono (fun _ _ h' => ⟨hS _ h'.1, wpAnyH_mono hS fuel _ _ _ h'.2⟩) (h.2 i hi)⟩

theorem PairAt.new {w0 w w' : World} {g g' : Nat} {M R M' : Nat → Prop} {d : Dp} {r : Rp} (h : Live w0 w g M R d) (hc : Chg Nil w w') (hr : Rk w' g' M' r) (hl : ∀ k, M' k → w.heap.size ≤ k) : PairAt w0 w' g M R d g' M' r :=
  ⟨h.nil hc, hr, fun k hk => Nat.le_trans h.chg.size (hl k hk), fun k hm hk => by have := hl k hk; have := h.dk.lt k (.inl hm); omega, fun k hk => ⟨fun hm => by have := hl k hk; have := h.dk.lt k (.inl hm); omega, fun hm => by have := hl k hk; have := h.dk.lt k (.inr hm); omega⟩⟩
theorem Played.nil {w0 a b : World} {g g' n k : Nat} (h : Played w0 a g g' n k) (hc : Chg Nil a b) : Played w0 b g g' n k := by
  obtain ⟨M, R, M', d, r, h1, h2⟩ := h
  exact ⟨M, R, M', d, r, h1.nil hc, h2⟩
theorem Played.chg {w0 a : World} {g g' n k : Nat} (h : Played w0 a g g' n k) : Chg Nil w0 a := by
  obtain ⟨M, R, M', d, r, h1, h2⟩ := h
  exact h1.live.chg

set_option maxHeartbeats 1000000 in
set_option maxRecDepth 100000 in
theorem plays_walk (n0 : Int) (A : Option Addr) (m c : Nat) (l : List Qop) (S : Nat → Prop) (w : World) (hl : l.length = m) (hr : Rds w S 4 A m (l.flatMap Qop.cs)) (hfit : ∀ o ∈ l, o.fit) (hm : m ≤ 9223372036854775807) :
    Calls Try.prog 8 #[.int .i64 n0, .slice A m c] w fun e w' => e = .returned (.bool true) ∧ Chg Nil w w' := by
  have HR := Hid.mk (And.intro hr hfit)
  clear hr hfit
  go_enter Try.func8, Try.ntmps8
  by_cases h300 : 300 < n0
  case' pos =>
    have hmod : n0 % 300 ≤ 300 := by omega
    go_wp2_with fail
    generalize n0 % 300 = n1 at *
  case' neg =>
    have hmod : n0 ≤ 300 := by omega
    go_wp2_with fail
    generalize n0 = n1 at *
  case pos =>
    refine (dnew_any n1 w).mono ?_
    rintro e w1 ⟨g, M, R, rfl, hc1, h1, hlow⟩
    have L1 := Hid.mk (Live.mk hc1 h1 hlow)
    clear hc1 h1 hlow
    go_wp2_with fail
    refine (rnew_any n1 w1).mono ?_
    rintro e w2 ⟨g', M', rfl, hc2, h2, hlow2⟩
    have hN : newN n1 ≤ 300 := by unfold newN; omega
    have hpl : Played w w2 g g' (newN n1) 0 := ⟨M, R, M', _, _, PairAt.new L1.out hc2 h2 hlow2, same_new n1, by simp [Dp.new], Nat.zero_le _, Nat.zero_le _⟩
    have H2 := Hid.mk hpl
    clear hc2 h2 hlow2 hpl
    generalize newN n1 = N at *
    go_wp2_with fail
    refine (awakeD_any _).mono ?_
    rintro e w3 ⟨rfl, hc3⟩
    have H3 := Hid.mk (H2.out.nil hc3)
    clear hc3
    go_wp2_with fail
    go_loopw [7] (fun i wr => ∃ k : Nat, k ≤ 60 ∧ k ≤ m ∧ i = .int .i64 (k : Int) ∧ Played w wr g g' N k) (fun i _ => 60 - (intOf i).toNat)
    case atStart => exact ⟨0, by omega, by omega, rfl, H3.out⟩
    case round =>
      obtain ⟨k, hk60, hkm, rfl, hpl⟩ := hrel
      by_cases hlt : k < m
      · by_cases hlt60 : k < 60
        · have d60 : decide ((k : Int) < 60) = true := by rw [decide_eq_true_iff]; omega
          obtain ⟨b, off, rfl, _, _, hx⟩ := HR.out.1.plain (by omega) (by omega)
          have ho : l[k]? = some (l[k]'(by omega)) := List.getElem?_eq_getElem (by omega)
          have hfo := HR.out.2 _ (List.mem_of_getElem? ho)
          generalize l[k]'(by omega) = o at ho hfo
          obtain ⟨kd, p, N0, kp⟩ := o
          have hch := hpl.chg
          have hcells : ∀ W, Chg Nil w W → W.cell? ⟨b, off + k * 4, none⟩ = some (.int .i64 kd) ∧ W.cell? ⟨b, off + k * 4 + 1, none⟩ = some (.int .i64 p) ∧ W.cell? ⟨b, off + k * 4 + 2, none⟩ = some (.int .i64 N0) ∧ W.cell? ⟨b, off + k * 4 + 3, none⟩ = some (.int .i64 kp) := fun W hc =>
            ⟨hc.cell (hx (k * 4 + 0) _ (qops_get l k _ ho 0 _ rfl)) (fun h => h), hc.cell (hx (k * 4 + 1) _ (qops_get l k _ ho 1 _ rfl)) (fun h => h), hc.cell (hx (k * 4 + 2) _ (qops_get l k _ ho 2 _ rfl)) (fun h => h), hc.cell (hx (k * 4 + 3) _ (qops_get l k _ ho 3 _ rfl)) (fun h => h)⟩
          have HC := Hid.mk hcells
          have HP := Hid.mk (And.intro hpl (And.intro hch hfo))
          clear hpl hch hx hcells hfo
          have b1 : (0 : Int) ≤ (k : Int) := by omega
          have b2 : (k : Int) < (m : Int) := by omega
          go_wp2_with fail
          refine wp_region_held_drew (S := fun W => W.cell? ⟨b, off + k * 4, none⟩ = some (.int .i64 kd) ∧ W.cell? ⟨b, off + k * 4 + 1, none⟩ = some (.int .i64 p) ∧ W.cell? ⟨b, off + k * 4 + 2, none⟩ = some (.int .i64 N0) ∧ W.cell? ⟨b, off + k * 4 + 3, none⟩ = some (.int .i64 kp)) (by kernel_rfl) (HC.out _ HP.out.2.1.drew) (fun hHeld => ?_)
          clear b1 b2
          refine wpAnyH_take (i := 0) (oi := { dst := some 36, op := Op.move (Operand.tmp 5), type := 23, pos := "law.go:75", after := #[], guard := none }) (v := ?v0) rfl (by kernel_rfl) (by kernel_rfl) (by kernel_rfl) (fun _ _ _ h => h) (Or.inl ⟨by rfl, ?hy0⟩) (by assumption) ?rest0
          case hy0 =>
            intro W hSW
            obtain ⟨s1, s2, s3, s4⟩ := hSW
            go_simp
            all_goals with_reducible rfl
          try simp only [Act.put, List.setIfInBounds_toArray, List.set_cons_zero, List.set_cons_succ]
          refine wpAnyH_take (i := 1) (oi := { dst := some 37, op := Op.move (Operand.tmp 6), type := 46, pos := "law.go:75", after := #[], guard := none }) (v := ?v1) rfl (by kernel_rfl) (by kernel_rfl) (by kernel_rfl) (fun _ _ _ h => h) (Or.inl ⟨by rfl, ?hy1⟩) (by assumption) ?rest1
          case hy1 =>
            intro W hSW
            obtain ⟨s1, s2, s3, s4⟩ := hSW
            go_simp
            all_goals with_reducible rfl
          try simp only [Act.put, List.setIfInBounds_toArray, List.set_cons_zero, List.set_cons_succ]
          refine wpAnyH_take (i := 2) (oi := { dst := some 38, op := Op.move (Operand.tmp 1), type := 40, pos := "law.go:75", after := #[], guard := none }) (v := ?v2) rfl (by kernel_rfl) (by kernel_rfl) (by kernel_rfl) (fun _ _ _ h => h) (Or.inl ⟨by rfl, ?hy2⟩) (by assumption) ?rest2
          case hy2 =>
            intro W hSW
            obtain ⟨s1, s2, s3, s4⟩ := hSW
            go_simp
            all_goals with_reducible rfl
          try simp only [Act.put, List.setIfInBounds_toArray, List.set_cons_zero, List.set_cons_succ]
          refine wpAnyH_take (i := 3) (oi := { dst := some 39, op := Op.move (Operand.tmp 7), type := 3, pos := "law.go:75", after := #[], guard := none }) (v := ?v3) rfl (by kernel_rfl) (by kernel_rfl) (by kernel_rfl) (fun _ _ _ h => h) (Or.inl ⟨by rfl, ?hy3⟩) (by assumption) ?rest3
          case hy3 =>
            intro W hSW
            obtain ⟨s1, s2, s3, s4⟩ := hSW
            go_simp
            all_goals with_reducible rfl
          try simp only [Act.put, List.setIfInBounds_toArray, List.set_cons_zero, List.set_cons_succ]
          refine wpAnyH_take (i := 4) (oi := { dst := some 40, op := Op.indexAddr 40 (Operand.tmp 38) (Operand.tmp 39), type := 0, pos := "law.go:75", after := #[{ on := 2, ground := Ground.data }, { on := 3, ground := Ground.data }], guard := none }) (v := ?v4) rfl (by kernel_rfl) (by kernel_rfl) (by kernel_rfl) (fun _ _ _ h => h) (Or.inl ⟨by rfl, ?hy4⟩) (by assumption) ?rest4
          case hy4 =>
            intro W hSW
            obtain ⟨s1, s2, s3, s4⟩ := hSW
            go_simp
            all_goals with_reducible rfl
          try simp only [Act.put, List.setIfInBounds_toArray, List.set_cons_zero, List.set_cons_succ]
          refine wpAnyH_take (i := 5) (oi := { dst := some 41, op := Op.load 42 (Operand.tmp 40), type := 42, pos := "law.go:75", after := #[{ on := 4, ground := Ground.data }], guard := none }) (v := ?v5) rfl (by kernel_rfl) (by kernel_rfl) (by kernel_rfl) (fun _ _ _ h => h) (Or.inl ⟨by rfl, ?hy5⟩) (by assumption) ?rest5
          case hy5 =>
            intro W hSW
            obtain ⟨s1, s2, s3, s4⟩ := hSW
            go_simp
            all_goals with_reducible rfl
          try simp only [Act.put, List.setIfInBounds_toArray, List.set_cons_zero, List.set_cons_succ]
          refine wpAnyH_ready (rs := [6]) (by kernel_rfl) (by simp) ?_
          refine AllReadyH.cons rfl (fun K hK => ?_) AllReadyH.nil
          go_simp
          go_wp2_with fail
          refine (do_any ⟨kd, p, N0, kp⟩ HP.out.2.2 (HP.out.1.nil (Chg.refl Nil wr).drew) (by omega)).mono ?_
          rintro e w6 ⟨rfl, hp6⟩
          have H6 := Hid.mk hp6
          clear hp6
          go_wp2_with fail
          refine hK.out _ _ (HC.out _ H6.out.chg) (fun hHeld => ?_)
          clear hK K
          obtain ⟨M6, R6, M6', d6, r6, hpa6, hsame6, hn6, hw6, hsum6⟩ := H6.out
          obtain ⟨nv6, lv6, wv6, hrk6⟩ := hpa6.rk
          obtain ⟨A6, c6, rfl, hac6, ham6⟩ := hrk6.now.form
          obtain ⟨F6, f6, rfl, hfc6, hfm6⟩ := hrk6.row.form
          have hq6 : r6.waits.length = sumW d6.waits := by rw [hsame6.waits, flat_len]
          have hnl6 : r6.now.length = N := by rw [hsame6.now]; exact hn6
          have g0 : w6.cell? ⟨g', 0, none⟩ = some (.slice A6 r6.now.length c6) := hrk6.bk.cell 0 rfl
          have g2 : w6.cell? ⟨g', 2, none⟩ = some (.slice F6 r6.waits.length f6) := hrk6.bk.cell 2 rfl
          have g4 : w6.cell? ⟨g', 4, none⟩ = some (.bool r6.dead) := hrk6.bk.cell 4 rfl
          rw [hnl6] at g0
          rw [hq6] at g2
          rw [hsame6.dead] at g4
          have hsz : ∀ W, Chg Nil w6 W → Calls Try.prog 22 #[.pointer (some ⟨g, 0, none⟩)] W fun e w' => e = .returned (.int .i64 (N : Int)) ∧ w' = W := fun W hc => by
            have := size_any (hpa6.live.dk.keep_nil hc)
            rw [hn6] at this
            exact this
          have hcw : ∀ W, Chg Nil w6 W → Calls Try.prog 14 #[.pointer (some ⟨g, 0, none⟩)] W fun e w' => e = .returned (.int .i64 (sumW d6.waits : Int)) ∧ Chg Nil W w' := fun W hc => dwaits_any (hpa6.live.dk.keep_nil hc) (by omega)
          have hcd : ∀ W, Chg Nil w6 W → Calls Try.prog 18 #[.pointer (some ⟨g, 0, none⟩)] W fun e w' => e = .returned (.bool d6.dead) ∧ w' = W := fun W hc => dead_any (hpa6.live.dk.keep_nil hc)
          have hch6 := H6.out.chg
          have hS2 : ∀ W, Chg Nil w6 W → W.cell? ⟨b, off + k * 4, none⟩ = some (.int .i64 kd) ∧ W.cell? ⟨b, off + k * 4 + 1, none⟩ = some (.int .i64 p) ∧ W.cell? ⟨b, off + k * 4 + 2, none⟩ = some (.int .i64 N0) ∧ W.cell? ⟨b, off + k * 4 + 3, none⟩ = some (.int .i64 kp) ∧
              W.cell? ⟨g', 0, none⟩ = some (.slice A6 N c6) ∧ W.cell? ⟨g', 2, none⟩ = some (.slice F6 (sumW d6.waits) f6) ∧ W.cell? ⟨g', 4, none⟩ = some (.bool d6.dead) := fun W hc =>
            have h1 := HC.out W (hch6.trans hc (fun _ _ h => h))
            ⟨h1.1, h1.2.1, h1.2.2.1, h1.2.2.2, hc.cell g0 (fun h => h), hc.cell g2 (fun h => h), hc.cell g4 (fun h => h)⟩
          rw [hq6] at hfc6
          rw [hnl6] at hac6
          have HQ := Hid.mk (And.intro hsz (And.intro hcw (And.intro hcd (And.intro hS2 (And.intro hpa6 (And.intro hsame6 (And.intro hn6 (And.intro hw6 hsum6))))))))
          clear hsz hcw hcd hS2 hpa6 hrk6 hq6 hnl6 g0 g2 g4 hch6 hHeld hsame6 hn6 hw6 hsum6
          generalize hq6e : sumW d6.waits = q6 at *
          generalize d6.dead = dd6 at *
          refine wpAnyH_mono (S2 := fun W => W.cell? ⟨b, off + k * 4, none⟩ = some (.int .i64 kd) ∧ W.cell? ⟨b, off + k * 4 + 1, none⟩ = some (.int .i64 p) ∧ W.cell? ⟨b, off + k * 4 + 2, none⟩ = some (.int .i64 N0) ∧ W.cell? ⟨b, off + k * 4 + 3, none⟩ = some (.int .i64 kp) ∧
              W.cell? ⟨g', 0, none⟩ = some (.slice A6 N c6) ∧ W.cell? ⟨g', 2, none⟩ = some (.slice F6 q6 f6) ∧ W.cell? ⟨g', 4, none⟩ = some (.bool dd6)) (fun W h => ⟨h.1, h.2.1, h.2.2.1, h.2.2.2.1⟩) _ _ _ _ ?_
          have hch6 : Chg Nil w6 w6 := Chg.refl _ _
          refine wpAnyH_take (i := 7) (oi := { dst := some 43, op := Op.unOp UnOp.not 4 (Operand.tmp 42), type := 4, pos := "law.go:75", after := #[{ on := 6, ground := Ground.data }], guard := none }) (v := ?v7) rfl (by kernel_rfl) (by kernel_rfl) (by kernel_rfl) (fun _ _ _ h => h) (Or.inl ⟨by rfl, ?hy7⟩) (HQ.out.2.2.2.1 w6 (Chg.refl _ _)) ?rest7
          case hy7 =>
            intro W hSW
            obtain ⟨s1, s2, s3, s4, s5, s6, s7⟩ := hSW
            go_simp
            all_goals with_reducible rfl
          try simp only [Act.put, List.setIfInBounds_toArray, List.set_cons_zero, List.set_cons_succ]
          refine wpAnyH_take (i := 8) (oi := { dst := some 44, op := Op.move (Operand.tmp 43), type := 4, pos := "law.go:75", after := #[{ on := 7, ground := Ground.data }, { on := 6, ground := Ground.chain }], guard := none }) (v := ?v8) rfl (by kernel_rfl) (by kernel_rfl) (by kernel_rfl) (fun _ _ _ h => h) (Or.inl ⟨by rfl, ?hy8⟩) (HQ.out.2.2.2.1 w6 (Chg.refl _ _)) ?rest8
          case hy8 =>
            intro W hSW
            obtain ⟨s1, s2, s3, s4, s5, s6, s7⟩ := hSW
            go_simp
            all_goals with_reducible rfl
          try simp only [Act.put, List.setIfInBounds_toArray, List.set_cons_zero, List.set_cons_succ]
          refine wpAnyH_take (i := 9) (oi := { dst := some 45, op := Op.move (Operand.tmp 5), type := 23, pos := "law.go:75", after := #[{ on := 8, ground := Ground.guard }], guard := some (8, false) }) (v := ?v9) rfl (by kernel_rfl) (by kernel_rfl) (by kernel_rfl) (fun _ _ _ h => h) (Or.inl ⟨by rfl, ?hy9⟩) (HQ.out.2.2.2.1 w6 (Chg.refl _ _)) ?rest9
          case hy9 =>
            intro W hSW
            obtain ⟨s1, s2, s3, s4, s5, s6, s7⟩ := hSW
            go_simp
            all_goals with_reducible rfl
          try simp only [Act.put, List.setIfInBounds_toArray, List.set_cons_zero, List.set_cons_succ]
          refine wpAnyH_take (i := 11) (oi := { dst := some 47, op := Op.move (Operand.tmp 6), type := 46, pos := "law.go:75", after := #[{ on := 8, ground := Ground.guard }], guard := some (8, false) }) (v := ?v11) rfl (by kernel_rfl) (by kernel_rfl) (by kernel_rfl) (fun _ _ _ h => h) (Or.inl ⟨by rfl, ?hy11⟩) (HQ.out.2.2.2.1 w6 (Chg.refl _ _)) ?rest11
          case hy11 =>
            intro W hSW
            obtain ⟨s1, s2, s3, s4, s5, s6, s7⟩ := hSW
            go_simp
            all_goals with_reducible rfl
          try simp only [Act.put, List.setIfInBounds_toArray, List.set_cons_zero, List.set_cons_succ]
          refine wpAnyH_take (i := 12) (oi := { dst := some 48, op := Op.nilCheck (Operand.tmp 47), type := 0, pos := "law.go:75", after := #[{ on := 11, ground := Ground.data }, { on := 8, ground := Ground.guard }], guard := some (8, false) }) (v := ?v12) rfl (by kernel_rfl) (by kernel_rfl) (by kernel_rfl) (fun _ _ _ h => h) (Or.inl ⟨by rfl, ?hy12⟩) (HQ.out.2.2.2.1 w6 (Chg.refl _ _)) ?rest12
          case hy12 =>
            intro W hSW
            obtain ⟨s1, s2, s3, s4, s5, s6, s7⟩ := hSW
            go_simp
            all_goals with_reducible rfl
          try simp only [Act.put, List.setIfInBounds_toArray, List.set_cons_zero, List.set_cons_succ]
          refine wpAnyH_take (i := 13) (oi := { dst := some 49, op := Op.fieldAddr 51 (Operand.tmp 48) 0, type := 0, pos := "law.go:75", after := #[{ on := 12, ground := Ground.data }, { on := 8, ground := Ground.guard }], guard := some (8, false) }) (v := ?v13) rfl (by kernel_rfl) (by kernel_rfl) (by kernel_rfl) (fun _ _ _ h => h) (Or.inl ⟨by rfl, ?hy13⟩) (HQ.out.2.2.2.1 w6 (Chg.refl _ _)) ?rest13
          case hy13 =>
            intro W hSW
            obtain ⟨s1, s2, s3, s4, s5, s6, s7⟩ := hSW
            go_simp
            all_goals with_reducible rfl
          try simp only [Act.put, List.setIfInBounds_toArray, List.set_cons_zero, List.set_cons_succ]
          refine wpAnyH_take (i := 14) (oi := { dst := some 50, op := Op.load 22 (Operand.tmp 49), type := 22, pos := "law.go:75", after := #[{ on := 13, ground := Ground.data }, { on := 8, ground := Ground.guard }], guard := some (8, false) }) (v := ?v14) rfl (by kernel_rfl) (by kernel_rfl) (by kernel_rfl) (fun _ _ _ h => h) (Or.inl ⟨by rfl, ?hy14⟩) (HQ.out.2.2.2.1 w6 (Chg.refl _ _)) ?rest14
          case hy14 =>
            intro W hSW
            obtain ⟨s1, s2, s3, s4, s5, s6, s7⟩ := hSW
            go_simp
            all_goals with_reducible rfl
          try simp only [Act.put, List.setIfInBounds_toArray, List.set_cons_zero, List.set_cons_succ]
          refine wpAnyH_take (i := 15) (oi := { dst := some 51, op := Op.call { callee := Callee.builtin Builtin.len, args := #[Operand.tmp 50], argTypes := #[22] }, type := 3, pos := "law.go:75", after := #[{ on := 14, ground := Ground.data }, { on := 8, ground := Ground.guard }], guard := some (8, false) }) (v := ?v15) rfl (by kernel_rfl) (by kernel_rfl) (by kernel_rfl) (fun _ _ _ h => h) (Or.inl ⟨by rfl, ?hy15⟩) (HQ.out.2.2.2.1 w6 (Chg.refl _ _)) ?rest15
          case hy15 =>
            intro W hSW
            obtain ⟨s1, s2, s3, s4, s5, s6, s7⟩ := hSW
            go_simp
            all_goals with_reducible rfl
          try simp only [Act.put, List.setIfInBounds_toArray, List.set_cons_zero, List.set_cons_succ]
          refine wpAnyH_ready (rs := [10]) (by kernel_rfl) (by simp) ?_
          refine AllReadyH.cons rfl (fun K hK => ?_) AllReadyH.nil
          go_simp
          go_wp2_with fail
          refine (HQ.out.1 w6 (Chg.refl _ _)).mono ?_
          rintro e w7 ⟨rfl, hw7⟩
          rw [hw7]
          clear hw7
          go_wp2_with fail
          refine hK.out _ _ (HQ.out.2.2.2.1 w6 (Chg.refl _ _)) (fun hHeld => ?_)
          clear hK K
          refine wpAnyH_take (i := 16) (oi := { dst := some 52, op := Op.binOp BinOp.neq 3 (Operand.tmp 46) (Operand.tmp 51) 3, type := 4, pos := "law.go:75", after := #[{ on := 10, ground := Ground.data }, { on := 15, ground := Ground.data }, { on := 8, ground := Ground.guard }], guard := some (8, false) }) (v := ?v16) rfl (by kernel_rfl) (by kernel_rfl) (by kernel_rfl) (fun _ _ _ h => h) (Or.inl ⟨by rfl, ?hy16⟩) hHeld ?rest16
          case hy16 =>
            intro W hSW
            obtain ⟨s1, s2, s3, s4, s5, s6, s7⟩ := hSW
            go_simp
            all_goals with_reducible rfl
          try simp only [Act.put, List.setIfInBounds_toArray, List.set_cons_zero, List.set_cons_succ]
          refine wpAnyH_take (i := 17) (oi := { dst := some 53, op := Op.pick (Operand.tmp 44) (Operand.const (Value.bool true)) (Operand.tmp 52), type := 4, pos := "law.go:75", after := #[{ on := 8, ground := Ground.data }, { on := 16, ground := Ground.data }], guard := none }) (v := ?v17) rfl (by kernel_rfl) (by kernel_rfl) (by kernel_rfl) (fun _ _ _ h => h) (Or.inl ⟨by rfl, ?hy17⟩) hHeld ?rest17
          case hy17 =>
            intro W hSW
            obtain ⟨s1, s2, s3, s4, s5, s6, s7⟩ := hSW
            go_simp
            all_goals with_reducible rfl
          try simp only [Act.put, List.setIfInBounds_toArray, List.set_cons_zero, List.set_cons_succ]
          refine wpAnyH_take (i := 18) (oi := { dst := some 54, op := Op.move (Operand.tmp 53), type := 4, pos := "law.go:75", after := #[{ on := 17, ground := Ground.data }, { on := 10, ground := Ground.chain }], guard := none }) (v := ?v18) rfl (by kernel_rfl) (by kernel_rfl) (by kernel_rfl) (fun _ _ _ h => h) (Or.inl ⟨by rfl, ?hy18⟩) hHeld ?rest18
          case hy18 =>
            intro W hSW
            obtain ⟨s1, s2, s3, s4, s5, s6, s7⟩ := hSW
            go_simp
            all_goals with_reducible rfl
          try simp only [Act.put, List.setIfInBounds_toArray, List.set_cons_zero, List.set_cons_succ]
          refine wpAnyH_take (i := 19) (oi := { dst := some 55, op := Op.move (Operand.tmp 5), type := 23, pos := "law.go:75", after := #[{ on := 18, ground := Ground.guard }], guard := some (18, false) }) (v := ?v19) rfl (by kernel_rfl) (by kernel_rfl) (by kernel_rfl) (fun _ _ _ h => h) (Or.inl ⟨by rfl, ?hy19⟩) hHeld ?rest19
          case hy19 =>
            intro W hSW
            obtain ⟨s1, s2, s3, s4, s5, s6, s7⟩ := hSW
            go_simp
            all_goals with_reducible rfl
          try simp only [Act.put, List.setIfInBounds_toArray, List.set_cons_zero, List.set_cons_succ]
          refine wpAnyH_take (i := 21) (oi := { dst := some 57, op := Op.move (Operand.tmp 6), type := 46, pos := "law.go:75", after := #[{ on := 18, ground := Ground.guard }], guard := some (18, false) }) (v := ?v21) rfl (by kernel_rfl) (by kernel_rfl) (by kernel_rfl) (fun _ _ _ h => h) (Or.inl ⟨by rfl, ?hy21⟩) hHeld ?rest21
          case hy21 =>
            intro W hSW
            obtain ⟨s1, s2, s3, s4, s5, s6, s7⟩ := hSW
            go_simp
            all_goals with_reducible rfl
          try simp only [Act.put, List.setIfInBounds_toArray, List.set_cons_zero, List.set_cons_succ]
          refine wpAnyH_take (i := 22) (oi := { dst := some 58, op := Op.nilCheck (Operand.tmp 57), type := 0, pos := "law.go:75", after := #[{ on := 21, ground := Ground.data }, { on := 18, ground := Ground.guard }], guard := some (18, false) }) (v := ?v22) rfl (by kernel_rfl) (by kernel_rfl) (by kernel_rfl) (fun _ _ _ h => h) (Or.inl ⟨by rfl, ?hy22⟩) hHeld ?rest22
          case hy22 =>
            intro W hSW
            obtain ⟨s1, s2, s3, s4, s5, s6, s7⟩ := hSW
            go_simp
            all_goals with_reducible rfl
          try simp only [Act.put, List.setIfInBounds_toArray, List.set_cons_zero, List.set_cons_succ]
          refine wpAnyH_take (i := 23) (oi := { dst := some 59, op := Op.fieldAddr 51 (Operand.tmp 58) 2, type := 0, pos := "law.go:75", after := #[{ on := 22, ground := Ground.data }, { on := 18, ground := Ground.guard }], guard := some (18, false) }) (v := ?v23) rfl (by kernel_rfl) (by kernel_rfl) (by kernel_rfl) (fun _ _ _ h => h) (Or.inl ⟨by rfl, ?hy23⟩) hHeld ?rest23
          case hy23 =>
            intro W hSW
            obtain ⟨s1, s2, s3, s4, s5, s6, s7⟩ := hSW
            go_simp
            all_goals with_reducible rfl
          try simp only [Act.put, List.setIfInBounds_toArray, List.set_cons_zero, List.set_cons_succ]
          refine wpAnyH_take (i := 24) (oi := { dst := some 60, op := Op.load 49 (Operand.tmp 59), type := 49, pos := "law.go:75", after := #[{ on := 23, ground := Ground.data }, { on := 18, ground := Ground.guard }], guard := some (18, false) }) (v := ?v24) rfl (by kernel_rfl) (by kernel_rfl) (by kernel_rfl) (fun _ _ _ h => h) (Or.inl ⟨by rfl, ?hy24⟩) hHeld ?rest24
          case hy24 =>
            intro W hSW
            obtain ⟨s1, s2, s3, s4, s5, s6, s7⟩ := hSW
            go_simp
            all_goals with_reducible rfl
          try simp only [Act.put, List.setIfInBounds_toArray, List.set_cons_zero, List.set_cons_succ]
          refine wpAnyH_take (i := 25) (oi := { dst := some 61, op := Op.call { callee := Callee.builtin Builtin.len, args := #[Operand.tmp 60], argTypes := #[49] }, type := 3, pos := "law.go:75", after := #[{ on := 24, ground := Ground.data }, { on := 18, ground := Ground.guard }], guard := some (18, false) }) (v := ?v25) rfl (by kernel_rfl) (by kernel_rfl) (by kernel_rfl) (fun _ _ _ h => h) (Or.inl ⟨by rfl, ?hy25⟩) hHeld ?rest25
          case hy25 =>
            intro W hSW
            obtain ⟨s1, s2, s3, s4, s5, s6, s7⟩ := hSW
            go_simp
            all_goals with_reducible rfl
          try simp only [Act.put, List.setIfInBounds_toArray, List.set_cons_zero, List.set_cons_succ]
          refine wpAnyH_ready (rs := [20]) (by kernel_rfl) (by simp) ?_
          refine AllReadyH.cons rfl (fun K hK => ?_) AllReadyH.nil
          go_simp
          go_wp2_with fail
          refine (HQ.out.2.1 _ (Chg.refl _ _)).mono ?_
          rintro e w8 ⟨rfl, hc8⟩
          have H8 := Hid.mk hc8
          clear hc8
          go_wp2_with fail
          refine hK.out _ _ (HQ.out.2.2.2.1 w8 H8.out) (fun hHeld => ?_)
          clear hK K
          refine wpAnyH_take (i := 26) (oi := { dst := some 62, op := Op.binOp BinOp.neq 3 (Operand.tmp 56) (Operand.tmp 61) 3, type := 4, pos := "law.go:75", after := #[{ on := 20, ground := Ground.data }, { on := 25, ground := Ground.data }, { on := 18, ground := Ground.guard }], guard := some (18, false) }) (v := ?v26) rfl (by kernel_rfl) (by kernel_rfl) (by kernel_rfl) (fun _ _ _ h => h) (Or.inl ⟨by rfl, ?hy26⟩) hHeld ?rest26
          case hy26 =>
            intro W hSW
            obtain ⟨s1, s2, s3, s4, s5, s6, s7⟩ := hSW
            go_simp
            all_goals with_reducible rfl
          try simp only [Act.put, List.setIfInBounds_toArray, List.set_cons_zero, List.set_cons_succ]
          refine wpAnyH_take (i := 27) (oi := { dst := some 63, op := Op.pick (Operand.tmp 54) (Operand.const (Value.bool true)) (Operand.tmp 62), type := 4, pos := "law.go:75", after := #[{ on := 18, ground := Ground.data }, { on := 26, ground := Ground.data }], guard := none }) (v := ?v27) rfl (by kernel_rfl) (by kernel_rfl) (by kernel_rfl) (fun _ _ _ h => h) (Or.inl ⟨by rfl, ?hy27⟩) hHeld ?rest27
          case hy27 =>
            intro W hSW
            obtain ⟨s1, s2, s3, s4, s5, s6, s7⟩ := hSW
            go_simp
            all_goals with_reducible rfl
          try simp only [Act.put, List.setIfInBounds_toArray, List.set_cons_zero, List.set_cons_succ]
          refine wpAnyH_take (i := 28) (oi := { dst := some 64, op := Op.move (Operand.tmp 63), type := 4, pos := "law.go:75", after := #[{ on := 27, ground := Ground.data }, { on := 20, ground := Ground.chain }], guard := none }) (v := ?v28) rfl (by kernel_rfl) (by kernel_rfl) (by kernel_rfl) (fun _ _ _ h => h) (Or.inl ⟨by rfl, ?hy28⟩) hHeld ?rest28
          case hy28 =>
            intro W hSW
            obtain ⟨s1, s2, s3, s4, s5, s6, s7⟩ := hSW
            go_simp
            all_goals with_reducible rfl
          try simp only [Act.put, List.setIfInBounds_toArray, List.set_cons_zero, List.set_cons_succ]
          refine wpAnyH_take (i := 29) (oi := { dst := some 65, op := Op.move (Operand.tmp 5), type := 23, pos := "law.go:75", after := #[{ on := 28, ground := Ground.guard }], guard := some (28, false) }) (v := ?v29) rfl (by kernel_rfl) (by kernel_rfl) (by kernel_rfl) (fun _ _ _ h => h) (Or.inl ⟨by rfl, ?hy29⟩) hHeld ?rest29
          case hy29 =>
            intro W hSW
            obtain ⟨s1, s2, s3, s4, s5, s6, s7⟩ := hSW
            go_simp
            all_goals with_reducible rfl
          try simp only [Act.put, List.setIfInBounds_toArray, List.set_cons_zero, List.set_cons_succ]
          refine wpAnyH_take (i := 31) (oi := { dst := some 67, op := Op.move (Operand.tmp 6), type := 46, pos := "law.go:75", after := #[{ on := 28, ground := Ground.guard }], guard := some (28, false) }) (v := ?v31) rfl (by kernel_rfl) (by kernel_rfl) (by kernel_rfl) (fun _ _ _ h => h) (Or.inl ⟨by rfl, ?hy31⟩) hHeld ?rest31
          case hy31 =>
            intro W hSW
            obtain ⟨s1, s2, s3, s4, s5, s6, s7⟩ := hSW
            go_simp
            all_goals with_reducible rfl
          try simp only [Act.put, List.setIfInBounds_toArray, List.set_cons_zero, List.set_cons_succ]
          refine wpAnyH_take (i := 32) (oi := { dst := some 68, op := Op.nilCheck (Operand.tmp 67), type := 0, pos := "law.go:75", after := #[{ on := 31, ground := Ground.data }, { on := 28, ground := Ground.guard }], guard := some (28, false) }) (v := ?v32) rfl (by kernel_rfl) (by kernel_rfl) (by kernel_rfl) (fun _ _ _ h => h) (Or.inl ⟨by rfl, ?hy32⟩) hHeld ?rest32
          case hy32 =>
            intro W hSW
            obtain ⟨s1, s2, s3, s4, s5, s6, s7⟩ := hSW
            go_simp
            all_goals with_reducible rfl
          try simp only [Act.put, List.setIfInBounds_toArray, List.set_cons_zero, List.set_cons_succ]
          refine wpAnyH_take (i := 33) (oi := { dst := some 69, op := Op.fieldAddr 51 (Operand.tmp 68) 4, type := 0, pos := "law.go:75", after := #[{ on := 32, ground := Ground.data }, { on := 28, ground := Ground.guard }], guard := some (28, false) }) (v := ?v33) rfl (by kernel_rfl) (by kernel_rfl) (by kernel_rfl) (fun _ _ _ h => h) (Or.inl ⟨by rfl, ?hy33⟩) hHeld ?rest33
          case hy33 =>
            intro W hSW
            obtain ⟨s1, s2, s3, s4, s5, s6, s7⟩ := hSW
            go_simp
            all_goals with_reducible rfl
          try simp only [Act.put, List.setIfInBounds_toArray, List.set_cons_zero, List.set_cons_succ]
          refine wpAnyH_take (i := 34) (oi := { dst := some 70, op := Op.load 4 (Operand.tmp 69), type := 4, pos := "law.go:75", after := #[{ on := 33, ground := Ground.data }, { on := 28, ground := Ground.guard }], guard := some (28, false) }) (v := ?v34) rfl (by kernel_rfl) (by kernel_rfl) (by kernel_rfl) (fun _ _ _ h => h) (Or.inl ⟨by rfl, ?hy34⟩) hHeld ?rest34
          case hy34 =>
            intro W hSW
            obtain ⟨s1, s2, s3, s4, s5, s6, s7⟩ := hSW
            go_simp
            all_goals with_reducible rfl
          try simp only [Act.put, List.setIfInBounds_toArray, List.set_cons_zero, List.set_cons_succ]
          refine wpAnyH_ready (rs := [30]) (by kernel_rfl) (by simp) ?_
          refine AllReadyH.cons rfl (fun K hK => ?_) AllReadyH.nil
          go_simp
          go_wp2_with fail
          refine (HQ.out.2.2.1 w8 H8.out).mono ?_
          rintro e w9 ⟨rfl, hw9⟩
          rw [hw9]
          clear hw9
          go_wp2_with fail
          refine hK.out _ _ (HQ.out.2.2.2.1 w8 H8.out) (fun hHeld => ?_)
          clear hK K
          refine wpAnyH_take (i := 35) (oi := { dst := some 71, op := Op.binOp BinOp.neq 4 (Operand.tmp 66) (Operand.tmp 70) 4, type := 4, pos := "law.go:75", after := #[{ on := 30, ground := Ground.data }, { on := 34, ground := Ground.data }, { on := 28, ground := Ground.guard }], guard := some (28, false) }) (v := ?v35) rfl (by kernel_rfl) (by kernel_rfl) (by kernel_rfl) (fun _ _ _ h => h) (Or.inl ⟨by rfl, ?hy35⟩) hHeld ?rest35
          case hy35 =>
            intro W hSW
            obtain ⟨s1, s2, s3, s4, s5, s6, s7⟩ := hSW
            go_simp
            all_goals with_reducible rfl
          try simp only [Act.put, List.setIfInBounds_toArray, List.set_cons_zero, List.set_cons_succ]
          refine wpAnyH_take (i := 36) (oi := { dst := some 72, op := Op.pick (Operand.tmp 64) (Operand.const (Value.bool true)) (Operand.tmp 71), type := 4, pos := "law.go:75", after := #[{ on := 28, ground := Ground.data }, { on := 35, ground := Ground.data }], guard := none }) (v := ?v36) rfl (by kernel_rfl) (by kernel_rfl) (by kernel_rfl) (fun _ _ _ h => h) (Or.inl ⟨by rfl, ?hy36⟩) hHeld ?rest36
          case hy36 =>
            intro W hSW
            obtain ⟨s1, s2, s3, s4, s5, s6, s7⟩ := hSW
            go_simp
            all_goals with_reducible rfl
          try simp only [Act.put, List.setIfInBounds_toArray, List.set_cons_zero, List.set_cons_succ]
          refine wpAnyH_done (by kernel_rfl) ?_ _
          have hpa8 := HQ.out.2.2.2.2.1.nil H8.out
          have hg8 := (HQ.out.2.2.2.1 w8 H8.out).2.2.2.2.1
          have hsm := HQ.out.2.2.2.2.2.1
          have HP8 := Hid.mk hpa8
          clear hpa8 hHeld
          go_wp2_with fail
          refine (HQ.out.1 w8 H8.out).mono ?_
          rintro e w9 ⟨rfl, hw9⟩
          rw [hw9]
          clear hw9
          go_wp2_with fail
          refine (dread_any HP8.out.live.dk 0 (N : Int)).mono ?_
          rintro e w10 ⟨A10, c10, rfl, hr10, hc10⟩
          have hg10 := hc10.cell hg8 (fun h => h)
          have H10 := Hid.mk (And.intro (HP8.out.nil hc10) hr10)
          clear hr10 hc10 hg8
          have hgl := get_len d6 0 (N : Int)
          have hn6 := HQ.out.2.2.2.2.2.2.1
          generalize hx10 : d6.opE 0 (N : Int) = x10
          generalize hy10 : d6.get 0 (N : Int) = y10 at *
          go_wp2_with fail
          refine (rread_any H10.out.1.rk 0 (N : Int)).mono ?_
          rintro e w11 ⟨rfl, hc11⟩
          rw [same_get hsm, same_opE hsm, hx10, hy10]
          have hcv := run_bytes_str (P := Try.prog) (c := c10) (H10.out.2.keep hc11 (fun _ _ h => h)) 22 9 5 Try.underlying22 Try.underlying5 Try.underlying9
          have H11 := Hid.mk (H10.out.1.nil hc11)
          clear hc11
          go_wp2_with fail
          go_roundw
          case rel => exact ⟨k + 1, by omega, by omega, by go_num, _, _, _, _, _, H11.out, hsm, hn6, HQ.out.2.2.2.2.2.2.2.1, by rw [hq6e]; exact HQ.out.2.2.2.2.2.2.2.2⟩
          case measure => simp [intOf]; omega
        · have d60 : decide ((k : Int) < 60) = false := by rw [decide_eq_false_iff_not]; omega
          have HP := Hid.mk hpl.chg
          clear hpl
          go_wp2_with fail
          go_ret
          exact ⟨rfl, HP.out⟩
      · have HP := Hid.mk hpl.chg
        clear hpl
        go_wp2_with fail
        go_ret
        exact ⟨rfl, HP.out⟩
  case neg =>
    refine (dnew_any n1 w).mono ?_
    rintro e w1 ⟨g, M, R, rfl, hc1, h1, hlow⟩
    have L1 := Hid.mk (Live.mk hc1 h1 hlow)
    clear hc1 h1 hlow
    go_wp2_with fail
    refine (rnew_any n1 w1).mono ?_
    rintro e w2 ⟨g', M', rfl, hc2, h2, hlow2⟩
    have hN : newN n1 ≤ 300 := by unfold newN; omega
    have hpl : Played w w2 g g' (newN n1) 0 := ⟨M, R, M', _, _, PairAt.new L1.out hc2 h2 hlow2, same_new n1, by simp [Dp.new], Nat.zero_le _, Nat.zero_le _⟩
    have H2 := Hid.mk hpl
    clear hc2 h2 hlow2 hpl
    generalize newN n1 = N at *
    go_wp2_with fail
    refine (awakeD_any _).mono ?_
    rintro e w3 ⟨rfl, hc3⟩
    have H3 := Hid.mk (H2.out.nil hc3)
    clear hc3
    go_wp2_with fail
    go_loopw [7] (fun i wr => ∃ k : Nat, k ≤ 60 ∧ k ≤ m ∧ i = .int .i64 (k : Int) ∧ Played w wr g g' N k) (fun i _ => 60 - (intOf i).toNat)
    case atStart => exact ⟨0, by omega, by omega, rfl, H3.out⟩
    case round =>
      obtain ⟨k, hk60, hkm, rfl, hpl⟩ := hrel
      by_cases hlt : k < m
      · by_cases hlt60 : k < 60
        · have d60 : decide ((k : Int) < 60) = true := by rw [decide_eq_true_iff]; omega
          obtain ⟨b, off, rfl, _, _, hx⟩ := HR.out.1.plain (by omega) (by omega)
          have ho : l[k]? = some (l[k]'(by omega)) := List.getElem?_eq_getElem (by omega)
          have hfo := HR.out.2 _ (List.mem_of_getElem? ho)
          generalize l[k]'(by omega) = o at ho hfo
          obtain ⟨kd, p, N0, kp⟩ := o
          have hch := hpl.chg
          have hcells : ∀ W, Chg Nil w W → W.cell? ⟨b, off + k * 4, none⟩ = some (.int .i64 kd) ∧ W.cell? ⟨b, off + k * 4 + 1, none⟩ = some (.int .i64 p) ∧ W.cell? ⟨b, off + k * 4 + 2, none⟩ = some (.int .i64 N0) ∧ W.cell? ⟨b, off + k * 4 + 3, none⟩ = some (.int .i64 kp) := fun W hc =>
            ⟨hc.cell (hx (k * 4 + 0) _ (qops_get l k _ ho 0 _ rfl)) (fun h => h), hc.cell (hx (k * 4 + 1) _ (qops_get l k _ ho 1 _ rfl)) (fun h => h), hc.cell (hx (k * 4 + 2) _ (qops_get l k _ ho 2 _ rfl)) (fun h => h), hc.cell (hx (k * 4 + 3) _ (qops_get l k _ ho 3 _ rfl)) (fun h => h)⟩
          have HC := Hid.mk hcells
          have HP := Hid.mk (And.intro hpl (And.intro hch hfo))
          clear hpl hch hx hcells hfo
          have b1 : (0 : Int) ≤ (k : Int) := by omega
          have b2 : (k : Int) < (m : Int) := by omega
          go_wp2_with fail
          refine wp_region_held_drew (S := fun W => W.cell? ⟨b, off + k * 4, none⟩ = some (.int .i64 kd) ∧ W.cell? ⟨b, off + k * 4 + 1, none⟩ = some (.int .i64 p) ∧ W.cell? ⟨b, off + k * 4 + 2, none⟩ = some (.int .i64 N0) ∧ W.cell? ⟨b, off + k * 4 + 3, none⟩ = some (.int .i64 kp)) (by kernel_rfl) (HC.out _ HP.out.2.1.drew) (fun hHeld => ?_)
          clear b1 b2
          refine wpAnyH_take (i := 0) (oi := { dst := some 36, op := Op.move (Operand.tmp 5), type := 23, pos := "law.go:75", after := #[], guard := none }) (v := ?vb0) rfl (by kernel_rfl) (by kernel_rfl) (by kernel_rfl) (fun _ _ _ h => h) (Or.inl ⟨by rfl, ?hyb0⟩) (by assumption) ?restb0
          case hyb0 =>
            intro W hSW
            obtain ⟨s1, s2, s3, s4⟩ := hSW
            go_simp
            all_goals with_reducible rfl
          try simp only [Act.put, List.setIfInBounds_toArray, List.set_cons_zero, List.set_cons_succ]
          refine wpAnyH_take (i := 1) (oi := { dst := some 37, op := Op.move (Operand.tmp 6), type := 46, pos := "law.go:75", after := #[], guard := none }) (v := ?vb1) rfl (by kernel_rfl) (by kernel_rfl) (by kernel_rfl) (fun _ _ _ h => h) (Or.inl ⟨by rfl, ?hyb1⟩) (by assumption) ?restb1
          case hyb1 =>
            intro W hSW
            obtain ⟨s1, s2, s3, s4⟩ := hSW
            go_simp
            all_goals with_reducible rfl
          try simp only [Act.put, List.setIfInBounds_toArray, List.set_cons_zero, List.set_cons_succ]
          refine wpAnyH_take (i := 2) (oi := { dst := some 38, op := Op.move (Operand.tmp 1), type := 40, pos := "law.go:75", after := #[], guard := none }) (v := ?vb2) rfl (by kernel_rfl) (by kernel_rfl) (by kernel_rfl) (fun _ _ _ h => h) (Or.inl ⟨by rfl, ?hyb2⟩) (by assumption) ?restb2
          case hyb2 =>
            intro W hSW
            obtain ⟨s1, s2, s3, s4⟩ := hSW
            go_simp
            all_goals with_reducible rfl
          try simp only [Act.put, List.setIfInBounds_toArray, List.set_cons_zero, List.set_cons_succ]
          refine wpAnyH_take (i := 3) (oi := { dst := some 39, op := Op.move (Operand.tmp 7), type := 3, pos := "law.go:75", after := #[], guard := none }) (v := ?vb3) rfl (by kernel_rfl) (by kernel_rfl) (by kernel_rfl) (fun _ _ _ h => h) (Or.inl ⟨by rfl, ?hyb3⟩) (by assumption) ?restb3
          case hyb3 =>
            intro W hSW
            obtain ⟨s1, s2, s3, s4⟩ := hSW
            go_simp
            all_goals with_reducible rfl
          try simp only [Act.put, List.setIfInBounds_toArray, List.set_cons_zero, List.set_cons_succ]
          refine wpAnyH_take (i := 4) (oi := { dst := some 40, op := Op.indexAddr 40 (Operand.tmp 38) (Operand.tmp 39), type := 0, pos := "law.go:75", after := #[{ on := 2, ground := Ground.data }, { on := 3, ground := Ground.data }], guard := none }) (v := ?vb4) rfl (by kernel_rfl) (by kernel_rfl) (by kernel_rfl) (fun _ _ _ h => h) (Or.inl ⟨by rfl, ?hyb4⟩) (by assumption) ?restb4
          case hyb4 =>
            intro W hSW
            obtain ⟨s1, s2, s3, s4⟩ := hSW
            go_simp
            all_goals with_reducible rfl
          try simp only [Act.put, List.setIfInBounds_toArray, List.set_cons_zero, List.set_cons_succ]
          refine wpAnyH_take (i := 5) (oi := { dst := some 41, op := Op.load 42 (Operand.tmp 40), type := 42, pos := "law.go:75", after := #[{ on := 4, ground := Ground.data }], guard := none }) (v := ?vb5) rfl (by kernel_rfl) (by kernel_rfl) (by kernel_rfl) (fun _ _ _ h => h) (Or.inl ⟨by rfl, ?hyb5⟩) (by assumption) ?restb5
          case hyb5 =>
            intro W hSW
            obtain ⟨s1, s2, s3, s4⟩ := hSW
            go_simp
            all_goals with_reducible rfl
          try simp only [Act.put, List.setIfInBounds_toArray, List.set_cons_zero, List.set_cons_succ]
          refine wpAnyH_ready (rs := [6]) (by kernel_rfl) (by simp) ?_
          refine AllReadyH.cons rfl (fun K hK => ?_) AllReadyH.nil
          go_simp
          go_wp2_with fail
          refine (do_any ⟨kd, p, N0, kp⟩ HP.out.2.2 (HP.out.1.nil (Chg.refl Nil wr).drew) (by omega)).mono ?_
          rintro e w6 ⟨rfl, hp6⟩
          have H6 := Hid.mk hp6
          clear hp6
          go_wp2_with fail
          refine hK.out _ _ (HC.out _ H6.out.chg) (fun hHeld => ?_)
          clear hK K
          obtain ⟨M6, R6, M6', d6, r6, hpa6, hsame6, hn6, hw6, hsum6⟩ := H6.out
          obtain ⟨nv6, lv6, wv6, hrk6⟩ := hpa6.rk
          obtain ⟨A6, c6, rfl, hac6, ham6⟩ := hrk6.now.form
          obtain ⟨F6, f6, rfl, hfc6, hfm6⟩ := hrk6.row.form
          have hq6 : r6.waits.length = sumW d6.waits := by rw [hsame6.waits, flat_len]
          have hnl6 : r6.now.length = N := by rw [hsame6.now]; exact hn6
          have g0 : w6.cell? ⟨g', 0, none⟩ = some (.slice A6 r6.now.length c6) := hrk6.bk.cell 0 rfl
          have g2 : w6.cell? ⟨g', 2, none⟩ = some (.slice F6 r6.waits.length f6) := hrk6.bk.cell 2 rfl
          have g4 : w6.cell? ⟨g', 4, none⟩ = some (.bool r6.dead) := hrk6.bk.cell 4 rfl
          rw [hnl6] at g0
          rw [hq6] at g2
          rw [hsame6.dead] at g4
          have hsz : ∀ W, Chg Nil w6 W → Calls Try.prog 22 #[.pointer (some ⟨g, 0, none⟩)] W fun e w' => e = .returned (.int .i64 (N : Int)) ∧ w' = W := fun W hc => by
            have := size_any (hpa6.live.dk.keep_nil hc)
            rw [hn6] at this
            exact this
          have hcw : ∀ W, Chg Nil w6 W → Calls Try.prog 14 #[.pointer (some ⟨g, 0, none⟩)] W fun e w' => e = .returned (.int .i64 (sumW d6.waits : Int)) ∧ Chg Nil W w' := fun W hc => dwaits_any (hpa6.live.dk.keep_nil hc) (by omega)
          have hcd : ∀ W, Chg Nil w6 W → Calls Try.prog 18 #[.pointer (some ⟨g, 0, none⟩)] W fun e w' => e = .returned (.bool d6.dead) ∧ w' = W := fun W hc => dead_any (hpa6.live.dk.keep_nil hc)
          have hch6 := H6.out.chg
          have hS2 : ∀ W, Chg Nil w6 W → W.cell? ⟨b, off + k * 4, none⟩ = some (.int .i64 kd) ∧ W.cell? ⟨b, off + k * 4 + 1, none⟩ = some (.int .i64 p) ∧ W.cell? ⟨b, off + k * 4 + 2, none⟩ = some (.int .i64 N0) ∧ W.cell? ⟨b, off + k * 4 + 3, none⟩ = some (.int .i64 kp) ∧
              W.cell? ⟨g', 0, none⟩ = some (.slice A6 N c6) ∧ W.cell? ⟨g', 2, none⟩ = some (.slice F6 (sumW d6.waits) f6) ∧ W.cell? ⟨g', 4, none⟩ = some (.bool d6.dead) := fun W hc =>
            have h1 := HC.out W (hch6.trans hc (fun _ _ h => h))
            ⟨h1.1, h1.2.1, h1.2.2.1, h1.2.2.2, hc.cell g0 (fun h => h), hc.cell g2 (fun h => h), hc.cell g4 (fun h => h)⟩
          rw [hq6] at hfc6
          rw [hnl6] at hac6
          have HQ := Hid.mk (And.intro hsz (And.intro hcw (And.intro hcd (And.intro hS2 (And.intro hpa6 (And.intro hsame6 (And.intro hn6 (And.intro hw6 hsum6))))))))
          clear hsz hcw hcd hS2 hpa6 hrk6 hq6 hnl6 g0 g2 g4 hch6 hHeld hsame6 hn6 hw6 hsum6
          generalize hq6e : sumW d6.waits = q6 at *
          generalize d6.dead = dd6 at *
          refine wpAnyH_mono (S2 := fun W => W.cell? ⟨b, off + k * 4, none⟩ = some (.int .i64 kd) ∧ W.cell? ⟨b, off + k * 4 + 1, none⟩ = some (.int .i64 p) ∧ W.cell? ⟨b, off + k * 4 + 2, none⟩ = some (.int .i64 N0) ∧ W.cell? ⟨b, off + k * 4 + 3, none⟩ = some (.int .i64 kp) ∧
              W.cell? ⟨g', 0, none⟩ = some (.slice A6 N c6) ∧ W.cell? ⟨g', 2, none⟩ = some (.slice F6 q6 f6) ∧ W.cell? ⟨g', 4, none⟩ = some (.bool dd6)) (fun W h => ⟨h.1, h.2.1, h.2.2.1, h.2.2.2.1⟩) _ _ _ _ ?_
          have hch6 : Chg Nil w6 w6 := Chg.refl _ _
          refine wpAnyH_take (i := 7) (oi := { dst := some 43, op := Op.unOp UnOp.not 4 (Operand.tmp 42), type := 4, pos := "law.go:75", after := #[{ on := 6, ground := Ground.data }], guard := none }) (v := ?vb7) rfl (by kernel_rfl) (by kernel_rfl) (by kernel_rfl) (fun _ _ _ h => h) (Or.inl ⟨by rfl, ?hyb7⟩) (HQ.out.2.2.2.1 w6 (Chg.refl _ _)) ?restb7
          case hyb7 =>
            intro W hSW
            obtain ⟨s1, s2, s3, s4, s5, s6, s7⟩ := hSW
            go_simp
            all_goals with_reducible rfl
          try simp only [Act.put, List.setIfInBounds_toArray, List.set_cons_zero, List.set_cons_succ]
          refine wpAnyH_take (i := 8) (oi := { dst := some 44, op := Op.move (Operand.tmp 43), type := 4, pos := "law.go:75", after := #[{ on := 7, ground := Ground.data }, { on := 6, ground := Ground.chain }], guard := none }) (v := ?vb8) rfl (by kernel_rfl) (by kernel_rfl) (by kernel_rfl) (fun _ _ _ h => h) (Or.inl ⟨by rfl, ?hyb8⟩) (HQ.out.2.2.2.1 w6 (Chg.refl _ _)) ?restb8
          case hyb8 =>
            intro W hSW
            obtain ⟨s1, s2, s3, s4, s5, s6, s7⟩ := hSW
            go_simp
            all_goals with_reducible rfl
          try simp only [Act.put, List.setIfInBounds_toArray, List.set_cons_zero, List.set_cons_succ]
          refine wpAnyH_take (i := 9) (oi := { dst := some 45, op := Op.move (Operand.tmp 5), type := 23, pos := "law.go:75", after := #[{ on := 8, ground := Ground.guard }], guard := some (8, false) }) (v := ?vb9) rfl (by kernel_rfl) (by kernel_rfl) (by kernel_rfl) (fun _ _ _ h => h) (Or.inl ⟨by rfl, ?hyb9⟩) (HQ.out.2.2.2.1 w6 (Chg.refl _ _)) ?restb9
          case hyb9 =>
            intro W hSW
            obtain ⟨s1, s2, s3, s4, s5, s6, s7⟩ := hSW
            go_simp
            all_goals with_reducible rfl
          try simp only [Act.put, List.setIfInBounds_toArray, List.set_cons_zero, List.set_cons_succ]
          refine wpAnyH_take (i := 11) (oi := { dst := some 47, op := Op.move (Operand.tmp 6), type := 46, pos := "law.go:75", after := #[{ on := 8, ground := Ground.guard }], guard := some (8, false) }) (v := ?vb11) rfl (by kernel_rfl) (by kernel_rfl) (by kernel_rfl) (fun _ _ _ h => h) (Or.inl ⟨by rfl, ?hyb11⟩) (HQ.out.2.2.2.1 w6 (Chg.refl _ _)) ?restb11
          case hyb11 =>
            intro W hSW
            obtain ⟨s1, s2, s3, s4, s5, s6, s7⟩ := hSW
            go_simp
            all_goals with_reducible rfl
          try simp only [Act.put, List.setIfInBounds_toArray, List.set_cons_zero, List.set_cons_succ]
          refine wpAnyH_take (i := 12) (oi := { dst := some 48, op := Op.nilCheck (Operand.tmp 47), type := 0, pos := "law.go:75", after := #[{ on := 11, ground := Ground.data }, { on := 8, ground := Ground.guard }], guard := some (8, false) }) (v := ?vb12) rfl (by kernel_rfl) (by kernel_rfl) (by kernel_rfl) (fun _ _ _ h => h) (Or.inl ⟨by rfl, ?hyb12⟩) (HQ.out.2.2.2.1 w6 (Chg.refl _ _)) ?restb12
          case hyb12 =>
            intro W hSW
            obtain ⟨s1, s2, s3, s4, s5, s6, s7⟩ := hSW
            go_simp
            all_goals with_reducible rfl
          try simp only [Act.put, List.setIfInBounds_toArray, List.set_cons_zero, List.set_cons_succ]
          refine wpAnyH_take (i := 13) (oi := { dst := some 49, op := Op.fieldAddr 51 (Operand.tmp 48) 0, type := 0, pos := "law.go:75", after := #[{ on := 12, ground := Ground.data }, { on := 8, ground := Ground.guard }], guard := some (8, false) }) (v := ?vb13) rfl (by kernel_rfl) (by kernel_rfl) (by kernel_rfl) (fun _ _ _ h => h) (Or.inl ⟨by rfl, ?hyb13⟩) (HQ.out.2.2.2.1 w6 (Chg.refl _ _)) ?restb13
          case hyb13 =>
            intro W hSW
            obtain ⟨s1, s2, s3, s4, s5, s6, s7⟩ := hSW
            go_simp
            all_goals with_reducible rfl
          try simp only [Act.put, List.setIfInBounds_toArray, List.set_cons_zero, List.set_cons_succ]
          refine wpAnyH_take (i := 14) (oi := { dst := some 50, op := Op.load 22 (Operand.tmp 49), type := 22, pos := "law.go:75", after := #[{ on := 13, ground := Ground.data }, { on := 8, ground := Ground.guard }], guard := some (8, false) }) (v := ?vb14) rfl (by kernel_rfl) (by kernel_rfl) (by kernel_rfl) (fun _ _ _ h => h) (Or.inl ⟨by rfl, ?hyb14⟩) (HQ.out.2.2.2.1 w6 (Chg.refl _ _)) ?restb14
          case hyb14 =>
            intro W hSW
            obtain ⟨s1, s2, s3, s4, s5, s6, s7⟩ := hSW
            go_simp
            all_goals with_reducible rfl
          try simp only [Act.put, List.setIfInBounds_toArray, List.set_cons_zero, List.set_cons_succ]
          refine wpAnyH_take (i := 15) (oi := { dst := some 51, op := Op.call { callee := Callee.builtin Builtin.len, args := #[Operand.tmp 50], argTypes := #[22] }, type := 3, pos := "law.go:75", after := #[{ on := 14, ground := Ground.data }, { on := 8, ground := Ground.guard }], guard := some (8, false) }) (v := ?vb15) rfl (by kernel_rfl) (by kernel_rfl) (by kernel_rfl) (fun _ _ _ h => h) (Or.inl ⟨by rfl, ?hyb15⟩) (HQ.out.2.2.2.1 w6 (Chg.refl _ _)) ?restb15
          case hyb15 =>
            intro W hSW
            obtain ⟨s1, s2, s3, s4, s5, s6, s7⟩ := hSW
            go_simp
            all_goals with_reducible rfl
          try simp only [Act.put, List.setIfInBounds_toArray, List.set_cons_zero, List.set_cons_succ]
          refine wpAnyH_ready (rs := [10]) (by kernel_rfl) (by simp) ?_
          refine AllReadyH.cons rfl (fun K hK => ?_) AllReadyH.nil
          go_simp
          go_wp2_with fail
          refine (HQ.out.1 w6 (Chg.refl _ _)).mono ?_
          rintro e w7 ⟨rfl, hw7⟩
          rw [hw7]
          clear hw7
          go_wp2_with fail
          refine hK.out _ _ (HQ.out.2.2.2.1 w6 (Chg.refl _ _)) (fun hHeld => ?_)
          clear hK K
          refine wpAnyH_take (i := 16) (oi := { dst := some 52, op := Op.binOp BinOp.neq 3 (Operand.tmp 46) (Operand.tmp 51) 3, type := 4, pos := "law.go:75", after := #[{ on := 10, ground := Ground.data }, { on := 15, ground := Ground.data }, { on := 8, ground := Ground.guard }], guard := some (8, false) }) (v := ?vb16) rfl (by kernel_rfl) (by kernel_rfl) (by kernel_rfl) (fun _ _ _ h => h) (Or.inl ⟨by rfl, ?hyb16⟩) hHeld ?restb16
          case hyb16 =>
            intro W hSW
            obtain ⟨s1, s2, s3, s4, s5, s6, s7⟩ := hSW
            go_simp
            all_goals with_reducible rfl
          try simp only [Act.put, List.setIfInBounds_toArray, List.set_cons_zero, List.set_cons_succ]
          refine wpAnyH_take (i := 17) (oi := { dst := some 53, op := Op.pick (Operand.tmp 44) (Operand.const (Value.bool true)) (Operand.tmp 52), type := 4, pos := "law.go:75", after := #[{ on := 8, ground := Ground.data }, { on := 16, ground := Ground.data }], guard := none }) (v := ?vb17) rfl (by kernel_rfl) (by kernel_rfl) (by kernel_rfl) (fun _ _ _ h => h) (Or.inl ⟨by rfl, ?hyb17⟩) hHeld ?restb17
          case hyb17 =>
            intro W hSW
            obtain ⟨s1, s2, s3, s4, s5, s6, s7⟩ := hSW
            go_simp
            all_goals with_reducible rfl
          try simp only [Act.put, List.setIfInBounds_toArray, List.set_cons_zero, List.set_cons_succ]
          refine wpAnyH_take (i := 18) (oi := { dst := some 54, op := Op.move (Operand.tmp 53), type := 4, pos := "law.go:75", after := #[{ on := 17, ground := Ground.data }, { on := 10, ground := Ground.chain }], guard := none }) (v := ?vb18) rfl (by kernel_rfl) (by kernel_rfl) (by kernel_rfl) (fun _ _ _ h => h) (Or.inl ⟨by rfl, ?hyb18⟩) hHeld ?restb18
          case hyb18 =>
            intro W hSW
            obtain ⟨s1, s2, s3, s4, s5, s6, s7⟩ := hSW
            go_simp
            all_goals with_reducible rfl
          try simp only [Act.put, List.setIfInBounds_toArray, List.set_cons_zero, List.set_cons_succ]
          refine wpAnyH_take (i := 19) (oi := { dst := some 55, op := Op.move (Operand.tmp 5), type := 23, pos := "law.go:75", after := #[{ on := 18, ground := Ground.guard }], guard := some (18, false) }) (v := ?vb19) rfl (by kernel_rfl) (by kernel_rfl) (by kernel_rfl) (fun _ _ _ h => h) (Or.inl ⟨by rfl, ?hyb19⟩) hHeld ?restb19
          case hyb19 =>
            intro W hSW
            obtain ⟨s1, s2, s3, s4, s5, s6, s7⟩ := hSW
            go_simp
            all_goals with_reducible rfl
          try simp only [Act.put, List.setIfInBounds_toArray, List.set_cons_zero, List.set_cons_succ]
          refine wpAnyH_take (i := 21) (oi := { dst := some 57, op := Op.move (Operand.tmp 6), type := 46, pos := "law.go:75", after := #[{ on := 18, ground := Ground.guard }], guard := some (18, false) }) (v := ?vb21) rfl (by kernel_rfl) (by kernel_rfl) (by kernel_rfl) (fun _ _ _ h => h) (Or.inl ⟨by rfl, ?hyb21⟩) hHeld ?restb21
          case hyb21 =>
            intro W hSW
            obtain ⟨s1, s2, s3, s4, s5, s6, s7⟩ := hSW
            go_simp
            all_goals with_reducible rfl
          try simp only [Act.put, List.setIfInBounds_toArray, List.set_cons_zero, List.set_cons_succ]
          refine wpAnyH_take (i := 22) (oi := { dst := some 58, op := Op.nilCheck (Operand.tmp 57), type := 0, pos := "law.go:75", after := #[{ on := 21, ground := Ground.data }, { on := 18, ground := Ground.guard }], guard := some (18, false) }) (v := ?vb22) rfl (by kernel_rfl) (by kernel_rfl) (by kernel_rfl) (fun _ _ _ h => h) (Or.inl ⟨by rfl, ?hyb22⟩) hHeld ?restb22
          case hyb22 =>
            intro W hSW
            obtain ⟨s1, s2, s3, s4, s5, s6, s7⟩ := hSW
            go_simp
            all_goals with_reducible rfl
          try simp only [Act.put, List.setIfInBounds_toArray, List.set_cons_zero, List.set_cons_succ]
          refine wpAnyH_take (i := 23) (oi := { dst := some 59, op := Op.fieldAddr 51 (Operand.tmp 58) 2, type := 0, pos := "law.go:75", after := #[{ on := 22, ground := Ground.data }, { on := 18, ground := Ground.guard }], guard := some (18, false) }) (v := ?vb23) rfl (by kernel_rfl) (by kernel_rfl) (by kernel_rfl) (fun _ _ _ h => h) (Or.inl ⟨by rfl, ?hyb23⟩) hHeld ?restb23
          case hyb23 =>
            intro W hSW
            obtain ⟨s1, s2, s3, s4, s5, s6, s7⟩ := hSW
            go_simp
            all_goals with_reducible rfl
          try simp only [Act.put, List.setIfInBounds_toArray, List.set_cons_zero, List.set_cons_succ]
          refine wpAnyH_take (i := 24) (oi := { dst := some 60, op := Op.load 49 (Operand.tmp 59), type := 49, pos := "law.go:75", after := #[{ on := 23, ground := Ground.data }, { on := 18, ground := Ground.guard }], guard := some (18, false) }) (v := ?vb24) rfl (by kernel_rfl) (by kernel_rfl) (by kernel_rfl) (fun _ _ _ h => h) (Or.inl ⟨by rfl, ?hyb24⟩) hHeld ?restb24
          case hyb24 =>
            intro W hSW
            obtain ⟨s1, s2, s3, s4, s5, s6, s7⟩ := hSW
            go_simp
            all_goals with_reducible rfl
          try simp only [Act.put, List.setIfInBounds_toArray, List.set_cons_zero, List.set_cons_succ]
          refine wpAnyH_take (i := 25) (oi := { dst := some 61, op := Op.call { callee := Callee.builtin Builtin.len, args := #[Operand.tmp 60], argTypes := #[49] }, type := 3, pos := "law.go:75", after := #[{ on := 24, ground := Ground.data }, { on := 18, ground := Ground.guard }], guard := some (18, false) }) (v := ?vb25) rfl (by kernel_rfl) (by kernel_rfl) (by kernel_rfl) (fun _ _ _ h => h) (Or.inl ⟨by rfl, ?hyb25⟩) hHeld ?restb25
          case hyb25 =>
            intro W hSW
            obtain ⟨s1, s2, s3, s4, s5, s6, s7⟩ := hSW
            go_simp
            all_goals with_reducible rfl
          try simp only [Act.put, List.setIfInBounds_toArray, List.set_cons_zero, List.set_cons_succ]
          refine wpAnyH_ready (rs := [20]) (by kernel_rfl) (by simp) ?_
          refine AllReadyH.cons rfl (fun K hK => ?_) AllReadyH.nil
          go_simp
          go_wp2_with fail
          refine (HQ.out.2.1 _ (Chg.refl _ _)).mono ?_
          rintro e w8 ⟨rfl, hc8⟩
          have H8 := Hid.mk hc8
          clear hc8
          go_wp2_with fail
          refine hK.out _ _ (HQ.out.2.2.2.1 w8 H8.out) (fun hHeld => ?_)
          clear hK K
          refine wpAnyH_take (i := 26) (oi := { dst := some 62, op := Op.binOp BinOp.neq 3 (Operand.tmp 56) (Operand.tmp 61) 3, type := 4, pos := "law.go:75", after := #[{ on := 20, ground := Ground.data }, { on := 25, ground := Ground.data }, { on := 18, ground := Ground.guard }], guard := some (18, false) }) (v := ?vb26) rfl (by kernel_rfl) (by kernel_rfl) (by kernel_rfl) (fun _ _ _ h => h) (Or.inl ⟨by rfl, ?hyb26⟩) hHeld ?restb26
          case hyb26 =>
            intro W hSW
            obtain ⟨s1, s2, s3, s4, s5, s6, s7⟩ := hSW
            go_simp
            all_goals with_reducible rfl
          try simp only [Act.put, List.setIfInBounds_toArray, List.set_cons_zero, List.set_cons_succ]
          refine wpAnyH_take (i := 27) (oi := { dst := some 63, op := Op.pick (Operand.tmp 54) (Operand.const (Value.bool true)) (Operand.tmp 62), type := 4, pos := "law.go:75", after := #[{ on := 18, ground := Ground.data }, { on := 26, ground := Ground.data }], guard := none }) (v := ?vb27) rfl (by kernel_rfl) (by kernel_rfl) (by kernel_rfl) (fun _ _ _ h => h) (Or.inl ⟨by rfl, ?hyb27⟩) hHeld ?restb27
          case hyb27 =>
            intro W hSW
            obtain ⟨s1, s2, s3, s4, s5, s6, s7⟩ := hSW
            go_simp
            all_goals with_reducible rfl
          try simp only [Act.put, List.setIfInBounds_toArray, List.set_cons_zero, List.set_cons_succ]
          refine wpAnyH_take (i := 28) (oi := { dst := some 64, op := Op.move (Operand.tmp 63), type := 4, pos := "law.go:75", after := #[{ on := 27, ground := Ground.data }, { on := 20, ground := Ground.chain }], guard := none }) (v := ?vb28) rfl (by kernel_rfl) (by kernel_rfl) (by kernel_rfl) (fun _ _ _ h => h) (Or.inl ⟨by rfl, ?hyb28⟩) hHeld ?restb28
          case hyb28 =>
            intro W hSW
            obtain ⟨s1, s2, s3, s4, s5, s6, s7⟩ := hSW
            go_simp
            all_goals with_reducible rfl
          try simp only [Act.put, List.setIfInBounds_toArray, List.set_cons_zero, List.set_cons_succ]
          refine wpAnyH_take (i := 29) (oi := { dst := some 65, op := Op.move (Operand.tmp 5), type := 23, pos := "law.go:75", after := #[{ on := 28, ground := Ground.guard }], guard := some (28, false) }) (v := ?vb29) rfl (by kernel_rfl) (by kernel_rfl) (by kernel_rfl) (fun _ _ _ h => h) (Or.inl ⟨by rfl, ?hyb29⟩) hHeld ?restb29
          case hyb29 =>
            intro W hSW
            obtain ⟨s1, s2, s3, s4, s5, s6, s7⟩ := hSW
            go_simp
            all_goals with_reducible rfl
          try simp only [Act.put, List.setIfInBounds_toArray, List.set_cons_zero, List.set_cons_succ]
          refine wpAnyH_take (i := 31) (oi := { dst := some 67, op := Op.move (Operand.tmp 6), type := 46, pos := "law.go:75", after := #[{ on := 28, ground := Ground.guard }], guard := some (28, false) }) (v := ?vb31) rfl (by kernel_rfl) (by kernel_rfl) (by kernel_rfl) (fun _ _ _ h => h) (Or.inl ⟨by rfl, ?hyb31⟩) hHeld ?restb31
          case hyb31 =>
            intro W hSW
            obtain ⟨s1, s2, s3, s4, s5, s6, s7⟩ := hSW
            go_simp
            all_goals with_reducible rfl
          try simp only [Act.put, List.setIfInBounds_toArray, List.set_cons_zero, List.set_cons_succ]
          refine wpAnyH_take (i := 32) (oi := { dst := some 68, op := Op.nilCheck (Operand.tmp 67), type := 0, pos := "law.go:75", after := #[{ on := 31, ground := Ground.data }, { on := 28, ground := Ground.guard }], guard := some (28, false) }) (v := ?vb32) rfl (by kernel_rfl) (by kernel_rfl) (by kernel_rfl) (fun _ _ _ h => h) (Or.inl ⟨by rfl, ?hyb32⟩) hHeld ?restb32
          case hyb32 =>
            intro W hSW
            obtain ⟨s1, s2, s3, s4, s5, s6, s7⟩ := hSW
            go_simp
            all_goals with_reducible rfl
          try simp only [Act.put, List.setIfInBounds_toArray, List.set_cons_zero, List.set_cons_succ]
          refine wpAnyH_take (i := 33) (oi := { dst := some 69, op := Op.fieldAddr 51 (Operand.tmp 68) 4, type := 0, pos := "law.go:75", after := #[{ on := 32, ground := Ground.data }, { on := 28, ground := Ground.guard }], guard := some (28, false) }) (v := ?vb33) rfl (by kernel_rfl) (by kernel_rfl) (by kernel_rfl) (fun _ _ _ h => h) (Or.inl ⟨by rfl, ?hyb33⟩) hHeld ?restb33
          case hyb33 =>
            intro W hSW
            obtain ⟨s1, s2, s3, s4, s5, s6, s7⟩ := hSW
            go_simp
            all_goals with_reducible rfl
          try simp only [Act.put, List.setIfInBounds_toArray, List.set_cons_zero, List.set_cons_succ]
          refine wpAnyH_take (i := 34) (oi := { dst := some 70, op := Op.load 4 (Operand.tmp 69), type := 4, pos := "law.go:75", after := #[{ on := 33, ground := Ground.data }, { on := 28, ground := Ground.guard }], guard := some (28, false) }) (v := ?vb34) rfl (by kernel_rfl) (by kernel_rfl) (by kernel_rfl) (fun _ _ _ h => h) (Or.inl ⟨by rfl, ?hyb34⟩) hHeld ?restb34
          case hyb34 =>
            intro W hSW
            obtain ⟨s1, s2, s3, s4, s5, s6, s7⟩ := hSW
            go_simp
            all_goals with_reducible rfl
          try simp only [Act.put, List.setIfInBounds_toArray, List.set_cons_zero, List.set_cons_succ]
          refine wpAnyH_ready (rs := [30]) (by kernel_rfl) (by simp) ?_
          refine AllReadyH.cons rfl (fun K hK => ?_) AllReadyH.nil
          go_simp
          go_wp2_with fail
          refine (HQ.out.2.2.1 w8 H8.out).mono ?_
          rintro e w9 ⟨rfl, hw9⟩
          rw [hw9]
          clear hw9
          go_wp2_with fail
          refine hK.out _ _ (HQ.out.2.2.2.1 w8 H8.out) (fun hHeld => ?_)
          clear hK K
          refine wpAnyH_take (i := 35) (oi := { dst := some 71, op := Op.binOp BinOp.neq 4 (Operand.tmp 66) (Operand.tmp 70) 4, type := 4, pos := "law.go:75", after := #[{ on := 30, ground := Ground.data }, { on := 34, ground := Ground.data }, { on := 28, ground := Ground.guard }], guard := some (28, false) }) (v := ?vb35) rfl (by kernel_rfl) (by kernel_rfl) (by kernel_rfl) (fun _ _ _ h => h) (Or.inl ⟨by rfl, ?hyb35⟩) hHeld ?restb35
          case hyb35 =>
            intro W hSW
            obtain ⟨s1, s2, s3, s4, s5, s6, s7⟩ := hSW
            go_simp
            all_goals with_reducible rfl
          try simp only [Act.put, List.setIfInBounds_toArray, List.set_cons_zero, List.set_cons_succ]
          refine wpAnyH_take (i := 36) (oi := { dst := some 72, op := Op.pick (Operand.tmp 64) (Operand.const (Value.bool true)) (Operand.tmp 71), type := 4, pos := "law.go:75", after := #[{ on := 28, ground := Ground.data }, { on := 35, ground := Ground.data }], guard := none }) (v := ?vb36) rfl (by kernel_rfl) (by kernel_rfl) (by kernel_rfl) (fun _ _ _ h => h) (Or.inl ⟨by rfl, ?hyb36⟩) hHeld ?restb36
          case hyb36 =>
            intro W hSW
            obtain ⟨s1, s2, s3, s4, s5, s6, s7⟩ := hSW
            go_simp
            all_goals with_reducible rfl
          try simp only [Act.put, List.setIfInBounds_toArray, List.set_cons_zero, List.set_cons_succ]
          refine wpAnyH_done (by kernel_rfl) ?_ _
          have hpa8 := HQ.out.2.2.2.2.1.nil H8.out
          have hg8 := (HQ.out.2.2.2.1 w8 H8.out).2.2.2.2.1
          have hsm := HQ.out.2.2.2.2.2.1
          have HP8 := Hid.mk hpa8
          clear hpa8 hHeld
          go_wp2_with fail
          refine (HQ.out.1 w8 H8.out).mono ?_
          rintro e w9 ⟨rfl, hw9⟩
          rw [hw9]
          clear hw9
          go_wp2_with fail
          refine (dread_any HP8.out.live.dk 0 (N : Int)).mono ?_
          rintro e w10 ⟨A10, c10, rfl, hr10, hc10⟩
          have hg10 := hc10.cell hg8 (fun h => h)
          have H10 := Hid.mk (And.intro (HP8.out.nil hc10) hr10)
          clear hr10 hc10 hg8
          have hgl := get_len d6 0 (N : Int)
          have hn6 := HQ.out.2.2.2.2.2.2.1
          generalize hx10 : d6.opE 0 (N : Int) = x10
          generalize hy10 : d6.get 0 (N : Int) = y10 at *
          go_wp2_with fail
          refine (rread_any H10.out.1.rk 0 (N : Int)).mono ?_
          rintro e w11 ⟨rfl, hc11⟩
          rw [same_get hsm, same_opE hsm, hx10, hy10]
          have hcv := run_bytes_str (P := Try.prog) (c := c10) (H10.out.2.keep hc11 (fun _ _ h => h)) 22 9 5 Try.underlying22 Try.underlying5 Try.underlying9
          have H11 := Hid.mk (H10.out.1.nil hc11)
          clear hc11
          go_wp2_with fail
          go_roundw
          case rel => exact ⟨k + 1, by omega, by omega, by go_num, _, _, _, _, _, H11.out, hsm, hn6, HQ.out.2.2.2.2.2.2.2.1, by rw [hq6e]; exact HQ.out.2.2.2.2.2.2.2.2⟩
          case measure => simp [intOf]; omega
        · have d60 : decide ((k : Int) < 60) = false := by rw [decide_eq_false_iff_not]; omega
          have HP := Hid.mk hpl.chg
          clear hpl
          go_wp2_with fail
          go_ret
          exact ⟨rfl, HP.out⟩
      · have HP := Hid.mk hpl.chg
        clear hpl
        go_wp2_with fail
        go_ret
        exact ⟨rfl, HP.out⟩
theorem plays_law (n0 : Int) (A : Option Addr) (m c : Nat) (l : List Qop) (S : Nat → Prop) (w : World) (hl : l.length = m) (hr : Rds w S 4 A m (l.flatMap Qop.cs)) (hfit : ∀ o ∈ l, o.fit) (hm : m ≤ 9223372036854775807) :
    Calls Try.prog 8 #[.int .i64 n0, .slice A m c] w fun e w' => e = .returned (.bool true) ∧ Below w.heap.size w w' :=
  (plays_walk n0 A m c l S w hl hr hfit hm).mono fun _ _ h => ⟨h.1, h.2.below_nil⟩
end Go.Proofs.Ytbaaoldcecefcaa
