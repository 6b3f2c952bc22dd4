/- Joined for this seat from: XSlCrashes. -/
import Derived.Test.YtomlmedfiajfkaaLo
namespace Go.Proofs.Ytomlmedfiajfkaa
open Go.RowKit

set_option maxHeartbeats 4000000 in
set_option maxRecDepth 100000 in
theorem slotCrashes_walk (gen : Nat) (A1 A2 : Option Addr) (n1 c1 n2 c2 : Nat) (l1 l2 : List Oq) (S1 S2 : Nat → Prop) (stop keep : Int) (w : World) (hr1 : RdO w S1 A1 n1 l1) (hr2 : RdO w S2 A2 n2 l2) :
    Calls Try.prog 7 #[.int .u64 (gen : Int), .slice A1 n1 c1, .slice A2 n2 c2, .int .i64 stop, .int .i64 keep] w fun e w' => e = .returned (.bool true) ∧ Below w.heap.size w w' := by
  have hl1 := hr1.len
  have hl2 := hr2.len
  by_cases hbig : n1 ≤ 100 ∧ n2 ≤ 100
  rotate_left
  · have hd : (decide ((n1 : Int) > 100) = true) ∨ (decide ((n1 : Int) > 100) = false ∧ decide ((n2 : Int) > 100) = true) := by
      by_cases h : n1 ≤ 100
      · exact .inr ⟨decide_eq_false (by omega), decide_eq_true (by omega)⟩
      · exact .inl (decide_eq_true (by omega))
    clear hr1 hr2 hbig
    have HA := Hid.mk (fun W => awake14_any W)
    rcases hd with h1 | ⟨h1, h2⟩
    all_goals
      go_enter Try.func7, Try.ntmps7
      go_wp2_with fail
      refine (HA.out _).mono ?_
      rintro e w1 ⟨rfl, hc⟩
      have H1 := Hid.mk hc
      clear hc
      go_wp2_with fail
      go_ret
      exact ⟨rfl, H1.out.below_nil⟩
  obtain ⟨hb1, hb2⟩ := hbig
  have HA := Hid.mk (fun W => awake14_any W)
  have hN := dnew_any 600 w
  have hg3 : IntKind.u64.wrap ((gen : Int) + 3) = (((gen + 3) % 18446744073709551616 : Nat) : Int) := by
    rw [IntKind.wrap_u64]; omega
  have hs1 := fun W (hW : Chg Nil w W) => snap14_any gen 7 A1 n1 c1 l1 S1 W (Rds.keep hr1 hW (fun _ _ h => h)) hb1
  have hs2 := fun W (hW : Chg Nil w W) => snap14_any ((gen + 3) % 18446744073709551616) 9 A2 n2 c2 l2 S2 W (Rds.keep hr2 hW (fun _ _ h => h)) hb2
  have hso := snapP_ok gen 7 l1
  have hto := snapP_ok ((gen + 3) % 18446744073709551616) 9 l2
  have hsl := snapP_len gen 7 l1
  have htl := snapP_len ((gen + 3) % 18446744073709551616) 9 l2
  have hsp : (snapP gen 7 l1).pts.length ≤ 30 := by have := Sn.len (snapP gen 7 l1); omega
  have htp : (snapP ((gen + 3) % 18446744073709551616) 9 l2).pts.length ≤ 30 := by have := Sn.len (snapP ((gen + 3) % 18446744073709551616) 9 l2); omega
  generalize (gen + 3) % 18446744073709551616 = gen3 at *
  generalize snapP gen 7 l1 = s at *
  generalize snapP gen3 9 l2 = t at *
  have hst := fun (g : Nat) (M R : Nat → Prop) (D : Dp) (W : World) (h : Dk W g M R D) => stop_any h (bits .and .i64 stop 7) (by rw [i64_and_7]; omega)
  have hkp := fun (g : Nat) (M R : Nat → Prop) (D : Dp) (W : World) (h : Dk W g M R D) (hlong : D.waits.length ≤ 1000000) => dcrash_any h (bits .and .i64 keep 1023) (by obtain ⟨C, h1, h2⟩ := i64_and_mask keep 1023 10 (by decide) (by omega); rw [show (1023 : Int) = ((1023 : Nat) : Int) from rfl, h1]; omega) (by obtain ⟨C, h1, h2⟩ := i64_and_mask keep 1023 10 (by decide) (by omega); rw [show (1023 : Int) = ((1023 : Nat) : Int) from rfl, h1]; omega) hlong
  generalize hE1 : bits .and .i64 stop 7 = stp at *
  generalize hE2 : bits .and .i64 keep 1023 = kp at *
  have hnl : (Dp.new 600).now.length = 600 := new_len (n := 600) (by omega)
  obtain ⟨f1, f2, f3, f4⟩ := slot_free_all (Dp.clean_new 600) (Dp.free_new 600) 20 s.bytes (by rw [hnl]; omega)
  have hl1 : (slotW (Dp.new 600) 20 s.bytes).1.now.length = 600 := by rw [slotW_len (by rw [hnl]; omega), hnl]
  have hrs : readS (winS (slotW (Dp.new 600) 20 s.bytes).1.now 20 550) = some s := by
    rw [f4]; exact new_read hso (by rw [hnl]; omega) (by omega)
  have hw1 := fun (g : Nat) (M R : Nat → Prop) (W : World) (h : Dk W g M R (Dp.new 600)) (A : Option Addr) (c : Nat) (S : Nat → Prop) (hr : RdP W S A s.pts.length s.pts) => swrite_go h 20 550 s.gen s.u A s.pts.length c s.pts S hr (by omega) (by rw [hnl]; omega) hso (by show s.bytes.length < _; omega) (by show (0 : Nat) ≤ _; omega)
  have hw1' : ∀ (g : Nat) (M R : Nat → Prop) (W : World) (h : Dk W g M R (Dp.new 600)) (A : Option Addr) (c : Nat) (S : Nat → Prop) (hr : RdP W S A s.pts.length s.pts), Calls Try.prog 16 #[.pointer (some ⟨g, 0, none⟩), .int .i64 20, .int .i64 550, .agg #[.int .u64 (s.gen : Int), .int .u64 (s.u : Int), .slice A s.pts.length c]] W fun e w' =>
      ∃ M' R', e = .returned (.int .i64 0) ∧ Went W w' M R M' R' ∧ Dk w' g M' R' (slotW (Dp.new 600) 20 s.bytes).1 := fun g M R W h A c S hr => by
    have h1 := hw1 g M R W h A c S hr
    rw [show (⟨s.gen, s.u, s.pts⟩ : Sn) = s from rfl, f1] at h1
    exact h1
  clear hw1
  generalize (slotW (Dp.new 600) 20 s.bytes).1 = D1 at *
  have hc2 := Dp.clean_stop f3 stp
  have hn2 : (D1.stopAt stp).now.length = 600 := hl1
  have hrs2 : readS (winS (D1.stopAt stp).now 20 550) = some s := hrs
  have hst' : ∀ (g : Nat) (M R : Nat → Prop) (W : World) (h : Dk W g M R D1), Calls Try.prog 19 #[.pointer (some ⟨g, 0, none⟩), .int .i64 stp] W fun e w' => (∃ v, e = .returned v) ∧ Chg (· = g) W w' ∧ Dk w' g M R (D1.stopAt stp) := fun g M R W h => hst g M R D1 W h
  clear hst hrs hnl f1 f2 f3 f4
  generalize D1.stopAt stp = D2 at *
  have hw2 : ∀ (g : Nat) (M R : Nat → Prop) (W : World) (h : Dk W g M R D2) (A : Option Addr) (c : Nat) (S : Nat → Prop) (hr : RdP W S A t.pts.length t.pts), Calls Try.prog 16 #[.pointer (some ⟨g, 0, none⟩), .int .i64 20, .int .i64 550, .agg #[.int .u64 (t.gen : Int), .int .u64 (t.u : Int), .slice A t.pts.length c]] W fun e w' =>
      ∃ M' R', e = .returned (.int .i64 (slotW D2 20 t.bytes).2) ∧ Went W w' M R M' R' ∧ Dk w' g M' R' (slotW D2 20 t.bytes).1 := fun g M R W h A c S hr =>
    swrite_go h 20 550 t.gen t.u A t.pts.length c t.pts S hr (by omega) (by omega) hto (by show t.bytes.length < _; omega) (by rw [hc2.waits]; show (0 : Nat) ≤ _; omega)
  have hcases : ((slotW D2 20 t.bytes).2 = 0 ∧ readS (winS ((slotW D2 20 t.bytes).1.crash kp).now 20 550) = some t) ∨
      ((slotW D2 20 t.bytes).2 = 9 ∧ (readS (winS ((slotW D2 20 t.bytes).1.crash kp).now 20 550) = none ∨ readS (winS ((slotW D2 20 t.bytes).1.crash kp).now 20 550) = some s ∨ readS (winS ((slotW D2 20 t.bytes).1.crash kp).now 20 550) = some t)) := by
    rcases slot_cases hc2 20 t.bytes (by omega) with ⟨e1, e2, e3, _⟩ | ⟨e1, e2⟩
    · exact .inl ⟨e1, by rw [clean_crash_now e2, e3]; exact new_read hto (by omega) (by omega)⟩
    · refine .inr ⟨e1, ?_⟩
      rcases cut_read (e2 kp) hto (p := 20) (n := 550) (by omega) (by omega) with h | h | h
      · exact .inr (.inl (by rw [h, hrs2]))
      · exact .inl h
      · exact .inr (.inr h)
  have hlen3 : ((slotW D2 20 t.bytes).1.crash kp).now.length = 600 := by
    have h1 : (slotW D2 20 t.bytes).1.now.length = 600 := by rw [slotW_len (by omega), hn2]
    rcases slot_cases hc2 20 t.bytes (by omega) with ⟨e1, e2, e3, _⟩ | ⟨e1, e2⟩
    · rw [clean_crash_now e2, h1]
    · rw [(e2 kp).len (by omega), hn2]
  have hwl := slotW_le hc2.waits 20 t.bytes
  have hkp' := fun (g : Nat) (M R : Nat → Prop) (W : World) (h : Dk W g M R (slotW D2 20 t.bytes).1) => hkp g M R _ W h (by omega)
  clear hkp hwl hc2 hrs2
  have hfree := Dp.free_crash (slotW D2 20 t.bytes).1 kp
  generalize (slotW D2 20 t.bytes).2 = E3 at *
  have hrd := fun (g : Nat) (M R : Nat → Prop) (W : World) (h : Dk W g M R ((slotW D2 20 t.bytes).1.crash kp)) => sread_ok h 20 550 (by omega) (by omega) hfree.dead
  generalize (slotW D2 20 t.bytes).1 = D3 at *
  generalize readS (winS (D3.crash kp).now 20 550) = r at *
  generalize D3.crash kp = D4 at *
  have HH := Hid.mk (And.intro hN (And.intro hs1 (And.intro hs2 (And.intro hw1' (And.intro hst' (And.intro hw2 (And.intro hkp' hrd)))))))
  have HC := Hid.mk hcases
  clear hN hs1 hs2 hw1' hst' hw2 hkp' hrd hcases hr1 hr2 hfree hlen3
  go_enter Try.func7, Try.ntmps7
  go_wp2_with fail
  refine HH.out.1.mono ?_
  rintro e w1 ⟨g, M, R, rfl, c1, d1, low1⟩
  have H1 := Hid.mk (Live.mk c1 d1 low1)
  clear c1 d1 low1
  go_wp2_with fail
  refine (HH.out.2.1 w1 H1.out.chg).mono ?_
  rintro e w2 ⟨As, cs, rfl, rs, c2⟩
  have hMlt := fun k (hm : M k) => H1.out.dk.lt k (.inl hm)
  have H2 := Hid.mk (And.intro (H1.out.nil c2) (Kept.new rs hMlt))
  clear c2 rs hMlt
  go_wp2_with fail
  refine (HH.out.2.2.1 w2 H2.out.1.chg).mono ?_
  rintro e w3 ⟨At, ct, rfl, rt, c3⟩
  have hMlt := fun k (hm : M k) => H2.out.1.dk.lt k (.inl hm)
  have H3 := Hid.mk (And.intro (H2.out.1.nil c3) (And.intro (H2.out.2.nil c3) (Kept.new rt hMlt)))
  clear c3 rt hMlt
  go_wp2_with fail
  have hVV := Var.two H3.out.1.dk 29 #[.int .u64 (s.gen : Int), .int .u64 (s.u : Int), .slice As s.pts.length cs] #[.int .u64 (t.gen : Int), .int .u64 (t.u : Int), .slice At t.pts.length ct]
  generalize (w3.alloc (.cells #[.int .u64 (s.gen : Int), .int .u64 (s.u : Int), .slice As s.pts.length cs] 29)).alloc (.cells #[.int .u64 (t.gen : Int), .int .u64 (t.u : Int), .slice At t.pts.length ct] 29) = w4 at *
  obtain ⟨hv1, hv2, hc4⟩ := hVV
  have H4 := Hid.mk (And.intro (H3.out.1.nil hc4) (And.intro (H3.out.2.1.nil hc4) (And.intro (H3.out.2.2.nil hc4) (And.intro hv1 hv2))))
  clear hv1 hv2 hc4
  refine (HH.out.2.2.2.1 g M R w4 H4.out.1.dk As cs _ H4.out.2.1.rd).mono ?_
  rintro e w5 ⟨M5, R5, rfl, ww5, d5⟩
  have H5 := Hid.mk (And.intro (H4.out.1.went ww5 d5) (And.intro (H4.out.2.1.went ww5) (And.intro (H4.out.2.2.1.went ww5) (And.intro (H4.out.2.2.2.1.went ww5) (H4.out.2.2.2.2.went ww5)))))
  clear ww5 d5
  go_wp2_with fail
  refine (HH.out.2.2.2.2.1 g M5 R5 w5 H5.out.1.dk).mono ?_
  rintro e w6 ⟨⟨v6, rfl⟩, c6, d6⟩
  have c6' := chg_g H5.out.1.dk c6
  have H6 := Hid.mk (And.intro (H5.out.1.step c6' d6) (And.intro (H5.out.2.1.step c6') (And.intro (H5.out.2.2.1.step c6') (And.intro (H5.out.2.2.2.1.step c6') (H5.out.2.2.2.2.step c6')))))
  obtain ⟨y0, y1, y2⟩ := H6.out.2.2.2.2.c3
  clear c6 c6' d6
  go_wp2_with fail
  refine (HH.out.2.2.2.2.2.1 g M5 R5 w6 H6.out.1.dk At ct _ H6.out.2.2.1.rd).mono ?_
  rintro e w7 ⟨M7, R7, rfl, ww7, d7⟩
  have H7 := Hid.mk (And.intro (H6.out.1.went ww7 d7) (And.intro (H6.out.2.1.went ww7) (And.intro (H6.out.2.2.1.went ww7) (And.intro (H6.out.2.2.2.1.went ww7) (H6.out.2.2.2.2.went ww7)))))
  clear ww7 d7 y0 y1 y2
  go_wp2_with fail
  refine (HH.out.2.2.2.2.2.2.1 g M7 R7 w7 H7.out.1.dk).mono ?_
  rintro e w8 ⟨⟨v8, rfl⟩, c8, d8⟩
  have H8 := Hid.mk (And.intro (H7.out.1.step c8 d8) (And.intro (H7.out.2.1.step c8) (And.intro (H7.out.2.2.1.step c8) (And.intro (H7.out.2.2.2.1.step c8) (H7.out.2.2.2.2.step c8)))))
  clear c8 d8
  go_wp2_with fail
  refine (HH.out.2.2.2.2.2.2.2 g M7 R7 w8 H8.out.1.dk).mono ?_
  rintro e w9 ⟨hi9, c9⟩
  obtain ⟨A9, c9', rfl, r9⟩ := hi9.uni
  clear hi9
  have hMlt := fun k (hm : M7 k) => H8.out.1.dk.lt k (.inl hm)
  have H9 := Hid.mk (And.intro (H8.out.1.nil c9) (And.intro (H8.out.2.1.nil c9) (And.intro (H8.out.2.2.1.nil c9) (And.intro (H8.out.2.2.2.1.nil c9) (And.intro (H8.out.2.2.2.2.nil c9) (Kept.new r9 hMlt))))))
  clear c9 r9 hMlt
  obtain ⟨y0, y1, y2⟩ := H9.out.2.2.2.2.1.c3
  obtain ⟨z0, z1, z2⟩ := H9.out.2.2.2.1.c3
  have hlt1 := H9.out.2.2.2.1.bk.lt
  have hlt2 := H9.out.2.2.2.2.1.bk.lt
  rcases HC.out with ⟨h0, hr⟩ | ⟨h9, hr⟩
  · subst h0 hr
    have HS := Hid.mk (fun W hW => same_self (W := W) t A9 At c9' ct H9.out.2.2.2.2.2 H9.out.2.2.1 hW (by omega))
    go_wp2_with fail
    refine (HS.out _ ((Chg.refl _ _).alloc _)).mono ?_
    rintro e w10 ⟨rfl, c10⟩
    have H10 := Hid.mk ((H9.out.1.chg.alloc _).trans c10 (fun _ _ h => h))
    clear c10
    go_wp2_with fail
    refine (HA.out _).mono ?_
    rintro e w11 ⟨rfl, c11⟩
    have H11 := Hid.mk (H10.out.trans c11 (fun _ _ h => h))
    clear c11
    go_wp2_with fail
    go_ret
    exact ⟨rfl, H11.out.below_nil⟩
  · subst h9
    rcases hr with hr | hr | hr
    · subst hr
      go_wp2_with fail
      refine (HA.out _).mono ?_
      rintro e w11 ⟨rfl, c11⟩
      have H11 := Hid.mk ((H9.out.1.chg.alloc _).trans c11 (fun _ _ h => h))
      clear c11
      go_wp2_with fail
      go_ret
      exact ⟨rfl, H11.out.below_nil⟩
    · subst hr
      have HS := Hid.mk (fun W hW => same_self (W := W) s A9 As c9' cs H9.out.2.2.2.2.2 H9.out.2.1 hW (by omega))
      go_wp2_with fail
      refine (HS.out _ ((Chg.refl _ _).alloc _)).mono ?_
      rintro e w10 ⟨rfl, c10⟩
      have H10 := Hid.mk ((H9.out.1.chg.alloc _).trans c10 (fun _ _ h => h))
      clear c10
      go_wp2_with fail
      refine (HA.out _).mono ?_
      rintro e w11 ⟨rfl, c11⟩
      have H11 := Hid.mk (H10.out.trans c11 (fun _ _ h => h))
      clear c11
      go_wp2_with fail
      go_ret
      exact ⟨rfl, H11.out.below_nil⟩
    · subst hr
      have HS1 := Hid.mk (fun W hW => same_kept (W := W) t s A9 As c9' cs H9.out.2.2.2.2.2 H9.out.2.1 hW (by omega) (by omega))
      have HS2 := Hid.mk (fun W hW => same_self (W := W) t A9 At c9' ct H9.out.2.2.2.2.2 H9.out.2.2.1 hW (by omega))
      go_wp2_with fail
      refine (HS1.out _ ((Chg.refl _ _).alloc _)).mono ?_
      rintro e w10 ⟨rfl, c10⟩
      generalize eqB (t = s) = b1 at *
      have H10 := Hid.mk (((Chg.refl Nil w9).alloc _).trans c10 (fun _ _ h => h))
      have c10' := c10
      have x0 := c10.cell (((Bk.new w9 29 #[.int .u64 (t.gen : Int), .int .u64 (t.u : Int), .slice A9 t.pts.length c9']).cell 0 rfl)) (fun h => h)
      have x1 := c10.cell (((Bk.new w9 29 #[.int .u64 (t.gen : Int), .int .u64 (t.u : Int), .slice A9 t.pts.length c9']).cell 1 rfl)) (fun h => h)
      have x2 := c10.cell (((Bk.new w9 29 #[.int .u64 (t.gen : Int), .int .u64 (t.u : Int), .slice A9 t.pts.length c9']).cell 2 rfl)) (fun h => h)
      have q0 := H10.out.cell y0 (fun h => h)
      have q1 := H10.out.cell y1 (fun h => h)
      have q2 := H10.out.cell y2 (fun h => h)
      clear c10 c10' y0 y1 y2 z0 z1 z2
      cases b1
      · go_wp2_with fail
        refine (HS2.out _ H10.out).mono ?_
        rintro e w11 ⟨rfl, c11⟩
        have H11 := Hid.mk ((H9.out.1.chg.trans H10.out (fun _ _ h => h)).trans c11 (fun _ _ h => h))
        clear c11
        go_wp2_with fail
        refine (HA.out _).mono ?_
        rintro e w12 ⟨rfl, c12⟩
        have H12 := Hid.mk (H11.out.trans c12 (fun _ _ h => h))
        clear c12
        go_wp2_with fail
        go_ret
        exact ⟨rfl, H12.out.below_nil⟩
      · go_wp2_with fail
        refine (HA.out _).mono ?_
        rintro e w12 ⟨rfl, c12⟩
        have H12 := Hid.mk ((H9.out.1.chg.trans H10.out (fun _ _ h => h)).trans c12 (fun _ _ h => h))
        clear c12
        go_wp2_with fail
        go_ret
        exact ⟨rfl, H12.out.below_nil⟩

end Go.Proofs.Ytomlmedfiajfkaa
