/- Joined for this seat from: XEm. -/
import Derived.Deep.RegionHeld3
import Derived.Test.YtkemmffdiclloaaGreatDoorAn
set_option linter.unusedVariables false
set_option linter.unusedSimpArgs false
namespace Go.Proofs.YtkemmffdiclloaaGreatDoor
open Go.RowKit
/-- The digits of the sizes above m. -/
def dgL (z : Int × Int) (R m : Nat) : List Value := (List.range 13).map fun r => .int .i64 (if m < r ∧ r ≤ R then ((dig (leftZ (upI (R - r) z)) : Nat) : Int) else 0)
theorem dgL_len (z : Int × Int) (R m : Nat) : (dgL z R m).length = 13 := by simp [dgL]
theorem dgL_zero (z : Int × Int) (R : Nat) : dgL z R R = [.int .i64 0, .int .i64 0, .int .i64 0, .int .i64 0, .int .i64 0, .int .i64 0, .int .i64 0, .int .i64 0, .int .i64 0, .int .i64 0, .int .i64 0, .int .i64 0, .int .i64 0] := by
  unfold dgL
  have h : ∀ r : Nat, (if R < r ∧ r ≤ R then ((dig (leftZ (upI (R - r) z)) : Nat) : Int) else 0) = 0 := fun r => if_neg (by omega)
  simp only [h]
  rfl
theorem dgL_at (z : Int × Int) (R m r : Nat) (hr : r < 13) : (dgL z R m)[r]? = some (.int .i64 (if m < r ∧ r ≤ R then ((dig (leftZ (upI (R - r) z)) : Nat) : Int) else 0)) := by
  unfold dgL
  rw [List.getElem?_map, List.getElem?_range hr]
  rfl
theorem dgL_set (z : Int × Int) (R m : Nat) (hm : m + 1 ≤ R) (hR : R ≤ 12) : (dgL z R (m + 1)).toArray.setIfInBounds (m + 1) (.int .i64 ((dig (leftZ (upI (R - (m + 1)) z)) : Nat) : Int)) = (dgL z R m).toArray := by
  rw [List.setIfInBounds_toArray]
  congr 1
  apply List.ext_getElem?
  intro r
  rw [List.getElem?_set]
  rcases Nat.lt_or_ge r 13 with hr | hr
  · rw [dgL_at _ _ _ _ hr, dgL_at _ _ _ _ hr, dgL_len]
    by_cases e : m + 1 = r
    · subst e
      rw [if_pos rfl, if_pos hr, if_pos (by omega)]
    · rw [if_neg e]
      by_cases h1 : m < r ∧ r ≤ R
      · rw [if_pos h1, if_pos (by omega)]
      · rw [if_neg h1, if_neg (by omega)]
  · rw [List.getElem?_eq_none (by rw [dgL_len]; omega), List.getElem?_eq_none (by rw [dgL_len]; omega), if_neg (by omega)]
theorem cell_far (w : World) (p q : Addr) (u : Value) (h : q.block ≠ p.block) : (w.setCell p u).cell? q = w.cell? q := World.cell?_of_block (heap_setCell_other w p q.block u h)
theorem wpQuiet_load_row {P : Program} {ops : Array Oper} {C : World → Prop} {Q : Act → Prop} {rest : List Oper} {o : Oper} {a : Act} (hgd : o.guard = none) (ty : TypeId) (x : Operand) (ho : o.op = .load ty x)
    (g : Nat) (hx : a.eval x = .pointer (some ⟨g, 0, none⟩)) (t : TypeId) (cs : Array Value) (d : TypeDesc) (hg : ∀ w, C w → Bk w g t cs)
    (hu : P.underlying ty = some d) (hd : (match d with | .struct _ | .array _ _ => true | _ => false) = true) (hi : (P.info? ty).map (·.size) = some cs.size)
    (h : wpQuiet P ops C Q rest (a.put o.dst (.agg cs))) : wpQuiet P ops C Q (o :: rest) a := by
  unfold wpQuiet
  rw [if_pos (by simp [Region.wanted, hgd])]
  refine ⟨.agg cs, fun w hw => ?_, h⟩
  unfold Oper.quietAt execOp
  simp only [ho, hx, Instr.loadAt, Instr.sureAddr, Sem.run_bind, Sem.run_pure, Result.andThen_ok, run_loadVar_row w g t ty cs (0, 0) d (hg w hw) hu hd hi]
  exact ⟨rfl, rfl⟩
def TwoE (g h : Nat) (p q : Int × Int) (W : World) : Prop := Bk W g 25 #[.int .i64 p.1, .int .i64 p.2] ∧ Bk W h 25 #[.int .i64 q.1, .int .i64 q.2]
theorem twoE {g h : Nat} {p q : Int × Int} {W : World} (h1 : Bk W g 25 #[.int .i64 p.1, .int .i64 p.2]) (h2 : Bk W h 25 #[.int .i64 q.1, .int .i64 q.2]) : TwoE g h p q W := ⟨h1, h2⟩
def BaseD (g h : Nat) (p : Int × Int) (cs : Array Value) (W : World) : Prop := Bk W g 25 #[.int .i64 p.1, .int .i64 p.2] ∧ Bk W h 73 cs
theorem baseD {g h : Nat} {p : Int × Int} {cs : Array Value} {W : World} (h1 : Bk W g 25 #[.int .i64 p.1, .int .i64 p.2]) (h2 : Bk W h 73 cs) : BaseD g h p cs W := ⟨h1, h2⟩
theorem dgL_one (z : Int × Int) (R m : Nat) : (dgL z R m).toArray.all (·.oneCell') = true := by rw [List.all_toArray, List.all_eq_true]; intro v hv; unfold dgL at hv; obtain ⟨r, _, rfl⟩ := List.mem_map.1 hv; rfl
def Based (z : Int × Int) (R : Nat) : Prop := -512 ≤ (upI R z).1 ∧ (upI R z).1 < 512 ∧ -512 ≤ (upI R z).2 ∧ (upI R z).2 < 512
theorem wayIn_any (n : Int) (h : -512 ≤ n ∧ n < 512) (w : World) : Calls Tryz.prog 66 #[.int .i64 n] w fun e w' => e = .returned (.bool true) ∧ w' = w := by
  have k : decide (n < 512) = true := decide_eq_true (by omega)
  have k2 : decide (-512 ≤ n) = true := decide_eq_true (by omega)
  obtain ⟨h1, h2⟩ := h
  go_enter Tryz.func66, Tryz.ntmps66
  go_wp2_with fail
  go_ret
  exact ⟨rfl, rfl⟩
set_option maxHeartbeats 4000000 in
theorem way_any (R : Nat) (z : Int × Int) (hR : R ≤ 12) (ha : -1073741824 ≤ z.1 ∧ z.1 ≤ 1073741824) (hb : -1073741824 ≤ z.2 ∧ z.2 ≤ 1073741824) (hbase : Based z R) (w : World) :
    Calls Tryz.prog 27 #[cV R z] w fun e w' => e = .returned (.tuple #[eV (upI R z).1 (upI R z).2, .agg (dgL z R 0).toArray, .bool true]) ∧ Chg Nil w w' := by
  have h1 := fun W => shape_any R z hR ha hb W
  have hup := fun n => upI_bd z n 1073741824 (by omega) ha hb
  have h2 : ∀ n : Nat, n ≤ 12 → ∀ W, Calls Tryz.prog 64 #[eV (upI n z).1 (upI n z).2] W fun e w' => e = .returned (.tuple #[eV (upZ (upI n z)).1 (upZ (upI n z)).2, eV (leftZ (upI n z)).1 (leftZ (upI n z)).2]) ∧ Chg Nil W w' := fun n hn W => split_any (upI n z).1 (upI n z).2 (by have := hup n; omega) (by have := hup n; omega) W
  have h3 := fun (n : Nat) W => digit_any (leftZ (upI n z)) W
  have h4 := fun W => wayIn_any (upI R z).1 ⟨hbase.1, hbase.2.1⟩ W
  have h5 := fun W => wayIn_any (upI R z).2 ⟨hbase.2.2.1, hbase.2.2.2⟩ W
  have HH := Hid.mk (And.intro h2 (And.intro h3 (And.intro h4 h5)))
  clear h2 h3 h4 h5 hup hbase ha hb
  unfold cV eV at *
  go_enter Tryz.func27, Tryz.ntmps27
  go_wp2_with fail
  refine (h1 _).mono ?_
  rintro e w1 ⟨rfl, c1⟩
  have K1 := ((((Chg.refl Nil w).alloc _).alloc _).alloc _).then c1
  have hB := box3 w 27 25 73 #[.int .i64 (R : Int), .int .i64 z.1, .int .i64 z.2] #[.int .i64 0, .int .i64 0] #[.int .i64 0, .int .i64 0, .int .i64 0, .int .i64 0, .int .i64 0, .int .i64 0, .int .i64 0, .int .i64 0, .int .i64 0, .int .i64 0, .int .i64 0, .int .i64 0, .int .i64 0]
  have b_c := hB.1.keep c1 (fun h => h)
  have b_o2 := hB.2.1.keep c1 (fun h => h)
  have b_o3 := hB.2.2.1.keep c1 (fun h => h)
  clear hB
  have y_c0 := b_c.cell 0 rfl
  have y_c1 := b_c.cell 1 rfl
  have y_c2 := b_c.cell 2 rfl
  have l_c := b_c.lt
  have H_c1 := Hid.mk b_c
  clear b_c
  have H_o21 := Hid.mk b_o2
  clear b_o2
  have H_o31 := Hid.mk b_o3
  clear b_o3
  have C1 := Hid.mk K1
  clear c1 K1
  clear h1
  go_wp2_with fail
  have n1 := H_o31.out.lt
  have HB := Hid.mk (And.intro (H_o21.out.alloc (.cells #[.int .i64 z.1, .int .i64 z.2] 25)) (And.intro (H_o31.out.alloc (.cells #[.int .i64 z.1, .int .i64 z.2] 25)) (And.intro (Bk.new w1 25 #[.int .i64 z.1, .int .i64 z.2]) (C1.out.alloc (.cells #[.int .i64 z.1, .int .i64 z.2] 25)))))
  clear H_o21 H_o31 H_c1 C1 y_c0 y_c1 y_c2 l_c
  go_loopw [6] (fun v6 wr => ∃ m : Nat, m ≤ R ∧ v6 = .int .i64 (m : Int) ∧ Hid (Bk wr (w.heap.size + 1) 25 #[.int .i64 0, .int .i64 0] ∧ Bk wr (w.heap.size + 1 + 1) 73 (dgL z R m).toArray ∧ Bk wr w1.heap.size 25 #[.int .i64 (upI (R - m) z).1, .int .i64 (upI (R - m) z).2] ∧ Chg Nil w wr)) (fun v6 _ => (intOf v6).toNat)
  case atStart => exact ⟨R, Nat.le_refl _, rfl, Hid.mk (by rw [Nat.sub_self, dgL_zero]; exact HB.out)⟩
  case round =>
    obtain ⟨m, hm, rfl, HR⟩ := hrel
    have y0 := HR.out.2.2.1.cell 0 rfl
    have y1 := HR.out.2.2.1.cell 1 rfl
    by_cases hm0 : 0 < m
    · have hs := fun W => HH.out.1 (R - m) (by omega) W
      have hd := fun W => HH.out.2.1 (R - m) W
      obtain ⟨k, rfl⟩ : ∃ k, m = k + 1 := ⟨m - 1, by omega⟩
      have hU : upZ (upI (R - (k + 1)) z) = upI (R - k) z := by rw [show R - k = R - (k + 1) + 1 by omega]; rfl
      rw [hU] at hs
      have HU := Hid.mk hU
      clear hU
      have lw1 := HR.out.2.2.1.lt
      have lw3 := HR.out.2.1.lt
      go_wp2_with fail
      refine (hs _).mono ?_
      rintro e w2 ⟨rfl, c2⟩
      have zw2 := c2.size
      have H2 := Hid.mk (And.intro (HR.out.1.keep c2 (fun h => h)) (And.intro (HR.out.2.1.keep c2 (fun h => h)) (And.intro (HR.out.2.2.1.keep c2 (fun h => h)) (HR.out.2.2.2.then c2))))
      clear c2 y0 y1 hs HR
      go_wp2_with fail
      have hB := box2 w2 25 25 #[.int .i64 (upI (R - k) z).1, .int .i64 (upI (R - k) z).2] #[.int .i64 (leftZ (upI (R - (k + 1)) z)).1, .int .i64 (leftZ (upI (R - (k + 1)) z)).2]
      generalize (w2.alloc (.cells #[.int .i64 (upI (R - k) z).1, .int .i64 (upI (R - k) z).2] 25)).alloc (.cells #[.int .i64 (leftZ (upI (R - (k + 1)) z)).1, .int .i64 (leftZ (upI (R - (k + 1)) z)).2] 25) = W0 at *
      have H3 := Hid.mk (And.intro (H2.out.1.keep hB.2.2 (fun h => h)) (And.intro (H2.out.2.1.keep hB.2.2 (fun h => h)) (And.intro (H2.out.2.2.1.keep hB.2.2 (fun h => h)) (H2.out.2.2.2.then hB.2.2))))
      have q0 := hB.1.cell 0 rfl
      have q1 := hB.1.cell 1 rfl
      have q2 := hB.2.1.cell 0 rfl
      have q3 := hB.2.1.cell 1 rfl
      have HQ := Hid.mk hB
      have HZ := Hid.mk (fun (k : Nat) (hk : k + 1 < 13) => show (dgL z R (k + 1)).toArray[k + 1]? = some (.int .i64 0) by rw [List.getElem?_toArray, dgL_at _ _ _ _ hk, if_neg (by omega)])
      clear hB H2
      have k13 : (k : Int) + 1 < 13 := by omega
      have k0 : (0 : Int) ≤ (k : Int) + 1 := by omega
      have kt : ((k : Int) + 1).toNat = k + 1 := by omega
      have HD := Hid.mk hd
      have hS0 : TwoE w2.heap.size (w2.heap.size + 1) (upI (R - k) z) (leftZ (upI (R - (k + 1)) z)) W0.drew := ⟨HQ.out.1, HQ.out.2.1⟩
      have hne := Sub.some (S := TwoE w2.heap.size (w2.heap.size + 1) (upI (R - k) z) (leftZ (upI (R - (k + 1)) z))) hS0
      have yx0 : ∀ x : Sub (TwoE w2.heap.size (w2.heap.size + 1) (upI (R - k) z) (leftZ (upI (R - (k + 1)) z))), x.world.cell? ⟨w2.heap.size, 0, none⟩ = some (.int .i64 (upI (R - k) z).1) := fun x => x.ok.1.cell 0 rfl
      have yx1 : ∀ x : Sub (TwoE w2.heap.size (w2.heap.size + 1) (upI (R - k) z) (leftZ (upI (R - (k + 1)) z))), x.world.cell? ⟨w2.heap.size, 1, none⟩ = some (.int .i64 (upI (R - k) z).2) := fun x => x.ok.1.cell 1 rfl
      have yx2 : ∀ x : Sub (TwoE w2.heap.size (w2.heap.size + 1) (upI (R - k) z) (leftZ (upI (R - (k + 1)) z))), x.world.cell? ⟨w2.heap.size + 1, 0, none⟩ = some (.int .i64 (leftZ (upI (R - (k + 1)) z)).1) := fun x => x.ok.2.cell 0 rfl
      have yx3 : ∀ x : Sub (TwoE w2.heap.size (w2.heap.size + 1) (upI (R - k) z) (leftZ (upI (R - (k + 1)) z))), x.world.cell? ⟨w2.heap.size + 1, 1, none⟩ = some (.int .i64 (leftZ (upI (R - (k + 1)) z)).2) := fun x => x.ok.2.cell 1 rfl
      clear hd q0 q1 q2 q3
      refine wp_region_lexH (TwoE w2.heap.size (w2.heap.size + 1) (upI (R - k) z) (leftZ (upI (R - (k + 1)) z))) [true, true, true, false, true, false, false] [0, 1, 3, 2, 4, 5, 6] (by kernel_rfl) (by kernel_rfl) (fun d v c a w h => by cases d <;> exact h) hS0 ?_
      refine lexH_quiet (l1 := [_, _, _]) rfl ?_
      repeat (go_big_quiet_step (fail))
      refine wpQuiet_nil ?_
      refine lexH_eff ?_
      go_wp2_with fail
      refine (HD.out _).mono ?_
      rintro e w3 ⟨rfl, c3⟩
      have K3 := ((Chg.refl Nil W0).drew).then c3
      have b3 := H3.out.2.1.keep K3 (fun h => h)
      have b5 := H3.out.2.2.1.keep K3 (fun h => h)
      have l3 := b3.lt
      have l5 := b5.lt
      have v3 := b3.cell (k + 1) (HZ.out k (by omega))
      have f3 := fun j => b3.free j
      have v50 := b5.cell 0 rfl
      have v51 := b5.cell 1 rfl
      have f5 := fun j => b5.free j
      have H4 := Hid.mk (And.intro (H3.out.1.keep K3 (fun h => h)) (And.intro b3 (And.intro b5 (And.intro (H3.out.2.2.2.then K3) (And.intro (HQ.out.1.keep K3 (fun h => h)) (HQ.out.2.1.keep K3 (fun h => h)))))))
      clear c3 K3 b3 b5 H3
      go_wp2_with fail
      refine And.intro (twoE (H4.out.2.2.2.2.1) (H4.out.2.2.2.2.2)) ?_
      refine lexH_quiet (l1 := [_]) rfl ?_
      repeat (go_big_quiet_step (fail))
      refine wpQuiet_nil ?_
      refine lexH_eff ?_
      go_wp2_with fail
      refine And.intro (twoE (H4.out.2.2.2.2.1.far (by simp; try omega) _) (H4.out.2.2.2.2.2.far (by simp; try omega) _)) ?_
      refine lexH_eff ?_
      go_wp2_with fail
      refine And.intro (twoE (((H4.out.2.2.2.2.1.far (by simp; try omega) _).far (by simp; try omega) _).far (by simp; try omega) _) (((H4.out.2.2.2.2.2.far (by simp; try omega) _).far (by simp; try omega) _).far (by simp; try omega) _)) ?_
      refine lexH_end ?_
      go_wp2_with fail
      go_roundw
      case rel =>
        refine ⟨k, by omega, by go_num, Hid.mk ⟨?_, ?_, ?_, ?_⟩⟩
        · exact ((H4.out.1.far (by simp; try omega) _).far (by simp; try omega) _).far (by simp; try omega) _
        · have h := (((H4.out.2.1.set (k + 1) (.int .i64 ((dig (leftZ (upI (R - (k + 1)) z)) : Nat) : Int))).far (p := ⟨w1.heap.size, 0, none⟩) (by simp; omega) (.int .i64 (upI (R - k) z).1)).far (p := ⟨w1.heap.size, 1, none⟩) (by simp; omega) (.int .i64 (upI (R - k) z).2))
          rw [dgL_set _ _ _ (by omega) hR] at h
          exact h
        · exact ((H4.out.2.2.1.far (by simp; omega) _).set 0 (.int .i64 (upI (R - k) z).1)).set 1 (.int .i64 (upI (R - k) z).2)
        · exact ((H4.out.2.2.2.1.setCell (fun h => by simp at h; omega) _).setCell (fun h => by simp at h; omega) _).setCell (fun h => by simp at h; omega) _
      case measure => simp [intOf]
    · obtain rfl : m = 0 := by omega
      have b2 := HR.out.1
      have b3 := HR.out.2.1
      have b5 := HR.out.2.2.1
      have l2 := b2.lt
      have l3 := b3.lt
      have l5 := b5.lt
      rw [Nat.sub_zero] at b5 y0 y1
      have v20 := b2.cell 0 rfl
      have v21 := b2.cell 1 rfl
      have f2 := fun j => b2.free j
      have f3 := fun j => b3.free j
      have H1 := Hid.mk (And.intro b2 (And.intro b3 (And.intro b5 HR.out.2.2.2)))
      clear b2 b3 b5 HR
      go_wp2_with fail
      have hS0 : BaseD w1.heap.size (w.heap.size + 1 + 1) (upI R z) (dgL z R 0).toArray wr.drew := ⟨H1.out.2.2.1, H1.out.2.1⟩
      have hne := Sub.some (S := BaseD w1.heap.size (w.heap.size + 1 + 1) (upI R z) (dgL z R 0).toArray) hS0
      have yx0 : ∀ x : Sub (BaseD w1.heap.size (w.heap.size + 1 + 1) (upI R z) (dgL z R 0).toArray), x.world.cell? ⟨w1.heap.size, 0, none⟩ = some (.int .i64 (upI R z).1) := fun x => x.ok.1.cell 0 rfl
      have yx1 : ∀ x : Sub (BaseD w1.heap.size (w.heap.size + 1 + 1) (upI R z) (dgL z R 0).toArray), x.world.cell? ⟨w1.heap.size, 1, none⟩ = some (.int .i64 (upI R z).2) := fun x => x.ok.1.cell 1 rfl
      refine wp_region_lexH (BaseD w1.heap.size (w.heap.size + 1 + 1) (upI R z) (dgL z R 0).toArray) [true, true, true, true, true, false, true, true, true, true, false, true, false, false, true] [0, 1, 2, 3, 4, 5, 6, 7, 8, 9, 10, 11, 12, 13, 14] (by kernel_rfl) (by kernel_rfl) (fun d v c a w h => by cases d <;> exact h) hS0 ?_
      refine lexH_quiet (l1 := [_, _, _, _, _]) rfl ?_
      go_big_quiet_step (fail)
      refine wpQuiet_load_row rfl _ _ rfl (w.heap.size + 1 + 1) rfl 73 (dgL z R 0).toArray _ (fun W hW => by obtain ⟨x, rfl⟩ := hW; exact x.ok.2) Tryz.underlying73 rfl (by kernel_rfl) ?_
      simp only [Act.put, Array.setIfInBounds_eq_of_size_le, List.setIfInBounds_toArray, List.set_cons_succ, List.set_cons_zero]
      repeat (go_big_quiet_step (fail))
      refine wpQuiet_nil ?_
      refine lexH_eff ?_
      go_wp2_with fail
      refine (HH.out.2.2.1 _).mono ?_
      rintro e w4 ⟨rfl, rfl⟩
      go_wp2_with fail
      refine And.intro hS0 ?_
      refine lexH_quiet (l1 := [_, _, _, _]) rfl ?_
      repeat (go_big_quiet_step (fail))
      refine wpQuiet_nil ?_
      refine lexH_eff ?_
      go_wp2_with fail
      refine (HH.out.2.2.2 _).mono ?_
      rintro e w4 ⟨rfl, rfl⟩
      go_wp2_with fail
      refine And.intro hS0 ?_
      refine lexH_quiet (l1 := [_]) rfl ?_
      repeat (go_big_quiet_step (fail))
      refine wpQuiet_nil ?_
      refine lexH_eff ?_
      go_wp2_with fail
      have l1 := H1.out.1.lt
      have q5 := ((H1.out.2.2.1.far (p := ⟨w.heap.size + 1, 0, none⟩) (by simp; try omega) (.int .i64 (upI R z).1)).far (p := ⟨w.heap.size + 1, 1, none⟩) (by simp; try omega) (.int .i64 (upI R z).2)).drew
      have q3 := ((H1.out.2.1.far (p := ⟨w.heap.size + 1, 0, none⟩) (by simp) (.int .i64 (upI R z).1)).far (p := ⟨w.heap.size + 1, 1, none⟩) (by simp) (.int .i64 (upI R z).2)).drew
      have q2 := ((H1.out.1.set 0 (.int .i64 (upI R z).1)).set 1 (.int .i64 (upI R z).2)).drew
      have cq := ((H1.out.2.2.2.setCell (p := ⟨w.heap.size + 1, 0, none⟩) (fun h => by simp at h; try omega) (.int .i64 (upI R z).1)).setCell (p := ⟨w.heap.size + 1, 1, none⟩) (fun h => by simp at h; try omega) (.int .i64 (upI R z).2)).drew
      have HQ := Hid.mk (And.intro q5 (And.intro q3 (And.intro q2 cq)))
      clear q5 q3 q2 cq
      refine And.intro (baseD HQ.out.1 HQ.out.2.1) ?_
      refine lexH_eff ?_
      refine wpList_store_row rfl _ _ _ rfl (w.heap.size + 1 + 1) (dgL z R 0).toArray rfl rfl 73 (dgL z R 0).toArray HQ.out.2.1 (by kernel_rfl) rfl (dgL_one z R 0) ?_
      have hq : Bk ((((wr.setCell ⟨w.heap.size + 1, 0, none⟩ (.int .i64 (upI R z).1)).setCell ⟨w.heap.size + 1, 1, none⟩ (.int .i64 (upI R z).2)).drew).setRow (w.heap.size + 1 + 1) (dgL z R 0).toArray) (w.heap.size + 1 + 1) 73 (dgL z R 0).toArray := setRow_heap _ _ _ _ _ _ HQ.out.2.1
      have hq5 : Bk ((((wr.setCell ⟨w.heap.size + 1, 0, none⟩ (.int .i64 (upI R z).1)).setCell ⟨w.heap.size + 1, 1, none⟩ (.int .i64 (upI R z).2)).drew).setRow (w.heap.size + 1 + 1) (dgL z R 0).toArray) w1.heap.size 25 #[.int .i64 (upI R z).1, .int .i64 (upI R z).2] := (setRow_other _ _ _ _ (by omega)).trans HQ.out.1
      have hq2 : Bk ((((wr.setCell ⟨w.heap.size + 1, 0, none⟩ (.int .i64 (upI R z).1)).setCell ⟨w.heap.size + 1, 1, none⟩ (.int .i64 (upI R z).2)).drew).setRow (w.heap.size + 1 + 1) (dgL z R 0).toArray) (w.heap.size + 1) 25 #[.int .i64 (upI R z).1, .int .i64 (upI R z).2] := (setRow_other _ _ _ _ (by omega)).trans HQ.out.2.2.1
      have cw := HQ.out.2.2.2.setRow (g := w.heap.size + 1 + 1) (fun h => by omega) (dgL z R 0).toArray
      generalize (((wr.setCell ⟨w.heap.size + 1, 0, none⟩ (.int .i64 (upI R z).1)).setCell ⟨w.heap.size + 1, 1, none⟩ (.int .i64 (upI R z).2)).drew).setRow (w.heap.size + 1 + 1) (dgL z R 0).toArray = W at *
      refine And.intro (baseD hq5 hq) ?_
      simp only [Act.put]
      refine lexH_quiet (l1 := [_]) rfl ?_
      repeat (go_big_quiet_step (fail))
      refine wpQuiet_nil ?_
      refine lexH_end ?_
      have hl2 := run_loadVar_row (P := Tryz.prog) W (w.heap.size + 1) 25 25 #[.int .i64 (upI R z).1, .int .i64 (upI R z).2] (0, 0) _ hq2 Tryz.underlying25 rfl (by kernel_rfl)
      have hl := run_loadVar_row (P := Tryz.prog) W (w.heap.size + 1 + 1) 73 73 (dgL z R 0).toArray (0, 0) _ hq Tryz.underlying73 rfl (by kernel_rfl)
      have HW := Hid.mk cw
      clear hq hq5 hq2 cw
      go_wp2_with fail
      exact bodyPost_ret (v := .tuple #[.agg #[.int .i64 (upI R z).1, .int .i64 (upI R z).2], .agg (dgL z R 0).toArray, .bool true]) (by simp [results, Tryz.results27, asAddr, hl, hl2]) rfl ⟨rfl, HW.out⟩

end Go.Proofs.YtkemmffdiclloaaGreatDoor
