/- The walk of RecOrder: it returns true, whatever the input. -/
import Derived.Test.YtmbmfhpdajdpfaaRecPoints
namespace Go.Proofs.Ytmbmfhpdajdpfaa
open Go.RowKit

theorem lastP_take (ops : List Oq) (key : Int) (k : Nat) (o : Oq) (h : ops[k]? = some o) (hk : o.kind = 1 ∨ o.kind = 2) :
    lastP (ops.take (k + 1)) key = if o.pt.key = key then some o else lastP (ops.take k) key := by
  unfold lastP
  rw [List.take_add_one, h, List.filter_append]
  by_cases e : o.pt.key = key
  · rw [if_pos e]
    have : ([o].filter fun o => decide (o.pt.key = key ∧ (o.kind = 1 ∨ o.kind = 2))) = [o] := by simp [e, hk]
    simp only [Option.toList]
    rw [this]
    simp
  · rw [if_neg e]
    have : ([o].filter fun o => decide (o.pt.key = key ∧ (o.kind = 1 ∨ o.kind = 2))) = [] := by simp [e]
    simp only [Option.toList]
    rw [this]
    simp
theorem getP_take (l : List Pt) (key : Int) (k : Nat) (p : Pt) (hu : Up l) (h : l[k]? = some p) :
    getP (l.take (k + 1)) key = (if p.key = key then some p else getP (l.take k) key) ∧ (p.key = key → getP (l.take k) key = none) := by
  have hno : p.key = key → getP (l.take k) key = none := fun e => getP_no fun q hq => by
    obtain ⟨j, hj, he⟩ := List.mem_iff_getElem.1 hq
    rw [List.length_take] at hj
    have hq' : l[j]? = some q := by rw [← he, List.getElem_take]; exact List.getElem?_eq_getElem _
    have := hu.key_lt (by omega) hq' h
    omega
  refine ⟨?_, hno⟩
  rw [List.take_add_one, h]
  simp only [Option.toList]
  rw [getP_app, getP_cons]
  by_cases e : p.key = key
  · rw [hno e, if_pos e, if_pos e]; rfl
  · rw [if_neg e, if_neg e]
    cases getP (l.take k) key <;> rfl
theorem bk_set5 {w : World} {g : Nat} {t : TypeId} {a0 a1 a2 a3 a4 : Value} (h : Bk w g t #[a0, a1, a2, a3, a4]) (b0 b1 b2 b3 b4 : Value) :
    Bk (((((w.setCell ⟨g, 0, none⟩ b0).setCell ⟨g, 1, none⟩ b1).setCell ⟨g, 2, none⟩ b2).setCell ⟨g, 3, none⟩ b3).setCell ⟨g, 4, none⟩ b4) g t #[b0, b1, b2, b3, b4] := by
  simpa using ((((h.set 0 b0).set 1 b1).set 2 b2).set 3 b3).set 4 b4
theorem bk_set4 {w : World} {g : Nat} {t : TypeId} {a0 a1 a2 a3 : Value} (h : Bk w g t #[a0, a1, a2, a3]) (b0 b1 b2 b3 : Value) :
    Bk ((((w.setCell ⟨g, 0, none⟩ b0).setCell ⟨g, 1, none⟩ b1).setCell ⟨g, 2, none⟩ b2).setCell ⟨g, 3, none⟩ b3) g t #[b0, b1, b2, b3] := by
  simpa using (((h.set 0 b0).set 1 b1).set 2 b2).set 3 b3
def zeroO : Oq := ⟨0, ⟨0, 0, 0, 0⟩⟩
def zeroP : Pt := ⟨0, 0, 0, 0⟩

set_option maxHeartbeats 8000000 in
set_option maxRecDepth 100000 in
theorem recOrder_walk (A : Option Addr) (n c : Nat) (l : List Oq) (S : Nat → Prop) (key : Int) (w : World) (hr : RdO w S A n l) :
    Calls Try.prog 9 #[.slice A n c, .int .i64 key] w fun e w' => e = .returned (.bool true) ∧ Below w.heap.size w w' := by
  by_cases hf : n ≤ 100
  rotate_left
  · have hd : decide ((n : Int) ≤ 100) = false := decide_eq_false (by omega)
    clear hr
    go_enter Try.func9, Try.ntmps9
    go_wp2_with fail
    refine (few_any A n c w).mono ?_
    rintro e w1 ⟨he, hw⟩
    have hw' := hw.symm
    subst hw'
    clear hw
    rw [hd] at he
    subst he
    go_wp2_with fail
    refine (awakeR_any _).mono ?_
    rintro e w2 ⟨rfl, hb⟩
    have HB := Hid.mk hb
    clear hb
    go_wp2_with fail
    go_ret
    exact ⟨rfl, HB.out⟩
  have hd : decide ((n : Int) ≤ 100) = true := decide_eq_true (by omega)
  have hgl := goodL_len l
  rw [hr.len] at hgl
  have hPl := do_len (goodL l) [] up_nil
  have hPu := do_up (goodL l) [] up_nil
  have htw := do_twice (goodL l) [] up_nil
  have hget := do_get (goodL l) [] key up_nil
  have hkk : ∀ o ∈ goodL l, o.kind = 1 ∨ o.kind = 2 := fun o h => ok_kinds (goodL_oks l o h)
  have hG := good_any A n c l S w hr hf
  generalize goodL l = G at *
  have hAp := fun A1 c1 W S1 (ho : RdO W S1 A1 G.length G) => apply_any none A1 0 0 G.length c1 [] G (fun _ => False) S1 W (rdp_nil W _) ho (by omega) (by omega) up_nil
  generalize doP [] G = P at *
  simp only [List.length_nil, Nat.zero_add] at hPl
  have HG := Hid.mk (And.intro hG (And.intro hPu (And.intro htw (And.intro hget (And.intro hkk hAp)))))
  clear hG hPu htw hget hkk hAp hr
  go_enter Try.func9, Try.ntmps9
  go_wp2_with fail
  refine (few_any A n c w).mono ?_
  rintro e w1 ⟨he, hw⟩
  have hw' := hw.symm
  subst hw'
  clear hw
  rw [hd] at he
  subst he
  go_wp2_with fail
  refine HG.out.1.mono ?_
  rintro e w1 ⟨v1, rfl, o1, c1⟩
  obtain ⟨A1, k1, rfl, _, _⟩ := own_form o1
  have H1 := Hid.mk (And.intro o1 c1)
  clear o1 c1
  go_wp2_with fail
  refine (HG.out.2.2.2.2.2 A1 k1 w1 _ (Rds.of_own H1.out.1)).mono ?_
  rintro e w2 ⟨v2, rfl, o2, c2⟩
  obtain ⟨A2, k2, rfl, _, _⟩ := own_form o2
  have H2 := Hid.mk (And.intro o2 (And.intro (H1.out.2.trans c2 (fun _ _ h => h)) (own_keep H1.out.1 c2 (fun _ _ h => h))))
  clear o2 c2
  go_wp2_with fail
  refine (apply_any A2 A1 P.length k2 G.length k1 P G _ _ w2 (Rds.of_own H2.out.1) (Rds.of_own H2.out.2.2) (by omega) (by omega) HG.out.2.1).mono ?_
  rintro e w3 ⟨v3, rfl, o3, c3⟩
  rw [HG.out.2.2.1] at o3
  obtain ⟨A3, k3, rfl, _, _⟩ := own_form o3
  have H3 := Hid.mk (And.intro o3 (And.intro (own_keep H2.out.1 c3 (fun _ _ h => h)) c3))
  clear o3 c3
  go_wp2_with fail
  refine (samePts_any A3 A2 P.length k3 k2 P _ _ w3 (Rds.of_own H3.out.1) (Rds.of_own H3.out.2.1) (by omega)).mono ?_
  rintro e w4 ⟨rfl, c4⟩
  have c34 := H3.out.2.2.trans c4 (fun _ _ h => h)
  have H4 := Hid.mk (And.intro (H2.out.2.1.trans c34 (fun _ _ h => h)) (And.intro (own_keep H2.out.1 c34 (fun _ _ h => h)) (own_keep H2.out.2.2 c34 (fun _ _ h => h))))
  clear c4 c34
  go_wp2_with fail
  have hB0 := Bk.new w4 46 #[.int .i64 0, .int .i64 0, .int .i64 0, .int .i64 0, .int .i64 0]
  have hA0 : Chg Nil w4 (w4.alloc (.cells #[.int .i64 0, .int .i64 0, .int .i64 0, .int .i64 0, .int .i64 0] 46)) := (Chg.refl _ _).alloc _
  have hs0 : (w4.alloc (.cells #[.int .i64 0, .int .i64 0, .int .i64 0, .int .i64 0, .int .i64 0] 46)).heap.size = w4.heap.size + 1 := by simp
  generalize w4.alloc (.cells #[.int .i64 0, .int .i64 0, .int .i64 0, .int .i64 0, .int .i64 0] 46) = w5 at *
  have H5 := Hid.mk (And.intro hB0 (And.intro hA0 hs0))
  clear hB0 hA0 hs0
  go_loopw [8] (fun i wr => ∃ k : Nat, k ≤ G.length ∧ i = .int .i64 (k : Int) ∧ Chg (· = w4.heap.size) w5 wr ∧ Bk wr w4.heap.size 46 ((lastP (G.take k) key).getD zeroO).cs.toArray) (fun i _ => G.length - (intOf i).toNat)
  case atStart => exact ⟨0, Nat.zero_le _, rfl, Chg.refl _ _, H5.out.1⟩
  case round =>
    obtain ⟨k, hk, rfl, hch, hbk⟩ := hrel
    have hcw : Chg Nil w4 wr := (H5.out.2.1).trans hch (fun j hj h => by have h' : j = w4.heap.size := h; omega)
    by_cases hlt : k < G.length
    · obtain ⟨b, off, rfl, hbo, hat⟩ := RdO.at5 (show RdO w4 _ A1 G.length G from Rds.of_own H4.out.2.2) (by omega)
      have ho : G[k]? = some (G[k]'hlt) := List.getElem?_eq_getElem _
      have hstep := lastP_take G key k _ ho (HG.out.2.2.2.2.1 _ (List.getElem_mem hlt))
      generalize G[k]'hlt = o at ho hstep
      generalize hL : (lastP (G.take k) key).getD zeroO = L at *
      have HL := Hid.mk hL
      clear hL
      obtain ⟨ld, lk, lx, ly, lv⟩ := L
      obtain ⟨kd, ky, x, y, v⟩ := o
      simp only at hstep
      have x0 := hat wr hcw k kd ky x y v ho
      obtain ⟨x0, x1, x2, x3, x4⟩ := x0
      have y0 := hbk.cell 0 rfl
      have y1 := hbk.cell 1 rfl
      have y2 := hbk.cell 2 rfl
      have y3 := hbk.cell 3 rfl
      have y4 := hbk.cell 4 rfl
      have f0 := fun j => hbk.free j
      have HK := Hid.mk (And.intro hch (And.intro hbk hstep))
      clear hch hbk hat ho hcw hstep
      by_cases he : ky = key
      · subst he
        go_wp2_with fail
        go_roundw
        case rel =>
          have h2 := HK.out.2.2
          rw [if_pos rfl] at h2
          refine ⟨k + 1, by omega, by go_num, ?_, ?_⟩
          · exact ((((HK.out.1.setCell (p := ⟨w4.heap.size, _, none⟩) (fun _ => rfl) _).setCell (p := ⟨w4.heap.size, _, none⟩) (fun _ => rfl) _).setCell (p := ⟨w4.heap.size, _, none⟩) (fun _ => rfl) _).setCell (p := ⟨w4.heap.size, _, none⟩) (fun _ => rfl) _).setCell (p := ⟨w4.heap.size, _, none⟩) (fun _ => rfl) _
          · rw [h2]
            exact bk_set5 HK.out.2.1 _ _ _ _ _
        case measure => simp [intOf]; omega
      · have hb : ((ky : Int) == key) = false := by rw [beq_eq_false_iff_ne]; exact he
        have HE := Hid.mk he
        clear he
        go_wp2_with fail
        go_roundw
        case rel =>
          have h2 := HK.out.2.2
          rw [if_neg HE.out] at h2
          exact ⟨k + 1, by omega, by go_num, HK.out.1, by rw [h2, HL.out]; exact HK.out.2.1⟩
        case measure => simp [intOf]; omega
    · obtain rfl : k = G.length := by omega
      rw [List.take_of_length_le (Nat.le_refl _)] at hbk
      have HK := Hid.mk (And.intro hch (And.intro hbk hcw))
      clear hch hbk hcw
      go_wp2_with fail
      have hB0 := Bk.new wr 44 #[.int .i64 0, .int .i64 0, .int .i64 0, .int .i64 0]
      have hA0 : Chg Nil wr (wr.alloc (.cells #[.int .i64 0, .int .i64 0, .int .i64 0, .int .i64 0] 44)) := (Chg.refl _ _).alloc _
      have hs6 := HK.out.2.2.size
      generalize hw6 : wr.alloc (.cells #[.int .i64 0, .int .i64 0, .int .i64 0, .int .i64 0] 44) = w6 at *
      have hlw : w4.heap.size < wr.heap.size := by have := HK.out.1.size; have := H5.out.2.2; omega
      have H6 := Hid.mk (And.intro hB0 (And.intro hA0 (HK.out.2.1.keep hA0 (fun h => h))))
      have c46 : Chg Nil w4 w6 := HK.out.2.2.trans hA0 (fun _ _ h => h)
      have HP := Hid.mk (And.intro (own_keep H4.out.2.1 c46 (fun _ _ h => h)) c46)
      clear hB0 hA0 hw6 c46
      obtain ⟨wo, hwo⟩ : ∃ wo, wo = wr := ⟨_, rfl⟩
      subst hwo
      go_loopw [10, 11] (fun q i wi => ∃ k m : Nat, k ≤ P.length ∧ i = .int .i64 (k : Int) ∧ q = .int .i64 (m : Int) ∧ Hid (m = if (getP (P.take k) key).isSome then 1 else 0) ∧ Chg (· = wo.heap.size) w6 wi ∧ Bk wi wo.heap.size 44 ((getP (P.take k) key).getD zeroP).cs.toArray) (fun _ i _ => P.length - (intOf i).toNat)
      case atStart => exact ⟨0, 0, Nat.zero_le _, rfl, rfl, Hid.mk rfl, Chg.refl _ _, H6.out.1⟩
      case round =>
        obtain ⟨k, m, hk, rfl, rfl, HM, hch, hbk⟩ := hrel
        have hnl : ∀ j, j < w6.heap.size → j ≠ wo.heap.size → wr.heap[j]? = w6.heap[j]? := fun j h1 h2 => hch.old j h1 h2
        have hPw := own_keep HP.out.1 hch (fun j hj h => by
          have h1 := own_lt H4.out.2.1 j hj
          have h' : j = wo.heap.size := h
          omega)
        by_cases hlt : k < P.length
        · obtain ⟨b, off, rfl, hbo, hat⟩ := RdP.at4 (Rds.of_own hPw) (by omega)
          have ho : P[k]? = some (P[k]'hlt) := List.getElem?_eq_getElem _
          have hstep := getP_take P key k _ HG.out.2.1 ho
          have hpre : ∀ j, k = j + 1 → ∃ q, P[j]? = some q ∧ q.key < (P[k]'hlt).key := fun j hj => ⟨_, List.getElem?_eq_getElem (by omega), HG.out.2.1.key_lt (by omega) (List.getElem?_eq_getElem (by omega)) ho⟩
          generalize P[k]'hlt = o at ho hstep hpre
          generalize hL : (getP (P.take k) key).getD zeroP = L at *
          obtain ⟨lk, lx, ly, lv⟩ := L
          obtain ⟨ky, x, y, v⟩ := o
          simp only at hstep hpre
          have x0 := fun nq => (hat (wr.drewN nq) ((Chg.refl Nil wr).drewN nq) k ky x y v ho).1
          have x1 := fun nq => (hat (wr.drewN nq) ((Chg.refl Nil wr).drewN nq) k ky x y v ho).2.1
          have x2 := fun nq => (hat (wr.drewN nq) ((Chg.refl Nil wr).drewN nq) k ky x y v ho).2.2.1
          have x3 := fun nq => (hat (wr.drewN nq) ((Chg.refl Nil wr).drewN nq) k ky x y v ho).2.2.2
          have y0 := fun nq => (hbk.drewN nq).cell 0 rfl
          have y1 := fun nq => (hbk.drewN nq).cell 1 rfl
          have y2 := fun nq => (hbk.drewN nq).cell 2 rfl
          have y3 := fun nq => (hbk.drewN nq).cell 3 rfl
          have f0 := fun nq j => (hbk.drewN nq).free j
          have HK2 := Hid.mk (And.intro hch (And.intro hbk (And.intro hstep (And.intro hL hat))))
          clear hch hbk ho hstep hnl hPw hL hat
          have hm1 : m ≤ 1 := by rw [HM.out]; split <;> omega
          rcases Nat.eq_zero_or_pos k with h0 | h0
          focus
            have hdz : decide (0 < k) = false := decide_eq_false (by omega)
            have hdz2 : decide ((0 : Int) < (k : Int)) = false := decide_eq_false (by omega)
            clear hpre h0
            go_wp2_with fail
            go_quiet (fail)
          rotate_left
          focus
            obtain ⟨j, hj⟩ : ∃ j, k = j + 1 := ⟨k - 1, by omega⟩
            obtain ⟨q, hq, hqk⟩ := hpre j hj
            obtain ⟨qk, qx, qy, qv⟩ := q
            simp only at hqk
            have z0 := fun nq => (HK2.out.2.2.2.2 (wr.drewN nq) ((Chg.refl Nil wr).drewN nq) j qk qx qy qv hq).1
            have hdd : decide (ky ≤ qk) = false := decide_eq_false (by omega)
            have hdz : decide (0 < k) = true := decide_eq_true h0
            have hdz2 : decide ((0 : Int) < (k : Int)) = true := decide_eq_true (by omega)
            have hw1 : IntKind.i64.wrap ((k : Int) - 1) = (j : Int) := by rw [IntKind.wrap_i64]; omega
            have hjl : j < P.length := by omega
            clear hq hpre hj h0
            go_wp2_with fail
            go_quiet (fail)
            clear hw1
          all_goals
            by_cases he : ky = key
            · have heb : ((ky : Int) == key) = true := by rw [beq_iff_eq]; exact he
              have hst := HK2.out.2.2.1
              have hno := hst.2 he
              have hm0 : m = 0 := by rw [HM.out, hno]; rfl
              rw [if_pos he] at hst
              have HS := Hid.mk hst.1
              subst hm0
              clear he hst hno
              go_wp2_with fail
              go_roundw
              case rel =>
                refine ⟨k + 1, 1, by omega, by go_num, by go_num, ?_, ?_, ?_⟩
                · exact Hid.mk (by rw [HS.out]; rfl)
                · exact ((((HK2.out.1.drewN _).setCell (p := ⟨wo.heap.size, _, none⟩) (fun _ => rfl) _).setCell (p := ⟨wo.heap.size, _, none⟩) (fun _ => rfl) _).setCell (p := ⟨wo.heap.size, _, none⟩) (fun _ => rfl) _).setCell (p := ⟨wo.heap.size, _, none⟩) (fun _ => rfl) _
                · rw [HS.out]
                  exact bk_set4 (HK2.out.2.1.drewN _) _ _ _ _
              case measure => simp [intOf]; omega
            · have heb : ((ky : Int) == key) = false := by rw [beq_eq_false_iff_ne]; exact he
              have hst := HK2.out.2.2.1
              rw [if_neg he] at hst
              have HS := Hid.mk hst.1
              clear he hst
              go_wp2_with fail
              go_roundw
              case rel =>
                refine ⟨k + 1, m, by omega, by go_num, rfl, ?_, HK2.out.1.drewN _, ?_⟩
                · exact Hid.mk (by rw [HS.out]; exact HM.out)
                · rw [HS.out, HK2.out.2.2.2.1]
                  exact HK2.out.2.1.drewN _
              case measure => simp [intOf]; omega
        · obtain rfl : k = P.length := by omega
          rw [List.take_of_length_le (Nat.le_refl _)] at hbk HM
          have hlb : Bk wr w4.heap.size 46 ((lastP G key).getD zeroO).cs.toArray := H6.out.2.2.keep hch (fun h => by have h' : w4.heap.size = wo.heap.size := h; omega)
          have c0r : Chg Nil w wr := (H4.out.1.trans HP.out.2 (fun _ _ h => h)).trans hch (fun j hj h => by
            have h' : j = wo.heap.size := h
            have := H4.out.1.size
            omega)
          have hget := HG.out.2.2.2.1
          have HW := Hid.mk c0r
          clear c0r hch hPw hnl
          cases hL : lastP G key with
          | none =>
            rw [hL] at hlb hget
            have hg0 : getP P key = none := hget
            rw [hg0] at hbk HM
            have hm0 : m = 0 := HM.out
            subst hm0
            have y0 : wr.cell? ⟨w4.heap.size, 0, none⟩ = some (.int .i64 0) := hlb.cell 0 rfl
            have HB := Hid.mk (And.intro hlb hbk)
            clear hlb hbk hL hget hg0
            go_wp2_with fail
            refine (awakeR_any _).mono ?_
            rintro e w9 ⟨rfl, b9⟩
            have H9 := Hid.mk b9
            clear b9
            go_wp2_with fail
            go_ret
            exact ⟨rfl, HW.out.below_nil.trans (H9.out.mono HW.out.size)⟩
          | some o =>
            rw [hL] at hlb hget
            have hk := HG.out.2.2.2.2.1 o (by
              unfold lastP at hL
              exact (List.mem_filter.1 (List.mem_of_getLast? hL)).1)
            obtain ⟨kd, ky, x, y, v⟩ := o
            simp only at hk
            rcases hk with rfl | rfl
            · have hg0 : getP P key = some ⟨ky, x, y, v⟩ := hget
              rw [hg0] at hbk HM
              have hm0 : m = 1 := HM.out
              subst hm0
              have y0 : wr.cell? ⟨w4.heap.size, 0, none⟩ = some (.int .i64 1) := hlb.cell 0 rfl
              have y1 : wr.cell? ⟨w4.heap.size, 1, none⟩ = some (.int .i64 ky) := hlb.cell 1 rfl
              have y2 : wr.cell? ⟨w4.heap.size, 2, none⟩ = some (.int .i64 x) := hlb.cell 2 rfl
              have y3 : wr.cell? ⟨w4.heap.size, 3, none⟩ = some (.int .i64 y) := hlb.cell 3 rfl
              have y4 : wr.cell? ⟨w4.heap.size, 4, none⟩ = some (.int .i64 v) := hlb.cell 4 rfl
              have z0 : wr.cell? ⟨wo.heap.size, 0, none⟩ = some (.int .i64 ky) := hbk.cell 0 rfl
              have z1 : wr.cell? ⟨wo.heap.size, 1, none⟩ = some (.int .i64 x) := hbk.cell 1 rfl
              have z2 : wr.cell? ⟨wo.heap.size, 2, none⟩ = some (.int .i64 y) := hbk.cell 2 rfl
              have z3 : wr.cell? ⟨wo.heap.size, 3, none⟩ = some (.int .i64 v) := hbk.cell 3 rfl
              have HB := Hid.mk (And.intro hlb hbk)
              clear hlb hbk hL hget hg0
              go_wp2_with fail
              refine (awakeR_any _).mono ?_
              rintro e w9 ⟨rfl, b9⟩
              have H9 := Hid.mk b9
              clear b9
              go_wp2_with fail
              go_ret
              exact ⟨rfl, HW.out.below_nil.trans (H9.out.mono HW.out.size)⟩
            · have hg0 : getP P key = none := hget
              rw [hg0] at hbk HM
              have hm0 : m = 0 := HM.out
              subst hm0
              have y0 : wr.cell? ⟨w4.heap.size, 0, none⟩ = some (.int .i64 2) := hlb.cell 0 rfl
              have HB := Hid.mk (And.intro hlb hbk)
              clear hlb hbk hL hget hg0
              go_wp2_with fail
              refine (awakeR_any _).mono ?_
              rintro e w9 ⟨rfl, b9⟩
              have H9 := Hid.mk b9
              clear b9
              go_wp2_with fail
              go_ret
              exact ⟨rfl, HW.out.below_nil.trans (H9.out.mono HW.out.size)⟩
end Go.Proofs.Ytmbmfhpdajdpfaa
