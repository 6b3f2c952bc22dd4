/- The walk of RecPoints: it returns true, whatever the input. -/
import Derived.Test.YtmbmfhpdajdpfaaRefApply
import Derived.Test.YtmbmfhpdajdpfaaReadPts
import Derived.Test.YtmbmfhpdajdpfaaAwakeR
namespace Go.Proofs.Ytmbmfhpdajdpfaa
open Go.RowKit

theorem goodL_oks (l : List Oq) : ∀ o ∈ goodL l, o.ok = true := fun _ h => (List.mem_filter.1 h).2
theorem ok_kinds {o : Oq} (h : o.ok = true) : o.kind = 1 ∨ o.kind = 2 := by
  unfold Oq.ok at h
  by_cases h1 : o.kind = 1
  · exact .inl h1
  · by_cases h2 : o.kind = 2
    · exact .inr h2
    · simp [h1, h2] at h
theorem up_nil : Up [] := List.Pairwise.nil
theorem doP_may (l : List Oq) (h : (goodL l).length ≤ 2000) : mayP (doP [] (goodL l)) = 0 := by
  have h1 := do_len (goodL l) [] up_nil
  exact mayP_yes (by simp at h1; omega) ((risesP_iff _).2 ⟨do_up _ _ up_nil, do_oks _ _ up_nil (by simp) (goodL_oks l)⟩)
theorem rdp_nil (w : World) (S : Nat → Prop) : RdP w S none 0 [] := Rds.nil

set_option maxHeartbeats 4000000 in
set_option maxRecDepth 100000 in
theorem recPoints_walk (A : Option Addr) (n c : Nat) (l : List Oq) (S : Nat → Prop) (w : World) (hr : RdO w S A n l) :
    Calls Try.prog 10 #[.slice A n c] w fun e w' => e = .returned (.bool true) ∧ Below w.heap.size w w' := by
  obtain ⟨i0, hi, hz0, hz1, hz2⟩ := info_parts Try.infoByte
  by_cases hf : n ≤ 100
  rotate_left
  · have hd : decide ((n : Int) ≤ 100) = false := decide_eq_false (by omega)
    clear hr
    go_enter Try.func10, Try.ntmps10
    go_wp2_with fail
    refine (few_any A n c w).mono ?_
    rintro e w1 ⟨he, hw⟩
    have hw' := hw.symm
    subst hw'
    clear hw
    rw [hd] at he
    subst he
    go_wp2_with fail
    refine (awakeR_any _).mono ?_
    rintro e w2 ⟨rfl, hb⟩
    have HB := Hid.mk hb
    clear hb
    go_wp2_with fail
    go_ret
    exact ⟨rfl, HB.out⟩
  have hd : decide ((n : Int) ≤ 100) = true := decide_eq_true (by omega)
  have hgl := goodL_len l
  rw [hr.len] at hgl
  have hmay := doP_may l (by omega)
  have hPl := do_len (goodL l) [] up_nil
  have hPu := do_up (goodL l) [] up_nil
  have hback := readP_back _ hmay
  have hG := good_any A n c l S w hr hf
  generalize goodL l = G at *
  generalize hPe : doP [] G = P at *
  simp only [List.length_nil, Nat.zero_add] at hPl
  have hpbl := ptsB_len P
  have hodd : readP (ptsB P ++ [0]) = none := by unfold readP; rw [if_pos (by simp; omega)]
  have HG := Hid.mk (And.intro hG (And.intro hmay (And.intro hPu (And.intro hback (And.intro hpbl (And.intro hodd hPe))))))
  clear hG hmay hPu hback hpbl hodd hPe hr
  go_enter Try.func10, Try.ntmps10
  go_wp2_with fail
  refine (few_any A n c w).mono ?_
  rintro e w1 ⟨he, hw⟩
  have hw' := hw.symm
  subst hw'
  clear hw
  rw [hd] at he
  subst he
  go_wp2_with fail
  refine HG.out.1.mono ?_
  rintro e w1 ⟨v1, rfl, o1, c1⟩
  obtain ⟨A1, k1, rfl, _, _⟩ := own_form o1
  have H1 := Hid.mk (And.intro o1 c1)
  clear o1 c1
  go_wp2_with fail
  refine (apply_any none A1 0 0 G.length k1 [] G (fun _ => False) _ w1 (rdp_nil w1 _) (Rds.of_own H1.out.1) (by omega) (by omega) up_nil).mono ?_
  rintro e w2 ⟨v2, rfl, o2, c2⟩
  rw [HG.out.2.2.2.2.2.2] at o2
  obtain ⟨A2, k2, rfl, _, _⟩ := own_form o2
  have H2 := Hid.mk (And.intro o2 (H1.out.2.trans c2 (fun _ _ h => h)))
  clear o2 c2
  go_wp2_with fail
  refine (points_ok A2 P.length k2 P _ w2 (Rds.of_own H2.out.1) HG.out.2.1).mono ?_
  rintro e w3 ⟨v3, rfl, c3, o3⟩
  rw [HG.out.2.2.2.2.1] at o3
  obtain ⟨A3, k3, rfl, hk3, hm3⟩ := own_form o3
  have H3 := Hid.mk (And.intro o3 (And.intro (H2.out.2.trans c3 (fun _ _ h => h)) (own_keep H2.out.1 c3 (fun _ _ h => h))))
  clear o3 c3
  go_wp2_with fail
  refine (readpts_any A3 k3 (16 * P.length) (ptsB P) _ w3 (Rds.of_own H3.out.1) hk3 hm3).mono ?_
  rintro e w4 ⟨h4, c4⟩
  rw [HG.out.2.2.2.1] at h4
  obtain ⟨v4, rfl, o4⟩ := h4
  obtain ⟨A4, k4, rfl, _, _⟩ := own_form o4
  have H4 := Hid.mk (And.intro o4 (And.intro (H3.out.2.1.trans c4 (fun _ _ h => h)) (And.intro (own_keep H3.out.2.2 c4 (fun _ _ h => h)) (own_keep H3.out.1 c4 (fun _ _ h => h)))))
  clear o4 c4
  have HR4 := Hid.mk (fun o => (show RdB (w4.alloc o) _ A3 (16 * P.length) (ptsB P) from (Rds.of_own H4.out.2.2.2).keep ((Chg.refl Nil w4).alloc o) (fun _ _ h => h)))
  go_wp2_with (first
    | (at_builtin; refine wpl_append rfl (.tmp 29) (.tmp 30) 30 rfl w4.heap.size 5 i0 _ 1 1 Try.underlying30 hi hz0 hz1 hz2 rfl (by omega) _ 0 _ rfl (World.ownsRow_made w4 #[] 0 (Nat.le_refl _) (Nat.zero_le _) (by simp)) _ A3 (16 * P.length) k3 _ rfl (HR4.out _) (bv_one _) (by simp only [maxLen]; omega) (by omega) (by simp) ?_; intro v5 w5 o5 g5; rw [Nat.zero_add, List.nil_append] at o5; have H5 := Hid.mk (And.intro o5 (And.intro g5 (H4.out.2.1.trans (((Chg.refl Nil w4).alloc _).trans g5.chg (fun k hk h => by have := own_at h; omega)) (fun _ _ h => h)))); clear o5 g5)
    | (at_builtin; refine wpl_append rfl (.tmp 31) (.tmp 32) 30 rfl w4.heap.size 5 i0 _ 1 1 Try.underlying30 hi hz0 hz1 hz2 rfl (by omega) _ (16 * P.length) _ rfl (H5.out.1.alloc _) _ (some ⟨w5.heap.size, 0, none⟩) 1 1 _ rfl (rds_one w5 (.int .u8 0) _) (by intro u hu; simp at hu; subst hu; rfl) (by simp only [maxLen]; omega) (by omega) (by have := H5.out.2.2.size; have := H5.out.2.1.chg.size; simp at *; omega) ?_; intro v6 w6 o6 g6; have H6 := Hid.mk (And.intro o6 g6); clear o6 g6; obtain ⟨A6, k6, hv6, hk6, hm6⟩ := own_form H6.out.1; subst hv6))
  have hR6 : RdB w6 (Own (.slice A6 (16 * P.length + 1) k6)) A6 (16 * P.length + 1) (ptsB P ++ [0]) := by
    have h := Rds.of_own H6.out.1
    unfold RdB
    simpa [bv] using h
  have c46 : Chg Nil w w6 := (H5.out.2.2.alloc _).trans H6.out.2.chg (fun k hk h => by
    have h1 := own_ge H5.out.1 k h
    have h2 := H4.out.2.1.size
    omega)
  have c4' : Chg Nil w4 w6 := ((((Chg.refl Nil w4).alloc _).trans H5.out.2.1.chg (fun k hk h => by have := own_at h; omega)).alloc _).trans H6.out.2.chg (fun k hk h => by
    have h1 := own_ge H5.out.1 k h
    omega)
  (with_reducible refine (readpts_any A6 k6 (16 * P.length + 1) (ptsB P ++ [0]) _ w6 hR6 hk6 hm6).mono ?_)
  rintro e w7 ⟨h7, c7⟩
  rw [HG.out.2.2.2.2.2.1] at h7
  have h7' : e = .returned (.tuple #[.slice none 0 0, .int .i64 10]) := h7
  subst h7'
  have c47 := c4'.trans c7 (fun _ _ h => h)
  have hP7 := own_keep H4.out.2.2.1 c47 (fun _ _ h => h)
  have hQ7 := own_keep H4.out.1 c47 (fun _ _ h => h)
  have H7 := Hid.mk (And.intro (c46.trans c7 (fun _ _ h => h)) (And.intro hP7 hQ7))
  clear hR6 c46 c4' c7 h7 c47 hP7 hQ7
  go_wp2_with fail
  go_loopw [10] (fun i wr => ∃ k : Nat, 1 ≤ k ∧ (k ≤ P.length ∨ k = 1) ∧ i = .int .i64 (k : Int) ∧ Chg Nil w7 wr) (fun i _ => P.length - (intOf i).toNat)
  case atStart => exact ⟨1, Nat.le_refl _, .inr rfl, rfl, Chg.refl _ _⟩
  case round =>
    obtain ⟨k, hk1, hk, rfl, hch⟩ := hrel
    by_cases hlt : k < P.length
    · obtain ⟨m, rfl⟩ : ∃ m, k = m + 1 := ⟨k - 1, by omega⟩
      obtain ⟨b, off, rfl, _, hat⟩ := RdP.at4 (Rds.of_own H7.out.2.1) (by omega)
      have ho : P[m]? = some (P[m]'(by omega)) := List.getElem?_eq_getElem _
      have ho' : P[m + 1]? = some (P[m + 1]'hlt) := List.getElem?_eq_getElem _
      have hup := HG.out.2.2.1.key_lt (Nat.lt_succ_self m) ho ho'
      generalize P[m]'(by omega) = q at ho hup
      generalize P[m + 1]'hlt = q' at ho' hup
      obtain ⟨qk, qx, qy, qv⟩ := q
      obtain ⟨qk', qx', qy', qv'⟩ := q'
      simp only at hup
      have x0 := fun nq => (hat (wr.drewN nq) (hch.drewN nq) m qk qx qy qv ho).1
      have y0 := fun nq => (hat (wr.drewN nq) (hch.drewN nq) (m + 1) qk' qx' qy' qv' ho').1
      have hdd : decide (qk' ≤ qk) = false := decide_eq_false (by omega)
      have HK := Hid.mk hch
      have hw1 : IntKind.i64.wrap ((m : Int) + 1 - 1) = (m : Int) := by rw [IntKind.wrap_i64]; omega
      clear hch ho ho' hat
      go_wp2_with fail
      go_quiet (fail)
      go_wp2_with fail
      go_roundw
      case rel => exact ⟨m + 1 + 1, by omega, .inl (by omega), by go_num, HK.out.drewN _⟩
      case measure => simp [intOf]; omega
    · have HK := Hid.mk hch
      have hm16 : ((16 * P.length : Nat) : Int) = 16 * (P.length : Int) := by omega
      have hSm := Hid.mk (samePts_any A2 A4 P.length k2 k4 P _ _ wr (Rds.of_own (own_keep H7.out.2.1 hch (fun _ _ h => h))) (Rds.of_own (own_keep H7.out.2.2 hch (fun _ _ h => h))) (by omega))
      clear hch
      go_wp2_with fail
      refine hSm.out.mono ?_
      rintro e w8 ⟨rfl, c8⟩
      have H8 := Hid.mk ((H7.out.1.trans HK.out (fun _ _ h => h)).trans c8 (fun _ _ h => h))
      clear c8
      go_wp2_with fail
      refine (awakeR_any _).mono ?_
      rintro e w9 ⟨rfl, b9⟩
      have H9 := Hid.mk b9
      clear b9
      go_wp2_with fail
      go_ret
      exact ⟨rfl, H8.out.below_nil.trans (H9.out.mono H8.out.size)⟩
end Go.Proofs.Ytmbmfhpdajdpfaa
