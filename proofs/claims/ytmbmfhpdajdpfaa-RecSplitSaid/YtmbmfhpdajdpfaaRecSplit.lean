/- The walk of RecSplit: it returns true, whatever the input. -/
import Derived.Test.YtmbmfhpdajdpfaaRecPoints
import Derived.Deep.RegionWith
namespace Go.Proofs.Ytmbmfhpdajdpfaa
open Go.RowKit

theorem ops_take (l : List Oq) (k : Nat) : (l.flatMap Oq.cs).take (k * 5) = (l.take k).flatMap Oq.cs := by
  induction l generalizing k with
  | nil => simp
  | cons a t ih =>
    cases k with
    | zero => simp
    | succ k =>
      have ha : a.cs.length = 5 := rfl
      rw [List.flatMap_cons, List.take_succ_cons, List.flatMap_cons, ← ih k, List.take_append, ha, List.take_of_length_le (by rw [ha]; omega), show (k + 1) * 5 - 5 = k * 5 by omega]
theorem ops_drop (l : List Oq) (k : Nat) : (l.flatMap Oq.cs).drop (k * 5) = (l.drop k).flatMap Oq.cs := by
  induction l generalizing k with
  | nil => simp
  | cons a t ih =>
    cases k with
    | zero => simp
    | succ k =>
      have ha : a.cs.length = 5 := rfl
      rw [List.flatMap_cons, List.drop_succ_cons, ← ih k, List.drop_append, ha, List.drop_of_length_le (by rw [ha]; omega), show (k + 1) * 5 - 5 = k * 5 by omega, List.nil_append]
theorem RdO.front {w : World} {S : Nat → Prop} {A : Option Addr} {n : Nat} {l : List Oq} (h : RdO w S A n l) {m : Nat} (hm : m ≤ n) : RdO w S A m (l.take m) := by
  have := Rds.front h hm
  rw [ops_take] at this
  exact this
theorem RdO.back {w : World} {S : Nat → Prop} {A : Option Addr} {n c : Nat} {l : List Oq} (h : RdO w S A n l) {m : Nat} (hm : m ≤ n) (hc : n ≤ c) : RdO w S (cutA 5 A c m) (n - m) (l.drop m) := by
  have := cutA_rds h hm (Nat.le_refl n) hc
  rw [ops_drop, List.take_of_length_le (by rw [ops_len, List.length_drop, h.len]; exact Nat.le_refl _)] at this
  exact this

/-- append as a guarded operation whose guard holds. -/
theorem wpl_append_g {P : Program} {w : World} {ops : Array Oper} {rest : List Oper} {o : Oper} {a : Act} {Q : Exit → Act → World → Prop} (hw : Region.wanted o (yielded ops a.tmps) = true) (s x : Operand) (t : TypeId)
    (ho : o.op = .call { callee := .builtin .append, args := #[s, x], argTypes := #[t, t] })
    (base : Nat) (e : TypeId) (i : TypeInfo) (z : Value) (sz bytes : Nat) (ht : P.underlying t = some (.slice e)) (hi : P.info? e = some i) (hz : i.zero = some z)
    (hsize : i.size = sz) (hby : i.bytes = bytes) (hzs : z.cells.size = sz) (hsz : 0 < sz)
    (v : Value) (n : Nat) (xs : List Value) (hs : a.eval s = v) (hown : w.ownsRow base e sz v n xs)
    (S : Nat → Prop) (A : Option Addr) (m c : Nat) (news : List Value) (hx : a.eval x = .slice A m c) (hr : Rds w S sz A m news) (h1 : ∀ u ∈ news, u.oneCell' = true)
    (h63 : n + m ≤ maxLen) (hbytes : (n + m) * bytes ≤ 140737488355328) (hbase : base ≤ w.heap.size)
    (h : ∀ v' w', w'.ownsRow base e sz v' (n + m) (xs ++ news) → Grew w v w' v' → wpList P ops Q rest (a.put o.dst v') w') : wpList P ops Q (o :: rest) a w := by
  unfold wpList
  rw [if_pos hw]
  exact .inl (wp_append_rds s x t ho base e i z sz bytes ht hi hz hsize hby hzs hsz v n xs hs hown S A m c news hx hr h1 h63 hbytes hbase h)

set_option maxHeartbeats 8000000 in
set_option maxRecDepth 100000 in
theorem recSplit_walk (A B : Option Addr) (n c m mc : Nat) (a l : List Oq) (S T : Nat → Prop) (at_ : Int) (w : World) (hr : RdO w S A n a) (hr2 : RdO w T B m l) :
    Calls Try.prog 8 #[.slice A n c, .slice B m mc, .int .i64 at_] w fun e w' => e = .returned (.bool true) ∧ Below w.heap.size w w' := by
  by_cases hf : n ≤ 100
  rotate_left
  · have hd : decide ((n : Int) ≤ 100) = false := decide_eq_false (by omega)
    clear hr hr2
    go_enter Try.func8, Try.ntmps8
    go_wp2_with fail
    refine (few_any A n c w).mono ?_
    rintro e w1 ⟨he, hw⟩
    have hw' := hw.symm
    subst hw'
    clear hw
    rw [hd] at he
    subst he
    go_wp2_with fail
    refine (awakeR_any _).mono ?_
    rintro e w2 ⟨rfl, hb⟩
    have HB := Hid.mk hb
    clear hb
    go_wp2_with fail
    go_ret
    exact ⟨rfl, HB.out⟩
  have hd : decide ((n : Int) ≤ 100) = true := decide_eq_true (by omega)
  by_cases hf2 : m ≤ 100
  rotate_left
  · have hd2 : decide ((m : Int) ≤ 100) = false := decide_eq_false (by omega)
    clear hr hr2
    go_enter Try.func8, Try.ntmps8
    go_wp2_with fail
    refine (few_any A n c w).mono ?_
    rintro e w1 ⟨he, hw⟩
    have hw' := hw.symm
    subst hw'
    clear hw
    rw [hd] at he
    subst he
    go_wp2_with fail
    refine (few_any B m mc w).mono ?_
    rintro e w1 ⟨he, hw⟩
    have hw' := hw.symm
    subst hw'
    clear hw
    rw [hd2] at he
    subst he
    go_wp2_with fail
    refine (awakeR_any _).mono ?_
    rintro e w2 ⟨rfl, hb⟩
    have HB := Hid.mk hb
    clear hb
    go_wp2_with fail
    go_ret
    exact ⟨rfl, HB.out⟩
  have hd2 : decide ((m : Int) ≤ 100) = true := decide_eq_true (by omega)
  obtain ⟨i0, hi, hz0, hz1, hz2⟩ := info_parts Try.infoOp5
  have hgl := goodL_len a
  have hgl2 := goodL_len l
  rw [hr.len] at hgl
  rw [hr2.len] at hgl2
  have hk1 : ∀ o ∈ goodL a ++ goodL l, o.kind = 1 ∨ o.kind = 2 := fun o ho => by
    rcases List.mem_append.1 ho with h | h
    · exact ok_kinds (goodL_oks a o h)
    · exact ok_kinds (goodL_oks l o h)
  have hGa := fun W (hW : Chg Nil w W) => good_any A n c a S W (hr.keep hW (fun _ _ h => h)) hf
  have hGl := fun W (hW : Chg Nil w W) => good_any B m mc l T W (hr2.keep hW (fun _ _ h => h)) hf2
  generalize goodL a = Ga at *
  generalize goodL l = G at *
  have HG := Hid.mk (And.intro hGa (And.intro hGl hk1))
  clear hGa hGl hr hr2 hk1
  go_enter Try.func8, Try.ntmps8
  go_wp2_with fail
  refine (few_any A n c w).mono ?_
  rintro e w1 ⟨he, hw⟩
  have hw' := hw.symm
  subst hw'
  clear hw
  rw [hd] at he
  subst he
  go_wp2_with fail
  refine (few_any B m mc w).mono ?_
  rintro e w1 ⟨he, hw⟩
  have hw' := hw.symm
  subst hw'
  clear hw
  rw [hd2] at he
  subst he
  go_wp2_with fail
  refine (HG.out.1 w (Chg.refl _ _)).mono ?_
  rintro e w1 ⟨v1, rfl, o1, c1⟩
  obtain ⟨A1, k1, rfl, _, _⟩ := own_form o1
  have H1 := Hid.mk (And.intro o1 c1)
  clear o1 c1
  go_wp2_with fail
  refine (apply_any none A1 0 0 Ga.length k1 [] Ga (fun _ => False) _ w1 (rdp_nil w1 _) (Rds.of_own H1.out.1) (by omega) (by omega) up_nil).mono ?_
  rintro e w2 ⟨v2, rfl, o2, c2⟩
  have hPl := do_len Ga [] up_nil
  have hPu := do_up Ga [] up_nil
  simp only [List.length_nil, Nat.zero_add] at hPl
  have hPe : ∀ q, doP [] (Ga ++ q) = doP (doP [] Ga) q := fun q => doP_app _ _ _
  generalize doP [] Ga = P at *
  obtain ⟨A2, k2, rfl, _, _⟩ := own_form o2
  have H2 := Hid.mk (And.intro o2 (And.intro (H1.out.2.trans c2 (fun _ _ h => h)) (And.intro hPu hPe)))
  clear o2 c2 hPu hPe
  go_wp2_with fail
  refine (HG.out.2.1 w2 H2.out.2.1).mono ?_
  rintro e w3 ⟨v3, rfl, o3, c3⟩
  obtain ⟨A3, k3, rfl, hk3, hm3⟩ := own_form o3
  have H3 := Hid.mk (And.intro o3 (And.intro (H2.out.2.1.trans c3 (fun _ _ h => h)) (own_keep H2.out.1 c3 (fun _ _ h => h))))
  clear o3 c3
  have hand := i64_and_65535 at_
  obtain ⟨D, hD⟩ : ∃ D : Nat, (at_ % 65536).toNat = D := ⟨_, rfl⟩
  rw [hD] at hand
  obtain ⟨ix, hix⟩ : ∃ ix : Nat, D % (G.length + 1) = ix := ⟨_, rfl⟩
  have hixl : ix < G.length + 1 := by rw [← hix]; exact Nat.mod_lt _ (by omega)
  have hixi : (D : Int) % ((G.length : Int) + 1) = (ix : Int) := by rw [← hix]; simp
  clear hD hix
  go_wp2_with fail
  rw [hixi]
  have hcut := fun W => run_cut_from (P := Try.prog) 42 46 i0 5 Try.underlying42 hi hz1 A3 G.length k3 ix .i64 (by omega) W
  have hik : ix ≤ k3 := by omega
  have hiz : (0 : Int) ≤ (ix : Int) := by omega
  have hiz2 : (ix : Int) ≤ (k3 : Int) := by omega
  have hA1 := Hid.mk (fun W (hW : Chg Nil w3 W) => apply_any A2 A3 P.length k2 ix k3 P (G.take ix) _ _ W (Rds.of_own (own_keep H3.out.2.2 hW (fun _ _ h => h))) ((show RdO W _ A3 G.length G from Rds.of_own (own_keep H3.out.1 hW (fun _ _ h => h))).front (by omega)) (by omega) (by omega) H2.out.2.2.1)
  have hXl := do_len (G.take ix) P H2.out.2.2.1
  have hXu := do_up (G.take ix) P H2.out.2.2.1
  have hXe : doP (doP P (G.take ix)) (G.drop ix) = doP P G := by rw [← doP_app, List.take_append_drop]
  rw [List.length_take] at hXl
  generalize doP P (G.take ix) = X at *
  have hA2 := Hid.mk (fun W AX kx (hW : Chg Nil w3 W) (ho : W.ownsRow w3.heap.size 44 4 (.slice AX X.length kx) X.length (X.flatMap Pt.cs)) => apply_any AX (cutA 5 A3 k3 ix) X.length kx (G.length - ix) (k3 - ix) X (G.drop ix) _ _ W (Rds.of_own ho) ((show RdO W _ A3 G.length G from Rds.of_own (own_keep H3.out.1 hW (fun _ _ h => h))).back (by omega) hk3) (by omega) (by omega) hXu)
  rw [hXe] at hA2
  generalize cutA 5 A3 k3 ix = CA at *
  clear hXu hXe
  go_region_with (first
    | ((with_reducible refine (hA1.out _ ((Chg.refl Nil w3).drew)).mono ?_); rintro e w4 ⟨v4, rfl, o4, c4⟩; obtain ⟨A4, k4, rfl, _, _⟩ := own_form o4; have H4 := Hid.mk (show w4.ownsRow w3.heap.size 44 4 (.slice A4 X.length k4) X.length (X.flatMap Pt.cs) ∧ Chg Nil w3 w4 from And.intro o4 (((Chg.refl Nil w3).drew).trans c4 (fun _ _ h => h))); clear o4 c4)
    | ((with_reducible refine (hA2.out _ A4 k4 H4.out.2 H4.out.1).mono ?_); rintro e w5 ⟨v5, rfl, o5, c5⟩; have H5 := Hid.mk (And.intro o5 c5); clear o5 c5))
  have hYl := do_len G P H2.out.2.2.1
  have hP2 := H2.out.2.2.2 G
  have hAp := fun W hW => apply_any A2 A3 P.length k2 G.length k3 P G _ _ W (Rds.of_own (own_keep (S := Nil) H3.out.2.2 hW (fun _ _ h => h))) (show RdO W _ A3 G.length G from Rds.of_own (own_keep H3.out.1 hW (fun _ _ h => h))) (by omega) (by omega) H2.out.2.2.1
  generalize doP P G = Y at *
  obtain ⟨A5, k5, hv5, _, _⟩ := own_form H5.out.1
  subst hv5
  have c35 := H4.out.2.trans H5.out.2 (fun _ _ h => h)
  have HA := Hid.mk (And.intro hAp (And.intro c35 hP2))
  clear hAp c35 hP2
  go_wp2_with fail
  refine (HA.out.1 w5 HA.out.2.1).mono ?_
  rintro e w6 ⟨v6, rfl, o6, c6⟩
  obtain ⟨A6, k6, rfl, _, _⟩ := own_form o6
  have hx6 := own_keep H5.out.1 c6 (fun _ _ h => h)
  have H6 := Hid.mk (And.intro o6 (And.intro hx6 (HA.out.2.1.trans c6 (fun _ _ h => h))))
  clear o6 c6 hx6
  go_wp2_with fail
  refine (samePts_any A5 A6 Y.length k5 k6 Y _ _ w6 (Rds.of_own H6.out.2.1) (Rds.of_own H6.out.1) (by omega)).mono ?_
  rintro e w7 ⟨rfl, c7⟩
  have c07 : Chg Nil w w7 := (H3.out.2.1.trans H6.out.2.2 (fun _ _ h => h)).trans c7 (fun _ _ h => h)
  have c37 := H6.out.2.2.trans c7 (fun _ _ h => h)
  have H7 := Hid.mk (And.intro c07 (And.intro c37 (own_keep H6.out.2.1 c7 (fun _ _ h => h))))
  clear c7 c07 c37
  go_wp2_with fail
  refine (HG.out.1 w7 H7.out.1).mono ?_
  rintro e w8 ⟨v8, rfl, o8, c8⟩
  obtain ⟨A8, k8, rfl, _, _⟩ := own_form o8
  have hG8 := own_keep H3.out.1 (H7.out.2.1.trans c8 (fun _ _ h => h)) (fun _ _ h => h)
  have hx8 := own_keep H7.out.2.2 c8 (fun _ _ h => h)
  have H8 := Hid.mk (And.intro o8 (And.intro (H7.out.1.trans c8 (fun _ _ h => h)) (And.intro (show Rds w8 (Own (.slice A3 G.length k3)) 5 A3 G.length (G.flatMap Oq.cs) from Rds.of_own hG8) (And.intro hx8 c8))))
  clear o8 c8 hG8 hx8
  go_wp2_with (at_builtin; refine wpl_append_g rfl (.tmp 48) (.tmp 49) 42 rfl w7.heap.size 46 i0 _ 5 40 Try.underlying42 hi hz0 hz1 hz2 rfl (by omega) _ Ga.length _ rfl H8.out.1 _ A3 G.length k3 _ rfl H8.out.2.2.1 (ops_one _) (by simp only [maxLen]; omega) (by omega) H8.out.2.2.2.2.size ?_; intro v9 w9 o9 g9; have H9 := Hid.mk (And.intro o9 g9); clear o9 g9)
  obtain ⟨A9, k9, hv9, _, _⟩ := own_form H9.out.1
  subst hv9
  have hr9 : RdO w9 (Own (.slice A9 (Ga.length + G.length) k9)) A9 (Ga.length + G.length) (Ga ++ G) := by
    have h := Rds.of_own H9.out.1
    unfold RdO
    rw [List.flatMap_append]
    exact h
  have c79 : Chg Nil w7 w9 := H8.out.2.2.2.2.trans H9.out.2.chg (fun j hj h => by have := own_ge H8.out.1 j h; omega)
  have hx9 := own_keep H7.out.2.2 c79 (fun _ _ h => h)
  refine (rapply_any none A9 0 0 (Ga.length + G.length) k9 [] (Ga ++ G) (fun _ => False) _ w9 (rdp_nil w9 _) hr9 (by omega) (by omega) up_nil HG.out.2.2).mono ?_
  rintro e w10 ⟨v10, rfl, o10, c10⟩
  rw [HA.out.2.2] at o10
  obtain ⟨A10, k10, rfl, _, _⟩ := own_form o10
  have H10 := Hid.mk (And.intro o10 (And.intro (own_keep hx9 c10 (fun _ _ h => h)) ((H7.out.1.trans c79 (fun _ _ h => h)).trans c10 (fun _ _ h => h))))
  clear o10 c10 hr9 c79 hx9
  go_wp2_with fail
  refine (samePts_any A5 A10 Y.length k5 k10 Y _ _ w10 (Rds.of_own H10.out.2.1) (Rds.of_own H10.out.1) (by omega)).mono ?_
  rintro e w11 ⟨rfl, c11⟩
  have H11 := Hid.mk (H10.out.2.2.trans c11 (fun _ _ h => h))
  clear c11
  go_wp2_with fail
  refine (awakeR_any _).mono ?_
  rintro e w12 ⟨rfl, b12⟩
  have H12 := Hid.mk b12
  clear b12
  go_wp2_with fail
  go_ret
  exact ⟨rfl, H11.out.below_nil.trans (H12.out.mono H11.out.size)⟩
end Go.Proofs.Ytmbmfhpdajdpfaa
