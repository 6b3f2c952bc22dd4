/- slices.Delete of one point in a row of the call's own. -/
import Derived.Test.YtmbmfhpdajdpfaaIns
namespace Go.Proofs.Ytmbmfhpdajdpfaa
open Go.RowKit

theorem del_cells (cur xs : List Value) (n i : Nat) (hi : i < n) (hx : cur.take (n * 4) = xs) (hxl : xs.length = n * 4) (vs : List Value) (o : Nat) (ho : o = (i + (n - (i + 1))) * 4) (hfit : n * 4 ≤ cur.length) :
    (splice (splice cur (i * 4) (xs.drop ((i + 1) * 4))) o vs).take ((i + (n - (i + 1))) * 4) = xs.take (i * 4) ++ xs.drop ((i + 1) * 4) := by
  have hd : (xs.drop ((i + 1) * 4)).length = (n - (i + 1)) * 4 := by rw [List.length_drop, hxl]; omega
  have hcl : (splice cur (i * 4) (xs.drop ((i + 1) * 4))).length = cur.length := length_splice _ _ _ (by rw [hd]; omega)
  rw [splice_take _ _ _ _ (by omega) (by rw [hcl, ho]; omega)]
  unfold splice
  rw [← List.append_assoc, List.take_left' (by rw [List.length_append, List.length_take, hd]; omega), ← hx, List.take_take, Nat.min_eq_left (by omega)]
theorem zero_pt : ∀ u ∈ (Builtin.zeroCells (Value.agg #[.int .i64 0, .int .i64 0, .int .i64 0, .int .i64 0]).cells 1).toList, u.oneCell' = true := by
  intro u hu
  have e : (Builtin.zeroCells (Value.agg #[.int .i64 0, .int .i64 0, .int .i64 0, .int .i64 0]).cells 1).toList = [.int .i64 0, .int .i64 0, .int .i64 0, .int .i64 0] := by kernel_rfl
  rw [e] at hu
  simp at hu
  subst hu
  rfl
set_option maxHeartbeats 2000000 in
set_option maxRecDepth 100000 in
theorem delete_any (base : Nat) (g n c i : Nat) (l : List Pt) (w : World) (hown : w.ownsRow base 44 4 (.slice (some ⟨g, 0, none⟩) n c) n (l.flatMap Pt.cs)) (hn : n ≤ 1000000) (hi : i < n) :
    Calls Try.prog 51 #[.slice (some ⟨g, 0, none⟩) n c, .int .i64 (i : Int), .int .i64 ((i : Int) + 1)] w fun e w' => ∃ v', e = .returned v' ∧ w'.ownsRow base 44 4 v' (n - 1) ((l.take i ++ l.drop (i + 1)).flatMap Pt.cs) ∧ Grew w (.slice (some ⟨g, 0, none⟩) n c) w' v' := by
  obtain ⟨m, rfl⟩ : ∃ m, n = m + 1 := ⟨n - 1, by omega⟩
  have hl := RdP.len (Rds.of_own hown)
  have hpl := pts_len l
  rw [hl] at hpl
  obtain ⟨cur, hB, hbg, hnc, hcm, hcl, hct⟩ := Blk.of_own hown
  obtain ⟨i0, hi0, hz0, hz1, hz2⟩ := info_parts Try.infoPt
  have hzv : ∀ W, (zeroValue 44).run Try.prog W = .ok (.agg #[.int .i64 0, .int .i64 0, .int .i64 0, .int .i64 0]) W := fun W => by simp [zeroValue, typeInfo, hi0, hz0]
  have hfn : (l.take i ++ l.drop (i + 1)).flatMap Pt.cs = (l.flatMap Pt.cs).take (i * 4) ++ (l.flatMap Pt.cs).drop ((i + 1) * 4) := by rw [pts_take, pts_drop]; simp
  have hsrc : Rds w (· = g) 4 (cutA 4 (some ⟨g, 0, none⟩) c (i + 1)) (m - i) ((l.flatMap Pt.cs).drop ((i + 1) * 4)) := by
    have h := cutA_rds (k := i + 1) (m := m + 1) ((Rds.of_own hown).wider (T := fun k => k = g) (fun k _ hk => own_at hk) (by omega)) (by omega) (Nat.le_refl _) hnc
    rwa [List.take_of_length_le (by rw [List.length_drop, hpl]; omega), show m + 1 - (i + 1) = m - i by omega] at h
  have hcut := fun W => run_cut_from (P := Try.prog) 59 44 i0 4 Try.underlying59 hi0 hz1 (some ⟨g, 0, none⟩) (m + 1) c (i + 1) .i64 (by omega) W
  rw [show ((i + 1 : Nat) : Int) = (i : Int) + 1 by omega, show m + 1 - (i + 1) = m - i by omega] at hcut
  generalize hCA : cutA 4 (some ⟨g, 0, none⟩) c (i + 1) = CA at *
  clear hCA
  have hb1 : ((i : Int) == (i : Int) + 1) = false := by rw [beq_eq_false_iff_ne]; omega
  have hi2 : ¬ (c = i) := by omega
  have hdl := length_splice cur (i * 4) ((l.flatMap Pt.cs).drop ((i + 1) * 4)) (by rw [List.length_drop, hpl, hcl]; omega)
  have hdel := fun vs => del_cells cur (l.flatMap Pt.cs) (m + 1) i hi hct hpl vs (m * 4) (by omega) (by rw [hcl]; omega)
  rw [show i + (m + 1 - (i + 1)) = m by omega] at hdel
  have HO := Hid.mk (And.intro hB (And.intro hsrc (And.intro hcl (And.intro hcm (And.intro hbg (And.intro hfn (And.intro hct (And.intro hzv (And.intro hpl (And.intro hdl hdel))))))))))
  unfold maxLen at hcm
  clear hB hct hcl hown hbg hfn hsrc hl hzv hpl hdl hdel
  have hin : i ≤ m := by omega
  have hic : i ≤ c := by omega
  have hin3 : (i : Int) + 1 ≤ (m : Int) + 1 := by omega
  have HM := Hid.mk (show i + (m - i) = m by omega)
  have HSr := Hid.mk (show Rds w.drew (fun k => k = g) 4 CA (m - i) ((l.flatMap Pt.cs).drop ((i + 1) * 4)) from HO.out.2.1)
  go_enter Try.func51, Try.ntmps51
  go_wp2_with fail
  go_region_law ((refine step_append_fit rfl (.tmp 22) (.tmp 25) 59 rfl (show Blk w.drew g 44 cur from HO.out.1) 44 4 Try.underlying59 Try.sizePt i c _ CA (m - i) (c - (i + 1)) _ HSr.out (fun u hu => pts_one l u (List.mem_of_mem_drop hu)) (by omega) HO.out.2.2.1 (by simp [Act.eval, Act.put]) (by simp [Act.eval, Act.put]) ?_); intro w1 q1 q2; rw [HM.out]; have H1 := Hid.mk (And.intro q1 q2); clear q1 q2)
  obtain ⟨w2, vs, hrun, hb2, hvl, hc2⟩ := run_clear_blk (P := Try.prog) H1.out.1 59 44 (.agg #[.int .i64 0, .int .i64 0, .int .i64 0, .int .i64 0]) Try.underlying59 HO.out.2.2.2.2.2.2.2.1 (m * 4) 1 (c - m) (by omega) zero_pt (by rw [HO.out.2.2.2.2.2.2.2.2.2.1, HO.out.2.2.1]; simp [Value.cells]; omega)
  have H2 := Hid.mk (And.intro hb2 (And.intro hc2 hvl))
  clear hb2 hc2 hvl
  have hmc : ¬ (c = m) := by omega
  have hn1 : m + 1 - m = 1 := by omega
  go_wp2_with fail
  go_ret
  refine ⟨_, rfl, ?_, ?_⟩
  · rw [HO.out.2.2.2.2.2.1, ← HO.out.2.2.2.2.2.2.2.2.2.2 vs]
    exact H2.out.1.own HO.out.2.2.2.2.1 (by omega) HO.out.2.2.2.1 (by
      rw [length_splice _ _ _ (by rw [H2.out.2.2, HO.out.2.2.2.2.2.2.2.2.2.1, HO.out.2.2.1]; simp [Value.cells]; omega), HO.out.2.2.2.2.2.2.2.2.2.1, HO.out.2.2.1])
  · exact ⟨(((Chg.refl _ w).drew.trans H1.out.2 (fun _ _ h => h)).trans H2.out.2.1 (fun _ _ h => h)).wider (fun k _ hk => by subst hk; rfl), fun k _ hk => hk⟩
end Go.Proofs.Ytmbmfhpdajdpfaa
