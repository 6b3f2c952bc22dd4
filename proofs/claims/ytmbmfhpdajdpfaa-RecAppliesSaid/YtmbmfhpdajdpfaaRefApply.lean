/- The document's Apply: ops done on points that rise. -/
import Derived.Test.YtmbmfhpdajdpfaaApply
namespace Go.Proofs.Ytmbmfhpdajdpfaa
open Go.RowKit

theorem own_some {w : World} {base : Nat} {e : TypeId} {sz n : Nat} {v : Value} {xs : List Value} (h : w.ownsRow base e sz v (n + 1) xs) : ∃ g c, v = .slice (some ⟨g, 0, none⟩) (n + 1) c := by
  rcases h.2 with ⟨_, h0⟩ | ⟨g, cap, cur, h1, _⟩
  · cases h0
  · exact ⟨g, cap, h1⟩
theorem cut_some (g c k N : Nat) (hN : c * 4 ≤ N) (hk : k ≤ c) : ∃ o, cutA 4 (some ⟨g, 0, none⟩) c k = some ⟨g, o, none⟩ ∧ (k < c → o = k * 4) ∧ o ≤ N := by
  unfold cutA
  by_cases h : c = k
  · exact ⟨0, by rw [if_pos h], fun h' => by omega, Nat.zero_le _⟩
  · refine ⟨k * 4, ?_, fun _ => rfl, by omega⟩
    rw [if_neg h]
    simp only [Option.map_some, Addr.add]
    split
    · next h0 => rw [h0]
    · simp
set_option maxHeartbeats 4000000 in
set_option maxRecDepth 100000 in
theorem rapply_any (A B : Option Addr) (n c m mc : Nat) (l : List Pt) (ops : List Oq) (S T : Nat → Prop) (w : World) (hr : RdP w S A n l) (ho : RdO w T B m ops) (hn : n ≤ 400000) (hm : m ≤ 400000) (hup : Up l) (hk12 : ∀ o ∈ ops, o.kind = 1 ∨ o.kind = 2) :
    Calls Try.prog 29 #[.slice A n c, .slice B m mc] w fun e w' => ∃ v', e = .returned v' ∧ w'.ownsRow w.heap.size 44 4 v' (doP l ops).length ((doP l ops).flatMap Pt.cs) ∧ Chg Nil w w' := by
  obtain ⟨i0, hi, hz0, hz1, hz2⟩ := info_parts Try.infoPt
  have hl := hr.len
  have hol := ho.len
  have hr1 : ∀ o, Rds (w.alloc o) (fun k => S k ∧ k < w.heap.size) 4 A n (l.flatMap Pt.cs) := fun o => (Rds.here hr (by omega)).keep ((Chg.refl Nil w).alloc o) (fun _ _ h => h)
  have HR := Hid.mk hr1
  have HO := Hid.mk (And.intro ho (And.intro hup (And.intro hl hk12)))
  clear hr ho hup hr1 hk12 hl
  go_enter Try.func29, Try.ntmps29
  go_wp2_with (at_builtin; refine wpl_append rfl (.tmp 12) (.tmp 13) 59 rfl w.heap.size 44 i0 _ 4 32 Try.underlying59 hi hz0 hz1 hz2 rfl (by omega) _ _ _ rfl (World.ownsRow_made w #[] 0 (Nat.le_refl _) (Nat.zero_le _) (by simp)) _ A n c _ rfl (HR.out _) (pts_one _) (by simp only [maxLen]; omega) (by omega) (by simp) ?_; intro v0 w0 o0 g0; have H0 := Hid.mk (And.intro o0 g0); clear o0 g0)
  go_loopw [5, 6] (fun out i wr => ∃ k : Nat, k ≤ m ∧ i = .int .i64 (k : Int) ∧ wr.ownsRow w.heap.size 44 4 out (doP l (ops.take k)).length ((doP l (ops.take k)).flatMap Pt.cs) ∧ Chg Nil w wr) (fun _ i _ => m - (intOf i).toNat)
  case atStart =>
    refine ⟨0, Nat.zero_le _, rfl, by rw [List.take_zero, doP_nil, HO.out.2.2.1]; simpa using H0.out.1, ?_⟩
    exact ((Chg.refl Nil w).alloc _).trans H0.out.2.chg (fun k hk h => by have := own_at h; omega)
  case round =>
    obtain ⟨k, hk, rfl, hown, hch⟩ := hrel
    by_cases hlt : k < m
    · obtain ⟨b, off, rfl, _, hat⟩ := HO.out.1.at5 (by omega)
      have hq : ops[k]? = some (ops[k]'(by omega)) := List.getElem?_eq_getElem _
      have hkk := HO.out.2.2.2 (ops[k]'(by omega)) (List.getElem_mem _)
      generalize ops[k]'(by omega) = o at hq hkk
      have hstep := doP_take l ops k o hq
      have hXl : (doP l (ops.take k)).length ≤ n + m := by
        have := do_len (ops.take k) l HO.out.2.1
        rw [List.length_take] at this
        have := HO.out.2.2.1
        omega
      have hXu := do_up (ops.take k) l HO.out.2.1
      generalize doP l (ops.take k) = X at *
      obtain ⟨kd, ky, x, y, v⟩ := o
      simp only at hkk
      obtain ⟨G, gc, rfl, hgc, hgm⟩ := own_form hown
      obtain ⟨x0, x1, x2, x3, x4⟩ := hat wr hch k kd ky x y v hq
      have hA : Chg Nil wr (wr.alloc (.cells #[.int .i64 ky, .int .i64 x, .int .i64 y, .int .i64 v] 44)) := (Chg.refl _ _).alloc _
      have hbk := Bk.new wr 44 #[.int .i64 ky, .int .i64 x, .int .i64 y, .int .i64 v]
      have HK := Hid.mk (And.intro hown (And.intro hch (And.intro hstep (And.intro hq (And.intro hXu (And.intro hat (And.intro hA hbk)))))))
      clear hown hch hstep hq hXu hat hA hbk
      obtain ⟨wo, hwo⟩ : ∃ wo, wo = wr := ⟨_, rfl⟩
      subst hwo
      have hgm' := hgm
      unfold maxLen at hgm'
      go_wp2_with fail
      go_loopw [8, 9] (fun i j wi => ∃ lo hi : Nat, lo ≤ hi ∧ hi ≤ X.length ∧ i = .int .i64 (lo : Int) ∧ j = .int .i64 (hi : Int) ∧ Chg Nil (wo.alloc (.cells #[.int .i64 ky, .int .i64 x, .int .i64 y, .int .i64 v] 44)) wi ∧ Hid ((∀ (t : Nat) (p : Pt), t < lo → X[t]? = some p → p.key < ky) ∧ (∀ (t : Nat) (p : Pt), hi ≤ t → X[t]? = some p → ky ≤ p.key))) (fun i j _ => (intOf j).toNat - (intOf i).toNat)
      case atStart => exact ⟨0, X.length, Nat.zero_le _, Nat.le_refl _, rfl, rfl, Chg.refl _ _, Hid.mk ⟨fun t p ht => by omega, fun t p ht hp => by
        have := (List.getElem?_eq_some_iff.1 hp).1
        omega⟩⟩
      case round =>
        obtain ⟨lo, hi, hlh, hhn, rfl, rfl, hci, HI⟩ := hrel
        have hbi := HK.out.2.2.2.2.2.2.2.keep hci (fun h => h)
        have hcw := HK.out.2.2.2.2.2.2.1.trans hci (fun _ _ h => h)
        have HW := Hid.mk (And.intro hci (And.intro hcw hbi))
        have y0 := fun nq => (hbi.drewN nq).cell 0 rfl
        clear hci hcw hbi
        clear x0 x1 x2 x3 x4
        by_cases hlh' : lo < hi
        · obtain ⟨g, goff, rfl, _, hXat⟩ := RdP.at4 (Rds.of_own HK.out.1) (by omega)
          obtain ⟨md, hmd⟩ : ∃ md : Nat, (lo + hi) / 2 = md := ⟨_, rfl⟩
          have hmi : ((lo : Int) + (hi : Int)) / 2 = (md : Int) := by omega
          have hm1 : lo ≤ md := by omega
          have hm2 : md < hi := by omega
          have hm3 : md < X.length := by omega
          clear hmd
          have ho : X[md]? = some (X[md]'hm3) := List.getElem?_eq_getElem _
          generalize X[md]'hm3 = q at ho
          obtain ⟨qk, qx, qy, qv⟩ := q
          have c0 := fun nq => (hXat (wr.drewN nq) (HW.out.2.1.drewN nq) _ qk qx qy qv ho).1
          have HQ := Hid.mk ho
          clear ho hXat
          by_cases hqk : qk < ky
          · go_wp2_with fail
            go_quiet (fail)
            go_wp2_with fail
            go_roundw
            case rel =>
              refine ⟨md + 1, hi, by omega, hhn, by go_num, rfl, HW.out.1.drewN _, Hid.mk ⟨fun t p ht hp => ?_, HI.out.2⟩⟩
              rcases Nat.lt_or_ge t md with h | h
              · have := HK.out.2.2.2.2.1.key_lt h hp HQ.out
                have : p.key < qk := this
                omega
              · obtain rfl : t = md := by omega
                rw [HQ.out] at hp
                rw [← Option.some.inj hp]
                exact hqk
            case measure => simp [intOf]; omega
          · go_wp2_with fail
            go_quiet (fail)
            go_wp2_with fail
            go_roundw
            case rel =>
              refine ⟨lo, md, by omega, by omega, rfl, by go_num, HW.out.1.drewN _, Hid.mk ⟨HI.out.1, fun t p ht hp => ?_⟩⟩
              rcases Nat.lt_or_ge md t with h | h
              · have := HK.out.2.2.2.2.1.key_lt h HQ.out hp
                have : qk < p.key := this
                omega
              · obtain rfl : t = md := by omega
                rw [HQ.out] at hp
                rw [← Option.some.inj hp]
                show ky ≤ qk
                omega
            case measure => simp [intOf]; omega
        · obtain rfl : lo = hi := by omega
          have hpos : posP X ky = lo := posP_eq hhn (fun t p ht hp => HI.out.1 t p ht hp) (fun p hp => HI.out.2 lo p (Nat.le_refl _) hp)
          have x0 := fun nq => (HK.out.2.2.2.2.2.1 (wr.drewN nq) ((HK.out.2.1.trans HW.out.2.1 (fun _ _ h => h)).drewN nq) k kd ky x y v HK.out.2.2.2.1).1
          have y1 := fun nq => (HW.out.2.2.drewN nq).cell 1 rfl
          have y2 := fun nq => (HW.out.2.2.drewN nq).cell 2 rfl
          have y3 := fun nq => (HW.out.2.2.drewN nq).cell 3 rfl
          have hst := HK.out.2.2.1
          have hown := own_keep HK.out.1 HW.out.2.1 (fun _ _ h => h)
          cases hh : hasP X ky with
          | true =>
            have hlt2 := hasP_lt hh
            rw [hpos] at hlt2
            have hdd : decide (lo < X.length) = true := decide_eq_true hlt2
            have hform : ∃ g, G = some ⟨g, 0, none⟩ := by
              rcases hown.2 with ⟨_, h0⟩ | ⟨g, cap, cur, h1, _⟩
              · omega
              · injection h1 with h1
                exact ⟨g, h1⟩
            obtain ⟨g, rfl⟩ := hform
            obtain ⟨cur, hB, hbg, _, _, hcl, hct⟩ := Blk.of_own hown
            have ho : X[lo]? = some (X[lo]'hlt2) := List.getElem?_eq_getElem _
            have hqk : (X[lo]'hlt2).key = ky := by
              unfold hasP at hh
              rw [hpos, ho] at hh
              simpa using hh
            obtain ⟨g', goff, hg', _, hXat⟩ := RdP.at4 (Rds.of_own HK.out.1) (by omega)
            injection hg' with hg'
            injection hg' with hg1 hg2
            subst hg1 hg2
            generalize X[lo]'hlt2 = q at ho hqk
            obtain ⟨qk, qx, qy, qv⟩ := q
            simp only at hqk
            subst hqk
            have c0 := fun nq => (hXat (wr.drewN nq) (HW.out.2.1.drewN nq) _ qk qx qy qv ho).1
            have c1 := fun nq => (hXat (wr.drewN nq) (HW.out.2.1.drewN nq) _ qk qx qy qv ho).2.1
            have c2 := fun nq => (hXat (wr.drewN nq) (HW.out.2.1.drewN nq) _ qk qx qy qv ho).2.2.1
            have c3 := fun nq => (hXat (wr.drewN nq) (HW.out.2.1.drewN nq) _ qk qx qy qv ho).2.2.2
            simp only [Nat.zero_add] at c0 c1 c2 c3
            rcases hkk with h1 | h1
            · subst h1
              have HS := Hid.mk (And.intro hst (step_put (l := X) (o := ⟨1, ⟨qk, x, y, v⟩⟩) rfl hh))
              simp only [hpos] at HS
              have f0 := fun nq j => (show Blk (wr.drewN nq) g 44 cur from hB).free j
              have HB := Hid.mk (And.intro hB (And.intro hbg (And.intro hcl hct)))
              clear hh hB hbg hcl hct hst hown hXat ho hpos
              go_wp2_with fail
              go_quiet (fail)
              go_wp2_with fail
              go_roundw
              case rel =>
                have h2 := ((((HB.out.1.set (lo * 4) (.int .i64 qk)).set (lo * 4 + 1) (.int .i64 x)).set (lo * 4 + 2) (.int .i64 y)).set (lo * 4 + 3) (.int .i64 v))
                rw [set4 _ _ _ _ _ _ (by rw [HB.out.2.2.1]; omega)] at h2
                have hput := put_cells cur X lo ⟨qk, x, y, v⟩ hlt2 HB.out.2.2.2 (by rw [HB.out.2.2.1]; omega)
                refine ⟨k + 1, by omega, by go_num, ?_, ?_⟩
                · rw [HS.out.1, HS.out.2, ← hput]
                  rw [show (X.take lo ++ (⟨qk, x, y, v⟩ : Pt) :: X.drop (lo + 1)).length = X.length by simp; omega]
                  have h3 := h2.own (base := w.heap.size) (n := X.length) HB.out.2.1 hgc hgm (by rw [length_splice _ _ _ (by rw [HB.out.2.2.1]; simp; omega), HB.out.2.2.1])
                  exact h3
                · have hg := HB.out.2.1
                  have hcw := (HK.out.2.1.trans HW.out.2.1 (fun _ _ h => h))
                  refine (((((hcw.drewN _).setCell (p := ⟨g, _, none⟩) (fun h => ?_) _).setCell (p := ⟨g, _, none⟩) (fun h => ?_) _).setCell (p := ⟨g, _, none⟩) (fun h => ?_) _).setCell (p := ⟨g, _, none⟩) (fun h => ?_) _) <;> exact absurd h (by simp only; omega)
              case measure => simp [intOf]; omega
            · subst h1
              have HS := Hid.mk (And.intro hst (step_del (l := X) (o := ⟨2, ⟨qk, x, y, v⟩⟩) rfl hh))
              simp only [hpos] at HS
              have hpl := pts_len X
              have hcut := fun W => run_cut_from (P := Try.prog) 59 44 i0 4 Try.underlying59 hi hz1 (some ⟨g, 0, none⟩) X.length gc (lo + 1) .i64 (by omega) W
              rw [show ((lo + 1 : Nat) : Int) = (lo : Int) + 1 by omega] at hcut
              have hsrc : Rds wr (· = g) 4 (cutA 4 (some ⟨g, 0, none⟩) gc (lo + 1)) (X.length - (lo + 1)) ((X.flatMap Pt.cs).drop ((lo + 1) * 4)) := by
                have h := cutA_rds (k := lo + 1) (m := X.length) ((Rds.of_own hown).wider (T := fun k => k = g) (fun k _ hk => own_at hk) (by omega)) (by omega) (Nat.le_refl _) hgc
                rwa [List.take_of_length_le (by rw [List.length_drop, hpl]; omega)] at h
              generalize hCA : cutA 4 (some ⟨g, 0, none⟩) gc (lo + 1) = CA at *
              have hdel := del_cells cur (X.flatMap Pt.cs) X.length lo hlt2 hct hpl [] ((lo + (X.length - (lo + 1))) * 4) rfl (by rw [hcl]; omega)
              have hfn : (X.take lo ++ X.drop (lo + 1)).flatMap Pt.cs = (X.flatMap Pt.cs).take (lo * 4) ++ (X.flatMap Pt.cs).drop ((lo + 1) * 4) := by rw [pts_take, pts_drop]; simp
              have hdl := length_splice cur (lo * 4) ((X.flatMap Pt.cs).drop ((lo + 1) * 4)) (by rw [List.length_drop, hpl, hcl]; omega)
              have HB := Hid.mk (And.intro hB (And.intro hbg (And.intro hcl (And.intro hsrc (And.intro hdel (And.intro hfn hdl))))))
              clear hh hB hbg hcl hct hst hown hXat ho hpos hpl hsrc hCA hdel hfn hdl
              have hic : lo ≤ gc := by omega
              go_wp2_with fail
              go_quiet (fail)
              go_wp2_with fail
              have hw1 : IntKind.i64.wrap ((lo : Int) + 1) = (lo : Int) + 1 := by rw [IntKind.wrap_i64]; omega
              have hb1 : (0 : Int) ≤ (lo : Int) + 1 := by omega
              have htn : ((lo : Int) + 1).toNat = lo + 1 := by omega
              have HSr := Hid.mk (fun nq => (show Rds (wr.drewN nq).drew (fun k => k = g) 4 CA (X.length - (lo + 1)) ((X.flatMap Pt.cs).drop ((lo + 1) * 4)) from HB.out.2.2.2.1))
              have HBd := Hid.mk (fun nq => (show Blk (wr.drewN nq).drew g 44 cur from HB.out.1))
              go_region_law ((refine step_append_fit rfl (.tmp 101) (.tmp 105) 59 rfl (HBd.out _) 44 4 Try.underlying59 Try.sizePt lo gc _ CA (X.length - (lo + 1)) (gc - (lo + 1)) _ (HSr.out _) (fun u hu => pts_one X u (List.mem_of_mem_drop hu)) (by omega) HB.out.2.2.1 (by simp [Act.eval, Act.put]) (by simp [Act.eval, Act.put]) ?_); intro w1 q1 q2; have H1 := Hid.mk (And.intro q1 q2); clear q1 q2)
              go_wp2_with fail
              go_roundw
              case rel =>
                have h2 := HB.out.2.2.2.2.1
                rw [show splice (splice cur (lo * 4) ((X.flatMap Pt.cs).drop ((lo + 1) * 4))) ((lo + (X.length - (lo + 1))) * 4) [] = splice cur (lo * 4) ((X.flatMap Pt.cs).drop ((lo + 1) * 4)) by simp [splice]] at h2
                refine ⟨k + 1, by omega, by go_num, ?_, ?_⟩
                · rw [HS.out.1, HS.out.2, HB.out.2.2.2.2.2.1, ← h2, show (X.take lo ++ X.drop (lo + 1)).length = lo + (X.length - (lo + 1)) by simp; omega]
                  exact H1.out.1.own HB.out.2.1 (by omega) hgm (by rw [HB.out.2.2.2.2.2.2, HB.out.2.2.1])
                · have hg := HB.out.2.1
                  exact ((HK.out.2.1.trans HW.out.2.1 (fun _ _ h => h)).drewN _).drew.trans H1.out.2 (fun j hj h => by have h' : j = g := h; omega)
              case measure => simp [intOf]; omega
          | false =>
            have hnl : ∀ q : Pt, X[lo]? = some q → q.key ≠ ky := fun q hq he => by
              unfold hasP at hh
              rw [hpos, hq] at hh
              simp [he] at hh
            by_cases hX0 : lo < X.length
            focus
              have hdd : decide (lo < X.length) = true := decide_eq_true hX0
              obtain ⟨g', goff, hg', _, hXat⟩ := RdP.at4 (Rds.of_own HK.out.1) (by omega)
              subst hg'
              have ho : X[lo]? = some (X[lo]'hX0) := List.getElem?_eq_getElem _
              have hqk := hnl _ ho
              generalize X[lo]'hX0 = q at ho hqk
              obtain ⟨qk, qx, qy, qv⟩ := q
              simp only at hqk
              have c0 := fun nq => (hXat (wr.drewN nq) (HW.out.2.1.drewN nq) _ qk qx qy qv ho).1
              have hqb : ((qk : Int) == ky) = false := by rw [beq_eq_false_iff_ne]; exact hqk
              have HN := Hid.mk (And.intro hh (And.intro hpos (And.intro hst hown)))
              clear hh hpos hst hown hXat ho hqk hnl
              go_wp2_with fail
              go_quiet (fail)
              clear c0
            rotate_left
            focus
              have hdd : decide (lo < X.length) = false := decide_eq_false hX0
              have HN := Hid.mk (And.intro hh (And.intro hpos (And.intro hst hown)))
              clear hh hpos hst hown hnl
              go_wp2_with fail
              go_quiet (fail)
            all_goals
              rcases hkk with h1 | h1
              · subst h1
                have HS := Hid.mk (And.intro HN.out.2.2.1 (step_ins (l := X) (o := ⟨1, ⟨ky, x, y, v⟩⟩) rfl HN.out.1))
                simp only [HN.out.2.1] at HS
                go_wp2_with (at_builtin; refine wpl_append rfl (.tmp 81) (.tmp 83) 59 rfl w.heap.size 44 i0 _ 4 32 Try.underlying59 hi hz0 hz1 hz2 rfl (by omega) _ X.length _ rfl (own_keep HK.out.1 ((HW.out.2.1.drewN _).alloc _) (fun _ _ h => h)) _ (some ⟨wr.heap.size, 0, none⟩) 1 1 _ rfl (rdp_one _ ⟨0, 0, 0, 0⟩) (pts_one _) (by simp only [maxLen]; omega) (by omega) (by have := HK.out.2.1.size; have := HW.out.2.1.size; simp; omega) ?_; intro v2 w2 o2 g2; have H2 := Hid.mk (And.intro o2 g2); clear o2 g2)
                obtain ⟨g2, c2, hv2⟩ := own_some H2.out.1
                subst hv2
                obtain ⟨cur, hB, hbg, hc1, hcm, hcl, hct⟩ := Blk.of_own H2.out.1
                have hcm' := hcm
                unfold maxLen at hcm'
                have hpl := pts_len X
                have hct' : cur.take (X.length * 4) = X.flatMap Pt.cs := by
                  have h : (cur.take ((X.length + 1) * 4)).take (X.length * 4) = cur.take (X.length * 4) := by rw [List.take_take, Nat.min_eq_left (by omega)]
                  rw [← h, hct, List.take_left' hpl]
                have hcut := fun W => run_cut_from (P := Try.prog) 59 44 i0 4 Try.underlying59 hi hz1 (some ⟨g2, 0, none⟩) (X.length + 1) c2 (lo + 1) .i64 (by omega) W
                rw [show ((lo + 1 : Nat) : Int) = (lo : Int) + 1 by omega, show X.length + 1 - (lo + 1) = X.length - lo by omega] at hcut
                obtain ⟨oo, hoo, ho1, ho2⟩ := cut_some g2 c2 (lo + 1) cur.length (by omega) (by omega)
                rw [hoo] at hcut
                have hne2 : ¬ (c2 = lo) := by omega
                have hmin : min (X.length + 1 - lo) (X.length - lo) = X.length - lo := by omega
                have hsrc := hB.rds (sz := 4) (lo * 4) (X.length + 1 - lo) (by omega)
                have hys : ((cur.drop (lo * 4)).take ((X.length + 1 - lo) * 4)).take (min (X.length + 1 - lo) (X.length - lo) * 4) = (X.flatMap Pt.cs).drop (lo * 4) := by
                  rw [hmin, List.take_take, ← hct', List.drop_take, show min ((X.length - lo) * 4) ((X.length + 1 - lo) * 4) = X.length * 4 - lo * 4 by omega]
                have hone : ∀ u ∈ ((cur.drop (lo * 4)).take ((X.length + 1 - lo) * 4)).take (min (X.length + 1 - lo) (X.length - lo) * 4), u.oneCell' = true := by
                  rw [hys]
                  exact fun u hu => pts_one X u (List.mem_of_mem_drop hu)
                have hfit : oo + min (X.length + 1 - lo) (X.length - lo) * 4 ≤ cur.length := by
                  rw [hmin]
                  rcases Nat.lt_or_ge (lo + 1) c2 with h | h
                  · rw [ho1 h]; omega
                  · rw [show X.length - lo = 0 by omega]; omega
                have hsp : splice cur oo ((X.flatMap Pt.cs).drop (lo * 4)) = splice cur (lo * 4 + 4) ((cur.drop (lo * 4)).take (X.length * 4 - lo * 4)) := by
                  rw [← List.drop_take, hct']
                  rcases Nat.lt_or_ge (lo + 1) c2 with h | h
                  · rw [ho1 h, show (lo + 1) * 4 = lo * 4 + 4 by omega]
                  · rw [List.drop_of_length_le (by rw [hpl]; omega)]; simp [splice]
                have hcells := ins_cells cur ((X.length + 1) * 4) (X.length * 4) (lo * 4) (Pt.cs ⟨ky, x, y, v⟩) (by omega) (by omega) rfl _ hsp (by omega)
                rw [hct'] at hcells
                have hspl : (splice cur oo ((X.flatMap Pt.cs).drop (lo * 4))).length = c2 * 4 := by
                  rw [length_splice _ _ _ (by
                    rw [List.length_drop, hpl]
                    rw [hmin] at hfit
                    omega), hcl]
                have hins := pts_ins X lo ⟨ky, x, y, v⟩
                have hw2 := (HK.out.2.1.trans ((HW.out.2.1.drewN _).alloc _) (fun _ _ h => h)).trans H2.out.2.chg (fun j hj h => by have := own_ge HN.out.2.2.2 j h; omega)
                have hpb := ((HW.out.2.2.drewN _).alloc _).keep H2.out.2.chg (fun h => by
                  have h1 := own_lt HK.out.1 _ h
                  omega)
                have HP := Hid.mk (And.intro hB (And.intro hbg (And.intro hcm (And.intro hcl (And.intro hw2 (And.intro hpb (And.intro hcells (And.intro hspl (And.intro hins hys)))))))))
                have HSr := Hid.mk (show Rds w2.drew (fun k => k = g2) 4 (some ⟨g2, lo * 4, none⟩) (X.length + 1 - lo) ((cur.drop (lo * 4)).take ((X.length + 1 - lo) * 4)) from hsrc)
                have HO1 := Hid.mk (And.intro hone hfit)
                clear hB hbg hcm hcl hw2 hpb hcells hspl hins hys hsrc hone hfit hct hct' hpl hsp hoo ho1 ho2 hmin y0 y1 y2 y3 x0
                have hw1 : IntKind.i64.wrap ((lo : Int) + 1) = (lo : Int) + 1 := by rw [IntKind.wrap_i64]; omega
                have hb1 : (0 : Int) ≤ (lo : Int) + 1 := by omega
                have htn : ((lo : Int) + 1).toNat = lo + 1 := by omega
                have hlo1 : (lo : Int) ≤ (X.length : Int) + 1 := by omega
                go_region_law ((refine step_copy_blk rfl (.tmp 88) (.tmp 91) 59 59 rfl (show Blk w2.drew g2 44 cur from HP.out.1) 44 4 Try.underlying59 Try.sizePt oo (X.length - lo) (c2 - (lo + 1)) _ (some ⟨g2, lo * 4, none⟩) (X.length + 1 - lo) (c2 - lo) _ HSr.out HO1.out.1 HO1.out.2 (by simp [Act.eval, Act.put]) (by simp [Act.eval, Act.put]) ?_); intro w3 q1 q2; have H3 := Hid.mk (And.intro q1 q2); clear q1 q2)
                have hb3 := H3.out.1
                rw [HP.out.2.2.2.2.2.2.2.2.2] at hb3
                have hpne : wo.heap.size ≠ g2 := fun h => by
                  have h1 := H2.out.2.lies wo.heap.size (by have := HW.out.1.size; simp at this ⊢; omega) (by rw [h]; rfl)
                  have h2 := own_lt HK.out.1 _ h1
                  omega
                have hpb3 := Bk.keep (S := fun k => k = g2) HP.out.2.2.2.2.2.1.drew H3.out.2 hpne
                have y0 := hpb3.cell 0 rfl
                have y1 := hpb3.cell 1 rfl
                have y2 := hpb3.cell 2 rfl
                have y3 := hpb3.cell 3 rfl
                have z0 : ∃ u, w3.cell? ⟨g2, lo * 4, none⟩ = some u := ⟨_, (hb3.cell _).trans (List.getElem?_eq_getElem (by rw [HP.out.2.2.2.2.2.2.2.1]; omega))⟩
                have z1 : ∃ u, w3.cell? ⟨g2, lo * 4 + 1, none⟩ = some u := ⟨_, (hb3.cell _).trans (List.getElem?_eq_getElem (by rw [HP.out.2.2.2.2.2.2.2.1]; omega))⟩
                have z2 : ∃ u, w3.cell? ⟨g2, lo * 4 + 2, none⟩ = some u := ⟨_, (hb3.cell _).trans (List.getElem?_eq_getElem (by rw [HP.out.2.2.2.2.2.2.2.1]; omega))⟩
                have z3 : ∃ u, w3.cell? ⟨g2, lo * 4 + 3, none⟩ = some u := ⟨_, (hb3.cell _).trans (List.getElem?_eq_getElem (by rw [HP.out.2.2.2.2.2.2.2.1]; omega))⟩
                obtain ⟨e0, z0⟩ := z0
                obtain ⟨e1, z1⟩ := z1
                obtain ⟨e2, z2⟩ := z2
                obtain ⟨e3, z3⟩ := z3
                have f0 := fun j => hb3.free j
                have hlt3 : lo < X.length + 1 := by omega
                have HB := Hid.mk hb3
                clear hb3 hpb3 hpne hcut
                go_wp2_with fail
                go_roundw
                case rel =>
                  have h2 := ((((HB.out.set (lo * 4) (.int .i64 ky)).set (lo * 4 + 1) (.int .i64 x)).set (lo * 4 + 2) (.int .i64 y)).set (lo * 4 + 3) (.int .i64 v))
                  rw [set4 _ _ _ _ _ _ (by rw [HP.out.2.2.2.2.2.2.2.1]; omega)] at h2
                  refine ⟨k + 1, by omega, by go_num, ?_, ?_⟩
                  · rw [HS.out.1, HS.out.2, HP.out.2.2.2.2.2.2.2.2.1, ← HP.out.2.2.2.2.2.2.1, show (X.take lo ++ (⟨ky, x, y, v⟩ : Pt) :: X.drop lo).length = X.length + 1 by simp; omega]
                    exact h2.own HP.out.2.1 hc1 HP.out.2.2.1 (by rw [length_splice _ _ _ (by rw [HP.out.2.2.2.2.2.2.2.1]; simp; omega), HP.out.2.2.2.2.2.2.2.1])
                  · have hg := HP.out.2.1
                    have hcw := HP.out.2.2.2.2.1.drew.trans H3.out.2 (fun j hj h => by have h' : j = g2 := h; omega)
                    refine ((((hcw.setCell (p := ⟨g2, _, none⟩) (fun h => ?_) _).setCell (p := ⟨g2, _, none⟩) (fun h => ?_) _).setCell (p := ⟨g2, _, none⟩) (fun h => ?_) _).setCell (p := ⟨g2, _, none⟩) (fun h => ?_) _) <;> exact absurd h (by simp only; omega)
                case measure => simp [intOf]; omega
              · subst h1
                have HS := Hid.mk (And.intro HN.out.2.2.1 (step_none (l := X) (o := ⟨2, ⟨ky, x, y, v⟩⟩) (by simp) (fun _ => HN.out.1)))
                go_wp2_with fail
                go_roundw
                case rel =>
                  refine ⟨k + 1, by omega, by go_num, ?_, (HK.out.2.1.trans HW.out.2.1 (fun _ _ h => h)).drewN _⟩
                  rw [HS.out.1, HS.out.2]
                  exact own_keep HN.out.2.2.2 ((Chg.refl Nil _).drewN _) (fun _ _ h => h)
                case measure => simp [intOf]; omega
    · obtain rfl : k = m := by omega
      rw [List.take_of_length_le (by omega)] at hown
      have HK := Hid.mk (And.intro hown hch)
      clear hown hch
      go_wp2_with fail
      go_ret
      exact ⟨_, rfl, HK.out.1, HK.out.2⟩
end Go.Proofs.Ytmbmfhpdajdpfaa
