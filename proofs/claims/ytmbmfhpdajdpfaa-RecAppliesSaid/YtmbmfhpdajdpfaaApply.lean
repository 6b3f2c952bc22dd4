/- rec.Apply: ops done on points that rise. -/
import Derived.Test.YtmbmfhpdajdpfaaDel
namespace Go.Proofs.Ytmbmfhpdajdpfaa
open Go.RowKit

theorem Blk.set {w : World} {g : Nat} {e : TypeId} {cur : List Value} (h : Blk w g e cur) (i : Nat) (u : Value) : Blk (w.setCell ⟨g, i, none⟩ u) g e (cur.set i u) := by
  unfold Blk at *
  rw [heap_setCell_same w g i cur.toArray e u h]
  simp
theorem set4 (a b c d : Value) : ∀ (o : Nat) (cur : List Value), o + 4 ≤ cur.length → (((cur.set o a).set (o + 1) b).set (o + 2) c).set (o + 3) d = splice cur o [a, b, c, d]
  | 0, [], h => by simp at h
  | 0, [_], h => by simp at h
  | 0, [_, _], h => by simp at h
  | 0, [_, _, _], h => by simp at h
  | 0, p :: q :: r :: s :: t, _ => by simp [splice]
  | o + 1, [], h => by simp at h
  | o + 1, z :: t, h => by
    have ih := set4 a b c d o t (by simpa using h)
    have e : splice (z :: t) (o + 1) [a, b, c, d] = z :: splice t o [a, b, c, d] := by simp [splice, show o + 1 + 4 = (o + 4) + 1 by omega]
    rw [e, ← ih]
    simp [show o + 1 + 1 = (o + 1) + 1 by omega, show o + 1 + 2 = (o + 2) + 1 by omega, show o + 1 + 3 = (o + 3) + 1 by omega]
theorem put_cells (cur : List Value) (l : List Pt) (i : Nat) (p : Pt) (hi : i < l.length) (hc : cur.take (l.length * 4) = l.flatMap Pt.cs) (hl : l.length * 4 ≤ cur.length) :
    (splice cur (i * 4) p.cs).take (l.length * 4) = (l.take i ++ p :: l.drop (i + 1)).flatMap Pt.cs := by
  have h4 : p.cs.length = 4 := rfl
  have e1 : (l.take i ++ p :: l.drop (i + 1)).flatMap Pt.cs = (l.flatMap Pt.cs).take (i * 4) ++ (p.cs ++ (l.flatMap Pt.cs).drop ((i + 1) * 4)) := by rw [pts_take, pts_drop]; simp
  rw [e1, ← hc]
  unfold splice
  rw [List.take_append, List.take_append, List.length_take, h4, Nat.min_eq_left (by omega), List.take_take, Nat.min_eq_right (by omega), List.take_take, Nat.min_eq_left (by omega), List.take_of_length_le (l := p.cs) (by rw [h4]; omega), List.drop_take, show i * 4 + 4 = (i + 1) * 4 by omega, show l.length * 4 - i * 4 - 4 = l.length * 4 - (i + 1) * 4 by omega]
/-- The last step of a row of points, put in words. -/
theorem step_put {l : List Pt} {o : Oq} (h1 : o.kind = 1) (h : hasP l o.pt.key = true) : stepP l o = l.take (posP l o.pt.key) ++ o.pt :: l.drop (posP l o.pt.key + 1) := by simp [stepP, setP, h1, h]
theorem step_ins {l : List Pt} {o : Oq} (h1 : o.kind = 1) (h : hasP l o.pt.key = false) : stepP l o = l.take (posP l o.pt.key) ++ o.pt :: l.drop (posP l o.pt.key) := by simp [stepP, setP, h1, h]
theorem step_del {l : List Pt} {o : Oq} (h1 : o.kind = 2) (h : hasP l o.pt.key = true) : stepP l o = l.take (posP l o.pt.key) ++ l.drop (posP l o.pt.key + 1) := by simp [stepP, delP, h1, h]
theorem step_none {l : List Pt} {o : Oq} (h1 : o.kind ≠ 1) (h : o.kind = 2 → hasP l o.pt.key = false) : stepP l o = l := by
  unfold stepP delP
  rw [if_neg h1]
  split
  · rw [h ‹_›]; simp
  · rfl
theorem hasP_lt {l : List Pt} {k : Int} (h : hasP l k = true) : posP l k < l.length := by
  unfold hasP at h
  rcases Nat.lt_or_ge (posP l k) l.length with h1 | h1
  · exact h1
  · rw [List.getElem?_eq_none h1] at h; cases h

set_option maxHeartbeats 4000000 in
set_option maxRecDepth 100000 in
theorem apply_any (A B : Option Addr) (n c m mc : Nat) (l : List Pt) (ops : List Oq) (S T : Nat → Prop) (w : World) (hr : RdP w S A n l) (ho : RdO w T B m ops) (hn : n ≤ 400000) (hm : m ≤ 400000) (hup : Up l) :
    Calls Try.prog 27 #[.slice A n c, .slice B m mc] w fun e w' => ∃ v', e = .returned v' ∧ w'.ownsRow w.heap.size 44 4 v' (doP l ops).length ((doP l ops).flatMap Pt.cs) ∧ Chg Nil w w' := by
  have hl := hr.len
  have hol := ho.len
  have HC := Hid.mk (fun (_ : True) => clonep_any A n c l S w hr (by omega))
  have HO := Hid.mk (And.intro ho (And.intro hup hl))
  clear hr ho hup
  go_enter Try.func27, Try.ntmps27
  go_wp2_with fail
  refine (HC.out trivial).mono ?_
  rintro e w0 ⟨v0, rfl, o0, c0⟩
  have H0 := Hid.mk (And.intro o0 c0)
  clear o0 c0 hl
  go_wp2_with fail
  go_loopw [5, 14] (fun out i wr => ∃ k : Nat, k ≤ m ∧ i = .int .i64 (k : Int) ∧ wr.ownsRow w.heap.size 44 4 out (doP l (ops.take k)).length ((doP l (ops.take k)).flatMap Pt.cs) ∧ Chg Nil w wr) (fun _ i _ => m - (intOf i).toNat)
  case atStart => exact ⟨0, Nat.zero_le _, rfl, by rw [List.take_zero, doP_nil, HO.out.2.2]; exact H0.out.1, H0.out.2⟩
  case round =>
    obtain ⟨k, hk, rfl, hown, hch⟩ := hrel
    by_cases hlt : k < m
    · obtain ⟨b, off, rfl, _, hat⟩ := HO.out.1.at5 (by omega)
      have hq : ops[k]? = some (ops[k]'(by omega)) := List.getElem?_eq_getElem _
      generalize ops[k]'(by omega) = o at hq
      have hstep := doP_take l ops k o hq
      have hXl : (doP l (ops.take k)).length ≤ n + m := by
        have := do_len (ops.take k) l HO.out.2.1
        rw [List.length_take] at this
        have := HO.out.2.2
        omega
      have hXu := do_up (ops.take k) l HO.out.2.1
      generalize doP l (ops.take k) = X at *
      obtain ⟨kd, ky, x, y, v⟩ := o
      obtain ⟨G, gc, rfl, hgc, hgm⟩ := own_form hown
      obtain ⟨x0, x1, x2, x3, x4⟩ := hat wr hch k kd ky x y v hq
      have hA : Chg Nil wr (wr.alloc (.cells #[.int .i64 kd, .int .i64 ky, .int .i64 x, .int .i64 y, .int .i64 v] 46)) := (Chg.refl _ _).alloc _
      have HF := Hid.mk (fun W hW => find_any G X.length gc X ky (Own (.slice G X.length gc)) W ((Rds.of_own hown).keep hW (fun _ _ h => h)) (by omega) hXu)
      have HK := Hid.mk (And.intro hown (And.intro hch (And.intro hstep (And.intro hq hA))))
      clear hown hch hstep hq hA hat hXu
      go_wp2_with fail
      refine (HF.out _ HK.out.2.2.2.2).mono ?_
      rintro e w1 ⟨rfl, c1⟩
      have hbk : Bk w1 wr.heap.size 46 #[.int .i64 kd, .int .i64 ky, .int .i64 x, .int .i64 y, .int .i64 v] := (Bk.new wr _ _).keep c1 (fun h => h)
      have y0 := hbk.cell 0 rfl
      have y1 := hbk.cell 1 rfl
      have y2 := hbk.cell 2 rfl
      have y3 := hbk.cell 3 rfl
      have y4 := hbk.cell 4 rfl
      have c01 := HK.out.2.2.2.2.trans c1 (fun _ _ h => h)
      have H1 := Hid.mk (And.intro c01 (own_keep HK.out.1 c01 (fun _ _ h => h)))
      clear c1 c01 hbk
      cases hh : hasP X ky with
      | true =>
        by_cases h1 : kd = 1
        · subst h1
          have hlt2 := hasP_lt hh
          have hform : ∃ g, G = some ⟨g, 0, none⟩ := by
            rcases H1.out.2.2 with ⟨_, h0⟩ | ⟨g, cap, cur, h1, _⟩
            · omega
            · injection h1 with h1
              exact ⟨g, h1⟩
          obtain ⟨g, rfl⟩ := hform
          obtain ⟨cur, hB, hbg, _, _, hcl, hct⟩ := Blk.of_own H1.out.2
          have HS := Hid.mk (And.intro HK.out.2.2.1 (step_put (l := X) (o := ⟨1, ⟨ky, x, y, v⟩⟩) rfl hh))
          have z0 : ∃ u, w1.cell? ⟨g, posP X ky * 4, none⟩ = some u := ⟨_, (hB.cell _).trans (List.getElem?_eq_getElem (by rw [hcl]; omega))⟩
          have z1 : ∃ u, w1.cell? ⟨g, posP X ky * 4 + 1, none⟩ = some u := ⟨_, (hB.cell _).trans (List.getElem?_eq_getElem (by rw [hcl]; omega))⟩
          have z2 : ∃ u, w1.cell? ⟨g, posP X ky * 4 + 2, none⟩ = some u := ⟨_, (hB.cell _).trans (List.getElem?_eq_getElem (by rw [hcl]; omega))⟩
          have z3 : ∃ u, w1.cell? ⟨g, posP X ky * 4 + 3, none⟩ = some u := ⟨_, (hB.cell _).trans (List.getElem?_eq_getElem (by rw [hcl]; omega))⟩
          have f0 := fun j => hB.free j
          generalize posP X ky = P at *
          obtain ⟨e0, z0⟩ := z0
          obtain ⟨e1, z1⟩ := z1
          obtain ⟨e2, z2⟩ := z2
          obtain ⟨e3, z3⟩ := z3
          have HB := Hid.mk (And.intro hB (And.intro hbg (And.intro hcl hct)))
          clear hh hB hbg hcl hct x0 x1 x2 x3 x4
          go_wp2_with fail
          go_roundw
          case rel =>
            have h2 := ((((HB.out.1.set (P * 4) (.int .i64 ky)).set (P * 4 + 1) (.int .i64 x)).set (P * 4 + 2) (.int .i64 y)).set (P * 4 + 3) (.int .i64 v))
            rw [set4 _ _ _ _ _ _ (by rw [HB.out.2.2.1]; omega)] at h2
            have hput := put_cells cur X P ⟨ky, x, y, v⟩ hlt2 HB.out.2.2.2 (by rw [HB.out.2.2.1]; omega)
            refine ⟨k + 1, by omega, by go_num, ?_, ?_⟩
            · rw [HS.out.1, HS.out.2, ← hput]
              rw [show (X.take P ++ (⟨ky, x, y, v⟩ : Pt) :: X.drop (P + 1)).length = X.length by simp; omega]
              exact h2.own HB.out.2.1 (by omega) hgm (by rw [length_splice _ _ _ (by rw [HB.out.2.2.1]; simp; omega), HB.out.2.2.1])
            · have hg := HB.out.2.1
              have hcw := HK.out.2.1.trans H1.out.1 (fun _ _ h => h)
              refine (((hcw.setCell (p := ⟨g, _, none⟩) (fun h => ?_) _).setCell (p := ⟨g, _, none⟩) (fun h => ?_) _).setCell (p := ⟨g, _, none⟩) (fun h => ?_) _).setCell (p := ⟨g, _, none⟩) (fun h => ?_) _ <;> exact absurd h (by simp only; omega)
          case measure => simp [intOf]; omega
        · have hb1 : (kd == 1) = false := by rw [beq_eq_false_iff_ne]; exact h1
          by_cases h2 : kd = 2
          · subst h2
            have hlt2 := hasP_lt hh
            have hform : ∃ g, G = some ⟨g, 0, none⟩ := by
              rcases H1.out.2.2 with ⟨_, h0⟩ | ⟨g, cap, cur, h1, _⟩
              · omega
              · injection h1 with h1
                exact ⟨g, h1⟩
            obtain ⟨g, rfl⟩ := hform
            have HS := Hid.mk (And.intro HK.out.2.2.1 (step_del (l := X) (o := ⟨2, ⟨ky, x, y, v⟩⟩) rfl hh))
            have hD := delete_any w.heap.size g X.length gc (posP X ky) X w1 H1.out.2 (by omega) hlt2
            simp only at HS
            generalize posP X ky = P at *
            have HD := Hid.mk hD
            clear hD hh x0 x1 x2 x3 x4 h1
            go_wp2_with fail
            refine HD.out.mono ?_
            rintro e w2 ⟨v2, rfl, o2, g2⟩
            have H2 := Hid.mk (And.intro o2 g2)
            clear o2 g2
            go_wp2_with fail
            go_roundw
            case rel =>
              refine ⟨k + 1, by omega, by go_num, ?_, ?_⟩
              · rw [HS.out.1, HS.out.2]
                have h := H2.out.1
                rw [show X.length - 1 = (X.take P ++ X.drop (P + 1)).length by simp; omega] at h
                exact h
              · exact (HK.out.2.1.trans H1.out.1 (fun _ _ h => h)).trans H2.out.2.chg (fun j hj h => by have := own_ge H1.out.2 j h; omega)
            case measure => simp [intOf]; omega
          · have hb2 : (kd == 2) = false := by rw [beq_eq_false_iff_ne]; exact h2
            have HS := Hid.mk (And.intro HK.out.2.2.1 (step_none (l := X) (o := ⟨kd, ⟨ky, x, y, v⟩⟩) h1 (fun h => absurd h h2)))
            clear hh x0 x1 x2 x3 x4 h1 h2
            generalize posP X ky = P at *
            go_wp2_with fail
            go_roundw
            case rel =>
              refine ⟨k + 1, by omega, by go_num, ?_, HK.out.2.1.trans H1.out.1 (fun _ _ h => h)⟩
              rw [HS.out.1, HS.out.2]
              exact H1.out.2
            case measure => simp [intOf]; omega
      | false =>
        by_cases h1 : kd = 1
        · subst h1
          have hle := posP_le X ky
          have HS := Hid.mk (And.intro HK.out.2.2.1 (step_ins (l := X) (o := ⟨1, ⟨ky, x, y, v⟩⟩) rfl hh))
          have hA1 : Chg Nil w1 (w1.alloc (.cells #[.int .i64 ky, .int .i64 x, .int .i64 y, .int .i64 v] 44)) := (Chg.refl _ _).alloc _
          have hI := insert_any w.heap.size G X.length gc (posP X ky) X ⟨ky, x, y, v⟩ w1.heap.size (w1.alloc (.cells #[.int .i64 ky, .int .i64 x, .int .i64 y, .int .i64 v] 44)) (own_keep H1.out.2 hA1 (fun _ _ h => h)) (Bk.new w1 _ _) (fun j hj => by have := own_lt H1.out.2 j hj; omega) (by have := HK.out.2.1.size; have := H1.out.1.size; simp; omega) (by omega) hle
          simp only at HS
          generalize posP X ky = P at *
          have HI := Hid.mk (And.intro hI hA1)
          clear hI hh x0 x1 x2 x3 x4 hA1
          go_wp2_with fail
          refine HI.out.1.mono ?_
          rintro e w2 ⟨v2, rfl, o2, g2⟩
          have H2 := Hid.mk (And.intro o2 g2)
          clear o2 g2
          go_wp2_with fail
          go_roundw
          case rel =>
            refine ⟨k + 1, by omega, by go_num, ?_, ?_⟩
            · rw [HS.out.1, HS.out.2]
              have h := H2.out.1
              rw [show X.length + 1 = (X.take P ++ (⟨ky, x, y, v⟩ : Pt) :: X.drop P).length by simp; omega] at h
              exact h
            · exact ((HK.out.2.1.trans H1.out.1 (fun _ _ h => h)).trans HI.out.2 (fun _ _ h => h)).trans H2.out.2.chg (fun j hj h => by have := own_ge H1.out.2 j h; omega)
          case measure => simp [intOf]; omega
        · have hb1 : (kd == 1) = false := by rw [beq_eq_false_iff_ne]; exact h1
          have HS := Hid.mk (And.intro HK.out.2.2.1 (step_none (l := X) (o := ⟨kd, ⟨ky, x, y, v⟩⟩) h1 (fun _ => hh)))
          generalize hb2 : (kd == 2) = b2
          have HB2 := Hid.mk hb2
          clear hh x0 x1 x2 x3 x4 h1
          generalize posP X ky = P at *
          cases b2
          all_goals
            go_wp2_with fail
            go_roundw
            case rel =>
              refine ⟨k + 1, by omega, by go_num, ?_, HK.out.2.1.trans H1.out.1 (fun _ _ h => h)⟩
              rw [HS.out.1, HS.out.2]
              exact H1.out.2
            case measure => simp [intOf]; omega
    · obtain rfl : k = m := by omega
      rw [List.take_of_length_le (by omega)] at hown
      have HK := Hid.mk (And.intro hown hch)
      clear hown hch
      go_wp2_with fail
      go_ret
      exact ⟨_, rfl, HK.out.1, HK.out.2⟩
end Go.Proofs.Ytmbmfhpdajdpfaa
