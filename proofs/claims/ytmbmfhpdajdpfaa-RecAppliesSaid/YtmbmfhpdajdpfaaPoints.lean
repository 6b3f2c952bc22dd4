/- The document's PointsMay; rec.Points. -/
import Derived.Test.YtmbmfhpdajdpfaaRise
namespace Go.Proofs.Ytmbmfhpdajdpfaa
open Go.RowKit

theorem mayP_no {l : List Pt} (h : ¬ 20000 < l.length) (hr : risesP l = false) : mayP l = 1 := by
  unfold mayP
  rw [if_neg h, hr]
  rfl
theorem mayP_yes {l : List Pt} (h : ¬ 20000 < l.length) (hr : risesP l = true) : mayP l = 0 := by
  unfold mayP
  rw [if_neg h, hr]
  rfl

set_option maxHeartbeats 2000000 in
set_option maxRecDepth 100000 in
theorem pointsMay_any (A : Option Addr) (n c : Nat) (l : List Pt) (S : Nat → Prop) (w : World) (hr : RdP w S A n l) (hn : n ≤ 9223372036854775807) :
    Calls Try.prog 32 #[.slice A n c] w fun e w' => e = .returned (.int .i64 (mayP l : Nat)) ∧ Chg Nil w w' := by
  have hl := hr.len
  by_cases hbig : 20000 < n
  · have he : mayP l = 11 := by unfold mayP; rw [if_pos (by omega)]
    rw [he]
    go_enter Try.func32, Try.ntmps32
    go_wp2
    go_ret
    exact ⟨rfl, Chg.refl _ _⟩
  have HR := Hid.mk hr
  clear hr
  go_enter Try.func32, Try.ntmps32
  go_wp2_with fail
  go_loopw [3] (fun i wr => ∃ k : Nat, k ≤ n ∧ i = .int .i64 (k : Int) ∧ Chg Nil w wr ∧ ∀ j, j < k → okAt l j = true) (fun i _ => n - (intOf i).toNat)
  case atStart => exact ⟨0, Nat.zero_le _, rfl, Chg.refl _ _, fun j hj => by omega⟩
  case round =>
    obtain ⟨k, hk, rfl, hch, hall⟩ := hrel
    by_cases hlt : k < n
    · obtain ⟨b, off, rfl, _, hat⟩ := HR.out.at4 (by omega)
      have ho : l[k]? = some (l[k]'(by omega)) := List.getElem?_eq_getElem (by omega)
      generalize l[k]'(by omega) = o at ho
      have HO := Hid.mk (fun (wb : World) => After.callN (w := wb) (fun W => rpointOk_any o W))
      have hk0 := fun h0 : k = 0 => okAt_zero (l := l) (p := o) (by rw [← h0]; exact ho)
      have hks := fun (h0 : 0 < k) q hq => okAt_succ (l := l) (k := k) (p := o) (q := q) ho h0 hq
      generalize hb : o.ok = bo at *
      obtain ⟨ky, x, y, v⟩ := o
      simp only [Pt.cs] at HO
      have y0 : ∀ z : After wr, z.world.cell? ⟨b, off + k * 4, none⟩ = some (.int .i64 ky) := fun z => (hat z.world (hch.trans z.chg (fun _ _ h => h)) k ky x y v ho).1
      have y1 : ∀ z : After wr, z.world.cell? ⟨b, off + k * 4 + 1, none⟩ = some (.int .i64 x) := fun z => (hat z.world (hch.trans z.chg (fun _ _ h => h)) k ky x y v ho).2.1
      have y2 : ∀ z : After wr, z.world.cell? ⟨b, off + k * 4 + 2, none⟩ = some (.int .i64 y) := fun z => (hat z.world (hch.trans z.chg (fun _ _ h => h)) k ky x y v ho).2.2.1
      have y3 : ∀ z : After wr, z.world.cell? ⟨b, off + k * 4 + 3, none⟩ = some (.int .i64 v) := fun z => (hat z.world (hch.trans z.chg (fun _ _ h => h)) k ky x y v ho).2.2.2
      have hne := After.some wr
      cases bo with
      | false =>
        have hno : mayP l = 1 := by
          refine mayP_no (by omega) (risesP_no (k := k) (by omega) ?_)
          rcases Nat.eq_zero_or_pos k with h0 | h0
          · subst h0; exact hk0 rfl
          · rw [hks h0 _ (List.getElem?_eq_getElem (show k - 1 < l.length by omega))]; rfl
        have HK := Hid.mk (And.intro hch hno)
        clear hch hall hat hk0 hks ho hno
        go_upto_region 6 with fail
        refine wp_region_after (by kernel_rfl) (by kernel_rfl) ?_
        repeat (go_big_quiet_step (exact HO.out _ _))
        refine wpQuiet_nil ?_
        rintro _ ⟨z, rfl⟩
        have H2 := Hid.mk (HK.out.1.trans z.chg (fun _ _ h => h))
        go_wp2_with fail
        go_ret
        rw [HK.out.2]
        exact ⟨rfl, H2.out⟩
      | true =>
        rcases Nat.eq_zero_or_pos k with h0 | h0
        · subst h0
          have hy := hk0 rfl
          simp only [Nat.zero_mul, Nat.add_zero] at y0 y1 y2 y3
          have HK := Hid.mk (And.intro hch (And.intro hall hy))
          clear hch hall hat hk0 hks ho hy
          go_upto_region 6 with fail
          refine wp_region_after (by kernel_rfl) (by kernel_rfl) ?_
          repeat (go_big_quiet_step (exact HO.out _ _))
          refine wpQuiet_nil ?_
          rintro _ ⟨z, rfl⟩
          have H2 := Hid.mk (HK.out.1.trans z.chg (fun _ _ h => h))
          go_wp2_with fail
          go_roundw
          case rel => exact ⟨1, by omega, by go_num, H2.out, fun j hj => by
            obtain rfl : j = 0 := by omega
            exact HK.out.2.2⟩
          case measure => simp [intOf]; omega
        · obtain ⟨m, rfl⟩ : ∃ m, k = m + 1 := ⟨k - 1, by omega⟩
          have hq : l[m + 1 - 1]? = some (l[m]'(by omega)) := List.getElem?_eq_getElem (by omega)
          have hst := hks h0 _ hq
          have hq' : l[m]? = some (l[m]'(by omega)) := hq
          generalize l[m]'(by omega) = q at *
          obtain ⟨qy, qx, qz, qv⟩ := q
          simp only at hst
          have y4 : ∀ z : After wr, z.world.cell? ⟨b, off + m * 4, none⟩ = some (.int .i64 qy) := fun z => (hat z.world (hch.trans z.chg (fun _ _ h => h)) m qy qx qz qv hq').1
          by_cases hge : qy < ky
          · have hd : decide (qy < ky) = true := decide_eq_true hge
            have hd2 : decide (ky ≤ qy) = false := decide_eq_false (by omega)
            rw [hd] at hst
            have HK := Hid.mk (And.intro hch (And.intro hall hst))
            clear hch hall hat hk0 hks ho hst hq hq'
            go_upto_region 6 with fail
            refine wp_region_after (by kernel_rfl) (by kernel_rfl) ?_
            repeat (go_big_quiet_step (exact HO.out _ _))
            refine wpQuiet_nil ?_
            rintro _ ⟨z, rfl⟩
            have H2 := Hid.mk (HK.out.1.trans z.chg (fun _ _ h => h))
            go_wp2_with fail
            go_roundw
            case rel => exact ⟨m + 1 + 1, by omega, by go_num, H2.out, fun j hj => by
              rcases Nat.lt_or_ge j (m + 1) with h | h
              · exact HK.out.2.1 j h
              · obtain rfl : j = m + 1 := by omega
                rw [HK.out.2.2]; rfl⟩
            case measure => simp [intOf]; omega
          · have hd : decide (qy < ky) = false := decide_eq_false hge
            have hd2 : decide (ky ≤ qy) = true := decide_eq_true (by omega)
            rw [hd] at hst
            have hno : mayP l = 1 := mayP_no (by omega) (risesP_no (k := m + 1) (by omega) (by rw [hst]; rfl))
            have HK := Hid.mk (And.intro hch hno)
            clear hch hall hat hk0 hks ho hst hq hq' hno
            go_upto_region 6 with fail
            refine wp_region_after (by kernel_rfl) (by kernel_rfl) ?_
            repeat (go_big_quiet_step (exact HO.out _ _))
            refine wpQuiet_nil ?_
            rintro _ ⟨z, rfl⟩
            have H2 := Hid.mk (HK.out.1.trans z.chg (fun _ _ h => h))
            go_wp2_with fail
            go_ret
            rw [HK.out.2]
            exact ⟨rfl, H2.out⟩
    · have hkn : k = n := by omega
      subst hkn
      have hy := mayP_yes (l := l) (by omega) (risesP_yes (l := l) (fun j hj => hall j (by omega)))
      have HK := Hid.mk (And.intro hch hy)
      clear hch hall hy
      go_wp2_with fail
      go_ret
      rw [HK.out.2]
      exact ⟨rfl, HK.out.1⟩

set_option maxHeartbeats 2000000 in
set_option maxRecDepth 100000 in
theorem points_bad (A : Option Addr) (n c : Nat) (l : List Pt) (S : Nat → Prop) (w : World) (hr : RdP w S A n l) (hn : n ≤ 9223372036854775807) (hE : mayP l ≠ 0) :
    Calls Try.prog 30 #[.slice A n c] w fun e w' => e = .returned (.tuple #[.slice none 0 0, .int .i64 (mayP l : Nat)]) ∧ Chg Nil w w' := by
  have hl := hr.len
  by_cases hbig : 20000 < n
  · have he : mayP l = 11 := by unfold mayP; rw [if_pos (by omega)]
    rw [he]
    go_enter Try.func30, Try.ntmps30
    go_wp2
    go_ret2
    exact ⟨rfl, Chg.refl _ _⟩
  · have hrf : risesP l = false := by
      cases h : risesP l with
      | false => rfl
      | true => exact absurd (mayP_yes (by omega) h) hE
    have he := mayP_no (l := l) (by omega) hrf
    have hR := rises_any A n c l S w hr hn
    rw [hrf] at hR
    rw [he]
    have HR := Hid.mk hR
    clear hR hr hrf he hE
    go_enter Try.func30, Try.ntmps30
    go_wp2_with fail
    refine HR.out.mono ?_
    rintro e w1 ⟨rfl, hc1⟩
    have H1 := Hid.mk hc1
    clear hc1
    go_wp2_with fail
    go_ret2
    exact ⟨rfl, H1.out⟩

set_option maxHeartbeats 2000000 in
set_option maxRecDepth 100000 in
theorem points_ok (A : Option Addr) (n c : Nat) (l : List Pt) (S : Nat → Prop) (w : World) (hr : RdP w S A n l) (hE : mayP l = 0) :
    Calls Try.prog 30 #[.slice A n c] w fun e w' => ∃ v, e = .returned (.tuple #[v, .int .i64 0]) ∧ Chg Nil w w' ∧ w'.ownsRow w.heap.size 5 1 v (ptsB l).length ((ptsB l).map bv) := by
  have hl := hr.len
  have hbig : ¬ 20000 < n := fun h => by unfold mayP at hE; rw [if_pos (by omega)] at hE; cases hE
  have hrt : risesP l = true := by
    cases h : risesP l with
    | true => rfl
    | false => rw [mayP_no (by omega) h] at hE; cases hE
  have hR := rises_any A n c l S w hr (by omega)
  rw [hrt] at hR
  have HR := Hid.mk (And.intro hR hr)
  clear hR hr hrt hE
  go_enter Try.func30, Try.ntmps30
  go_wp2_with fail
  refine HR.out.1.mono ?_
  rintro e w1 ⟨rfl, hc1⟩
  have H1 := Hid.mk hc1
  clear hc1
  go_wp2_with fail
  go_loopw [4, 6, 17] (fun vb _ i wr => ∃ k : Nat, k ≤ n ∧ i = .int .i64 (k : Int) ∧ Chg Nil w wr ∧ wr.ownsRow w.heap.size 5 1 vb (16 * k) ((ptsB (l.take k)).map bv)) (fun _ _ i _ => n - (intOf i).toNat)
  case atStart => exact ⟨0, Nat.zero_le _, rfl, H1.out, ⟨rfl, .inl ⟨rfl, rfl⟩⟩⟩
  case round =>
    obtain ⟨k, hk, rfl, hch, hown⟩ := hrel
    by_cases hlt : k < n
    · obtain ⟨b, off, rfl, _, hat⟩ := HR.out.2.at4 (by omega)
      have ho : l[k]? = some (l[k]'(by omega)) := List.getElem?_eq_getElem (by omega)
      generalize l[k]'(by omega) = o at ho
      have hst := ptsB_take l k o ho
      have HP := Hid.mk (fun W v xs hown hb => put_any w.heap.size v (16 * k) xs o W (by omega) hown hb)
      obtain ⟨ky, x, y, v⟩ := o
      simp only [Pt.cs] at HP
      obtain ⟨c0, c1, c2, c3⟩ := hat wr hch k ky x y v ho
      have hsz := hch.size
      have HK := Hid.mk (And.intro hch (And.intro hown hst))
      clear hch hown hst hat ho
      go_wp2_with fail
      refine (HP.out _ _ _ (HK.out.2.1.alloc _) (by simp; omega)).mono ?_
      rintro e w2 ⟨v', rfl, hown2, hg2⟩
      have hc2 : Chg Nil w w2 := (HK.out.1.alloc _).trans hg2.chg (fun i hi hm => by
        have := own_ge HK.out.2.1 i hm
        omega)
      have H2 := Hid.mk (And.intro hc2 hown2)
      clear hc2 hown2 hg2
      go_wp2_with fail
      go_roundw
      case rel =>
        refine ⟨k + 1, by omega, by go_num, H2.out.1, ?_⟩
        rw [HK.out.2.2, List.map_append]
        exact H2.out.2
      case measure => simp [intOf]; omega
    · have hkn : k = n := by omega
      subst hkn
      rw [List.take_of_length_le (by omega)] at hown
      have hpl := ptsB_len l
      have HK := Hid.mk (And.intro hch hown)
      clear hch hown
      go_wp2_with fail
      go_ret2
      exact ⟨_, rfl, HK.out.1, by rw [hpl, hl]; exact HK.out.2⟩
end Go.Proofs.Ytmbmfhpdajdpfaa
