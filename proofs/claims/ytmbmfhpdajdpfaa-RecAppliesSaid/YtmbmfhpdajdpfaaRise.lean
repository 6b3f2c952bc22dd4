/- Whether points may be and rise: rec.rises, the document's PointsMay. -/
import Derived.Test.YtmbmfhpdajdpfaaPts
namespace Go.Proofs.Ytmbmfhpdajdpfaa
open Go.RowKit

/-- May the k-th stand there? -/
def okAt (l : List Pt) (k : Nat) : Bool :=
  match l[k]? with
  | some p => p.ok && (decide (k = 0) || match l[k - 1]? with | some q => decide (q.key < p.key) | none => true)
  | none => true
def risesP (l : List Pt) : Bool := (List.range l.length).all (okAt l)
def mayP (l : List Pt) : Nat := if 20000 < l.length then 11 else if risesP l then 0 else 1
theorem risesP_no {l : List Pt} {k : Nat} (hk : k < l.length) (h : okAt l k = false) : risesP l = false := by
  unfold risesP
  rw [List.all_eq_false]
  exact ⟨k, List.mem_range.2 hk, by rw [h]; decide⟩
theorem risesP_yes {l : List Pt} (h : ∀ k, k < l.length → okAt l k = true) : risesP l = true := by
  unfold risesP
  rw [List.all_eq_true]
  exact fun k hk => h k (List.mem_range.1 hk)
theorem risesP_at {l : List Pt} (h : risesP l = true) {k : Nat} (hk : k < l.length) : okAt l k = true := by
  unfold risesP at h
  rw [List.all_eq_true] at h
  exact h k (List.mem_range.2 hk)
theorem okAt_zero {l : List Pt} {p : Pt} (h : l[0]? = some p) : okAt l 0 = p.ok := by simp [okAt, h]
theorem okAt_succ {l : List Pt} {k : Nat} {p q : Pt} (h : l[k]? = some p) (hk : 0 < k) (hq : l[k - 1]? = some q) : okAt l k = (p.ok && decide (q.key < p.key)) := by
  have : decide (k = 0) = false := decide_eq_false (by omega)
  simp [okAt, h, hq, this]

set_option maxHeartbeats 2000000 in
set_option maxRecDepth 100000 in
theorem rises_any (A : Option Addr) (n c : Nat) (l : List Pt) (S : Nat → Prop) (w : World) (hr : RdP w S A n l) (hn : n ≤ 9223372036854775807) :
    Calls Try.prog 52 #[.slice A n c] w fun e w' => e = .returned (.bool (risesP l)) ∧ Chg Nil w w' := by
  have hl := hr.len
  have HR := Hid.mk hr
  clear hr
  go_enter Try.func52, Try.ntmps52
  go_wp2_with fail
  go_loopw [3, 4, 7] (fun _ _ i wr => ∃ k : Nat, k ≤ n ∧ i = .int .i64 (k : Int) ∧ Chg Nil w wr ∧ ∀ j, j < k → okAt l j = true) (fun _ _ i _ => n - (intOf i).toNat)
  case atStart => exact ⟨0, Nat.zero_le _, rfl, Chg.refl _ _, fun j hj => by omega⟩
  case round =>
    obtain ⟨k, hk, rfl, hch, hall⟩ := hrel
    by_cases hlt : k < n
    · obtain ⟨b, off, rfl, _, hat⟩ := HR.out.at4 (by omega)
      have ho : l[k]? = some (l[k]'(by omega)) := List.getElem?_eq_getElem (by omega)
      generalize l[k]'(by omega) = o at ho
      have HO := Hid.mk (fun (wb : World) => After.callN (w := wb) (fun W => okPoint_any o W))
      have hk0 := fun h0 : k = 0 => okAt_zero (l := l) (p := o) (by rw [← h0]; exact ho)
      have hks := fun (h0 : 0 < k) q hq => okAt_succ (l := l) (k := k) (p := o) (q := q) ho h0 hq
      generalize hb : o.ok = bo at *
      obtain ⟨ky, x, y, v⟩ := o
      simp only [Pt.cs] at HO
      obtain ⟨c0, c1, c2, c3⟩ := hat wr hch k ky x y v ho
      have hB := Bk.new wr 44 #[.int .i64 ky, .int .i64 x, .int .i64 y, .int .i64 v]
      have hA : Chg Nil wr (wr.alloc (.cells #[.int .i64 ky, .int .i64 x, .int .i64 y, .int .i64 v] 44)) := (Chg.refl _ _).alloc _
      cases bo with
      | false =>
        have hno : risesP l = false := by
          refine risesP_no (k := k) (by omega) ?_
          rcases Nat.eq_zero_or_pos k with h0 | h0
          · subst h0; exact hk0 rfl
          · rw [hks h0 _ (List.getElem?_eq_getElem (show k - 1 < l.length by omega))]; rfl
        have HK := Hid.mk (And.intro hch hno)
        clear hch hall hat hk0 hks ho hno
        go_upto_region 4 with fail
        generalize wr.alloc (.cells #[.int .i64 ky, .int .i64 x, .int .i64 y, .int .i64 v] 44) = wb at *
        have y0 : ∀ z : After wb, z.world.cell? ⟨wr.heap.size, 0, none⟩ = some (.int .i64 ky) := fun z => z.chg.cell (hB.cell 0 rfl) (fun h => h)
        have y1 : ∀ z : After wb, z.world.cell? ⟨wr.heap.size, 1, none⟩ = some (.int .i64 x) := fun z => z.chg.cell (hB.cell 1 rfl) (fun h => h)
        have y2 : ∀ z : After wb, z.world.cell? ⟨wr.heap.size, 2, none⟩ = some (.int .i64 y) := fun z => z.chg.cell (hB.cell 2 rfl) (fun h => h)
        have y3 : ∀ z : After wb, z.world.cell? ⟨wr.heap.size, 3, none⟩ = some (.int .i64 v) := fun z => z.chg.cell (hB.cell 3 rfl) (fun h => h)
        have H1 := Hid.mk (And.intro (HK.out.1.trans hA (fun _ _ h => h)) HK.out.2)
        clear hA hB HK
        have hne := After.some wb
        refine wp_region_after (by kernel_rfl) (by kernel_rfl) ?_
        repeat (go_big_quiet_step (exact HO.out _ _))
        refine wpQuiet_nil ?_
        rintro _ ⟨z, rfl⟩
        have H2 := Hid.mk (H1.out.1.trans z.chg (fun _ _ h => h))
        go_wp2_with fail
        go_ret
        rw [H1.out.2]
        exact ⟨rfl, H2.out⟩
      | true =>
        rcases Nat.eq_zero_or_pos k with h0 | h0
        · subst h0
          have hy := hk0 rfl
          simp only [Nat.zero_mul, Nat.add_zero] at c0 c1 c2 c3
          have HK := Hid.mk (And.intro hch (And.intro hall hy))
          clear hch hall hat hk0 hks ho hy
          go_upto_region 4 with fail
          generalize wr.alloc (.cells #[.int .i64 ky, .int .i64 x, .int .i64 y, .int .i64 v] 44) = wb at *
          have y0 : ∀ z : After wb, z.world.cell? ⟨wr.heap.size, 0, none⟩ = some (.int .i64 ky) := fun z => z.chg.cell (hB.cell 0 rfl) (fun h => h)
          have y1 : ∀ z : After wb, z.world.cell? ⟨wr.heap.size, 1, none⟩ = some (.int .i64 x) := fun z => z.chg.cell (hB.cell 1 rfl) (fun h => h)
          have y2 : ∀ z : After wb, z.world.cell? ⟨wr.heap.size, 2, none⟩ = some (.int .i64 y) := fun z => z.chg.cell (hB.cell 2 rfl) (fun h => h)
          have y3 : ∀ z : After wb, z.world.cell? ⟨wr.heap.size, 3, none⟩ = some (.int .i64 v) := fun z => z.chg.cell (hB.cell 3 rfl) (fun h => h)
          have H1 := Hid.mk (HK.out.1.trans hA (fun _ _ h => h))
          clear hA hB
          have hne := After.some wb
          refine wp_region_after (by kernel_rfl) (by kernel_rfl) ?_
          repeat (go_big_quiet_step (exact HO.out _ _))
          refine wpQuiet_nil ?_
          rintro _ ⟨z, rfl⟩
          have H2 := Hid.mk (H1.out.trans z.chg (fun _ _ h => h))
          go_wp2_with fail
          go_roundw
          case rel => exact ⟨1, by omega, by go_num, H2.out, fun j hj => by
            obtain rfl : j = 0 := by omega
            exact HK.out.2.2⟩
          case measure => simp [intOf]; omega
        · obtain ⟨m, rfl⟩ : ∃ m, k = m + 1 := ⟨k - 1, by omega⟩
          have hq : l[m + 1 - 1]? = some (l[m]'(by omega)) := List.getElem?_eq_getElem (by omega)
          have hst := hks h0 _ hq
          have hq' : l[m]? = some (l[m]'(by omega)) := hq
          generalize l[m]'(by omega) = q at *
          obtain ⟨qy, qx, qz, qv⟩ := q
          simp only at hst
          have c4 := (hat _ (hch.trans hA (fun _ _ h => h)) m qy qx qz qv hq').1
          by_cases hge : qy < ky
          · have hd : decide (qy < ky) = true := decide_eq_true hge
            have hd2 : decide (ky ≤ qy) = false := decide_eq_false (by omega)
            rw [hd] at hst
            have HK := Hid.mk (And.intro hch (And.intro hall hst))
            clear hch hall hat hk0 hks ho hst hq hq'
            go_upto_region 4 with fail
            generalize wr.alloc (.cells #[.int .i64 ky, .int .i64 x, .int .i64 y, .int .i64 v] 44) = wb at *
            have y0 : ∀ z : After wb, z.world.cell? ⟨wr.heap.size, 0, none⟩ = some (.int .i64 ky) := fun z => z.chg.cell (hB.cell 0 rfl) (fun h => h)
            have y1 : ∀ z : After wb, z.world.cell? ⟨wr.heap.size, 1, none⟩ = some (.int .i64 x) := fun z => z.chg.cell (hB.cell 1 rfl) (fun h => h)
            have y2 : ∀ z : After wb, z.world.cell? ⟨wr.heap.size, 2, none⟩ = some (.int .i64 y) := fun z => z.chg.cell (hB.cell 2 rfl) (fun h => h)
            have y3 : ∀ z : After wb, z.world.cell? ⟨wr.heap.size, 3, none⟩ = some (.int .i64 v) := fun z => z.chg.cell (hB.cell 3 rfl) (fun h => h)
            have y4 : ∀ z : After wb, z.world.cell? ⟨b, off + m * 4, none⟩ = some (.int .i64 qy) := fun z => z.chg.cell c4 (fun h => h)
            have H1 := Hid.mk (HK.out.1.trans hA (fun _ _ h => h))
            clear hA hB
            have hne := After.some wb
            refine wp_region_after (by kernel_rfl) (by kernel_rfl) ?_
            repeat (go_big_quiet_step (exact HO.out _ _))
            refine wpQuiet_nil ?_
            rintro _ ⟨z, rfl⟩
            have H2 := Hid.mk (H1.out.trans z.chg (fun _ _ h => h))
            go_wp2_with fail
            go_roundw
            case rel => exact ⟨m + 1 + 1, by omega, by go_num, H2.out, fun j hj => by
              rcases Nat.lt_or_ge j (m + 1) with h | h
              · exact HK.out.2.1 j h
              · obtain rfl : j = m + 1 := by omega
                rw [HK.out.2.2]; rfl⟩
            case measure => simp [intOf]; omega
          · have hd : decide (qy < ky) = false := decide_eq_false hge
            have hd2 : decide (ky ≤ qy) = true := decide_eq_true (by omega)
            rw [hd] at hst
            have hno : risesP l = false := risesP_no (k := m + 1) (by omega) (by rw [hst]; rfl)
            have HK := Hid.mk (And.intro hch hno)
            clear hch hall hat hk0 hks ho hst hq hq' hno
            go_upto_region 4 with fail
            generalize wr.alloc (.cells #[.int .i64 ky, .int .i64 x, .int .i64 y, .int .i64 v] 44) = wb at *
            have y0 : ∀ z : After wb, z.world.cell? ⟨wr.heap.size, 0, none⟩ = some (.int .i64 ky) := fun z => z.chg.cell (hB.cell 0 rfl) (fun h => h)
            have y1 : ∀ z : After wb, z.world.cell? ⟨wr.heap.size, 1, none⟩ = some (.int .i64 x) := fun z => z.chg.cell (hB.cell 1 rfl) (fun h => h)
            have y2 : ∀ z : After wb, z.world.cell? ⟨wr.heap.size, 2, none⟩ = some (.int .i64 y) := fun z => z.chg.cell (hB.cell 2 rfl) (fun h => h)
            have y3 : ∀ z : After wb, z.world.cell? ⟨wr.heap.size, 3, none⟩ = some (.int .i64 v) := fun z => z.chg.cell (hB.cell 3 rfl) (fun h => h)
            have y4 : ∀ z : After wb, z.world.cell? ⟨b, off + m * 4, none⟩ = some (.int .i64 qy) := fun z => z.chg.cell c4 (fun h => h)
            have H1 := Hid.mk (And.intro (HK.out.1.trans hA (fun _ _ h => h)) HK.out.2)
            clear hA hB HK
            have hne := After.some wb
            refine wp_region_after (by kernel_rfl) (by kernel_rfl) ?_
            repeat (go_big_quiet_step (exact HO.out _ _))
            refine wpQuiet_nil ?_
            rintro _ ⟨z, rfl⟩
            have H2 := Hid.mk (H1.out.1.trans z.chg (fun _ _ h => h))
            go_wp2_with fail
            go_ret
            rw [H1.out.2]
            exact ⟨rfl, H2.out⟩
    · have hkn : k = n := by omega
      subst hkn
      have hy := risesP_yes (l := l) (fun j hj => hall j (by omega))
      have HK := Hid.mk (And.intro hch hy)
      clear hch hall hy
      go_wp2_with fail
      go_ret
      rw [HK.out.2]
      exact ⟨rfl, HK.out.1⟩
end Go.Proofs.Ytmbmfhpdajdpfaa
