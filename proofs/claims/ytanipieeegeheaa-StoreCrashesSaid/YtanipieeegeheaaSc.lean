/- Joined for this seat from: XPts XRise XPoints XReadPts. -/
import Derived.Test.YtanipieeegeheaaSb
namespace Go.Proofs.Ytanipieeegeheaa
open Go.RowKit

/-- A slice reads points. -/
def RdP (w : World) (S : Nat → Prop) (A : Option Addr) (n : Nat) (l : List Pt) : Prop := Rds w S 4 A n (l.flatMap Pt.cs)
theorem pts_get (l : List Pt) (m : Nat) (o : Pt) (h : l[m]? = some o) (j : Nat) (u : Value) (hj : o.cs[j]? = some u) : (l.flatMap Pt.cs)[m * 4 + j]? = some u := by
  induction l generalizing m with
  | nil => simp at h
  | cons a t ih =>
    cases m with
    | zero =>
      simp at h
      subst h
      have hlt : j < a.cs.length := by
        rcases Nat.lt_or_ge j a.cs.length with h | h
        · exact h
        · rw [List.getElem?_eq_none h] at hj; cases hj
      rw [List.flatMap_cons, Nat.zero_mul, Nat.zero_add, List.getElem?_append_left hlt]
      exact hj
    | succ m =>
      have ha : a.cs.length = 4 := rfl
      rw [List.flatMap_cons, List.getElem?_append_right (by rw [ha]; omega), ha, show (m + 1) * 4 + j - 4 = m * 4 + j by omega]
      exact ih m (by simpa using h)
theorem pts_len (l : List Pt) : (l.flatMap Pt.cs).length = l.length * 4 := by
  induction l with
  | nil => rfl
  | cons a t ih => rw [List.flatMap_cons, List.length_append, ih]; simp [Pt.cs]; omega
theorem RdP.len {w : World} {S : Nat → Prop} {A : Option Addr} {n : Nat} {l : List Pt} (h : RdP w S A n l) : l.length = n := by
  have := h.1
  rw [pts_len] at this
  omega
theorem Try.infoPt : (Try.prog.info? 30).map (fun i => (i.zero, i.size, i.bytes)) = some (some (.agg #[.int .i64 0, .int .i64 0, .int .i64 0, .int .i64 0]), 4, 32) := by kernel_rfl
theorem RdP.at4 {w : World} {S : Nat → Prop} {A : Option Addr} {n : Nat} {l : List Pt} (h : RdP w S A n l) (hn : 0 < n) :
    ∃ b off, A = some ⟨b, off, none⟩ ∧ S b ∧ ∀ W, Chg Nil w W → ∀ k ky x y v, l[k]? = some ⟨ky, x, y, v⟩ → W.cell? ⟨b, off + k * 4, none⟩ = some (.int .i64 ky) ∧ W.cell? ⟨b, off + k * 4 + 1, none⟩ = some (.int .i64 x) ∧
      W.cell? ⟨b, off + k * 4 + 2, none⟩ = some (.int .i64 y) ∧ W.cell? ⟨b, off + k * 4 + 3, none⟩ = some (.int .i64 v) := by
  obtain ⟨b, off, hA, hs, _, hx⟩ := Rds.plain h hn (by omega)
  refine ⟨b, off, hA, hs, fun W hc k ky x y v hk => ?_⟩
  have g := fun j u hj => hx (k * 4 + j) u (pts_get l k _ hk j u hj)
  exact ⟨hc.cell (g 0 _ rfl) (fun h => h), hc.cell (g 1 _ rfl) (fun h => h), hc.cell (g 2 _ rfl) (fun h => h), hc.cell (g 3 _ rfl) (fun h => h)⟩
theorem rdp_one (w : World) (o : Pt) : RdP (w.alloc (.cells o.cs.toArray 30)) (fun k => k = w.heap.size) (some ⟨w.heap.size, 0, none⟩) 1 [o] := by
  have hb := Bk.new w 30 o.cs.toArray
  refine ⟨by rw [pts_len]; rfl, fun _ => ⟨_, rfl, rfl, fun j u hu => ?_⟩⟩
  have hu' : o.cs.toArray[j]? = some u := by simpa using hu
  have := hb.cell j hu'
  unfold Addr.add
  split
  · next h0 => subst h0; exact this
  · simpa using this
theorem pts_one (l : List Pt) : ∀ u ∈ l.flatMap Pt.cs, u.oneCell' = true := by
  intro u hu
  obtain ⟨o, _, hu⟩ := List.mem_flatMap.1 hu
  simp [Pt.cs] at hu
  rcases hu with rfl | rfl | rfl | rfl <;> rfl
theorem After.chgN {w w' : World} (x : After w) (h : Chg Nil x.world w') : ∃ y : After w, w' = y.world := ⟨⟨w', x.below.trans (h.below_nil.mono x.below.size)⟩, rfl⟩
theorem After.callN {P : Program} {w : World} {f : FuncId} {args : Array Value} {r : Value} (h : ∀ W : World, Calls P f args W (fun e w' => e = .returned r ∧ Chg Nil W w')) (x : After w) :
    Calls P f args x.world (fun e w' => e = .returned r ∧ ∃ y : After w, w' = y.world) := (h x.world).mono fun _ _ ⟨h1, h2⟩ => ⟨h1, x.chgN h2⟩

set_option maxHeartbeats 1000000 in
set_option maxRecDepth 100000 in
theorem samePts_any (A1 A2 : Option Addr) (n c1 c2 : Nat) (l : List Pt) (S1 S2 : Nat → Prop) (w : World) (h1 : RdP w S1 A1 n l) (h2 : RdP w S2 A2 n l) (hn : n ≤ 9223372036854775807) :
    Calls Try.prog 21 #[.slice A1 n c1, .slice A2 n c2] w fun e w' => e = .returned (.bool true) ∧ Chg Nil w w' := by
  have hl := h1.len
  have HR := Hid.mk (And.intro h1 h2)
  clear h1 h2
  go_enter Try.func21, Try.ntmps21
  go_wp2_with fail
  go_loopw [5] (fun i wr => ∃ k : Nat, k ≤ n ∧ i = .int .i64 (k : Int) ∧ Chg Nil w wr) (fun i _ => n - (intOf i).toNat)
  case atStart => exact ⟨0, Nat.zero_le _, rfl, Chg.refl _ _⟩
  case round =>
    obtain ⟨k, hk, rfl, hch⟩ := hrel
    by_cases hlt : k < n
    · obtain ⟨b, off, rfl, _, hat⟩ := HR.out.1.at4 (by omega)
      obtain ⟨b', off', rfl, _, hat'⟩ := HR.out.2.at4 (by omega)
      have ho : l[k]? = some (l[k]'(by omega)) := List.getElem?_eq_getElem (by omega)
      generalize l[k]'(by omega) = o at ho
      obtain ⟨ky, x, y, v⟩ := o
      have x0 := fun nq => (hat (wr.drewN nq) (hch.drewN nq) k ky x y v ho).1
      have x1 := fun nq => (hat (wr.drewN nq) (hch.drewN nq) k ky x y v ho).2.1
      have x2 := fun nq => (hat (wr.drewN nq) (hch.drewN nq) k ky x y v ho).2.2.1
      have x3 := fun nq => (hat (wr.drewN nq) (hch.drewN nq) k ky x y v ho).2.2.2
      have y0 := fun nq => (hat' (wr.drewN nq) (hch.drewN nq) k ky x y v ho).1
      have y1 := fun nq => (hat' (wr.drewN nq) (hch.drewN nq) k ky x y v ho).2.1
      have y2 := fun nq => (hat' (wr.drewN nq) (hch.drewN nq) k ky x y v ho).2.2.1
      have y3 := fun nq => (hat' (wr.drewN nq) (hch.drewN nq) k ky x y v ho).2.2.2
      have HK := Hid.mk hch
      clear hch hat hat' ho
      go_wp2_with fail
      go_quiet (fail)
      go_wp2_with fail
      go_roundw
      case rel => exact ⟨k + 1, by omega, by go_num, HK.out.drewN _⟩
      case measure => simp [intOf]; omega
    · have hkn : k = n := by omega
      subst hkn
      have HK := Hid.mk hch
      clear hch
      go_wp2_with fail
      go_ret
      exact ⟨rfl, HK.out⟩

/-- The bytes of points. -/
def ptsB (l : List Pt) : List UInt8 := l.flatMap Pt.bytes
theorem pt_len16 (p : Pt) : p.bytes.length = 16 := by simp [Pt.bytes, numsB, Pt.is, numB_len]
theorem ptsB_len (l : List Pt) : (ptsB l).length = 16 * l.length := by
  induction l with
  | nil => rfl
  | cons a t ih =>
    have h : ptsB (a :: t) = a.bytes ++ ptsB t := rfl
    rw [h, List.length_append, ih, pt_len16, List.length_cons]
    omega
theorem ptsB_take (l : List Pt) (k : Nat) (o : Pt) (h : l[k]? = some o) : ptsB (l.take (k + 1)) = ptsB (l.take k) ++ o.bytes := by
  rw [List.take_add_one, h]
  simp [ptsB]

end Go.Proofs.Ytanipieeegeheaa
namespace Go.Proofs.Ytanipieeegeheaa
open Go.RowKit

/-- May the k-th stand there? -/
def okAt (l : List Pt) (k : Nat) : Bool :=
  match l[k]? with
  | some p => p.ok && (decide (k = 0) || match l[k - 1]? with | some q => decide (q.key < p.key) | none => true)
  | none => true
def risesP (l : List Pt) : Bool := (List.range l.length).all (okAt l)
def mayP (l : List Pt) : Nat := if 20000 < l.length then 11 else if risesP l then 0 else 1
theorem risesP_no {l : List Pt} {k : Nat} (hk : k < l.length) (h : okAt l k = false) : risesP l = false := by
  unfold risesP
  rw [List.all_eq_false]
  exact ⟨k, List.mem_range.2 hk, by rw [h]; decide⟩
theorem risesP_yes {l : List Pt} (h : ∀ k, k < l.length → okAt l k = true) : risesP l = true := by
  unfold risesP
  rw [List.all_eq_true]
  exact fun k hk => h k (List.mem_range.1 hk)
theorem risesP_at {l : List Pt} (h : risesP l = true) {k : Nat} (hk : k < l.length) : okAt l k = true := by
  unfold risesP at h
  rw [List.all_eq_true] at h
  exact h k (List.mem_range.2 hk)
theorem okAt_zero {l : List Pt} {p : Pt} (h : l[0]? = some p) : okAt l 0 = p.ok := by simp [okAt, h]
theorem okAt_succ {l : List Pt} {k : Nat} {p q : Pt} (h : l[k]? = some p) (hk : 0 < k) (hq : l[k - 1]? = some q) : okAt l k = (p.ok && decide (q.key < p.key)) := by
  have : decide (k = 0) = false := decide_eq_false (by omega)
  simp [okAt, h, hq, this]

set_option maxHeartbeats 2000000 in
set_option maxRecDepth 100000 in
theorem rises_any (A : Option Addr) (n c : Nat) (l : List Pt) (S : Nat → Prop) (w : World) (hr : RdP w S A n l) (hn : n ≤ 9223372036854775807) :
    Calls Try.prog 89 #[.slice A n c] w fun e w' => e = .returned (.bool (risesP l)) ∧ Chg Nil w w' := by
  have hl := hr.len
  have HR := Hid.mk hr
  clear hr
  go_enter Try.func89, Try.ntmps89
  go_wp2_with fail
  go_loopw [3, 4, 7] (fun _ _ i wr => ∃ k : Nat, k ≤ n ∧ i = .int .i64 (k : Int) ∧ Chg Nil w wr ∧ ∀ j, j < k → okAt l j = true) (fun _ _ i _ => n - (intOf i).toNat)
  case atStart => exact ⟨0, Nat.zero_le _, rfl, Chg.refl _ _, fun j hj => by omega⟩
  case round =>
    obtain ⟨k, hk, rfl, hch, hall⟩ := hrel
    by_cases hlt : k < n
    · obtain ⟨b, off, rfl, _, hat⟩ := HR.out.at4 (by omega)
      have ho : l[k]? = some (l[k]'(by omega)) := List.getElem?_eq_getElem (by omega)
      generalize l[k]'(by omega) = o at ho
      have HO := Hid.mk (fun (wb : World) => After.callN (w := wb) (fun W => okPoint_any o W))
      have hk0 := fun h0 : k = 0 => okAt_zero (l := l) (p := o) (by rw [← h0]; exact ho)
      have hks := fun (h0 : 0 < k) q hq => okAt_succ (l := l) (k := k) (p := o) (q := q) ho h0 hq
      generalize hb : o.ok = bo at *
      obtain ⟨ky, x, y, v⟩ := o
      simp only [Pt.cs] at HO
      obtain ⟨c0, c1, c2, c3⟩ := hat wr hch k ky x y v ho
      have hB := Bk.new wr 30 #[.int .i64 ky, .int .i64 x, .int .i64 y, .int .i64 v]
      have hA : Chg Nil wr (wr.alloc (.cells #[.int .i64 ky, .int .i64 x, .int .i64 y, .int .i64 v] 30)) := (Chg.refl _ _).alloc _
      cases bo with
      | false =>
        have hno : risesP l = false := by
          refine risesP_no (k := k) (by omega) ?_
          rcases Nat.eq_zero_or_pos k with h0 | h0
          · subst h0; exact hk0 rfl
          · rw [hks h0 _ (List.getElem?_eq_getElem (show k - 1 < l.length by omega))]; rfl
        have HK := Hid.mk (And.intro hch hno)
        clear hch hall hat hk0 hks ho hno
        go_upto_region 4 with fail
        generalize wr.alloc (.cells #[.int .i64 ky, .int .i64 x, .int .i64 y, .int .i64 v] 30) = wb at *
        have y0 : ∀ z : After wb, z.world.cell? ⟨wr.heap.size, 0, none⟩ = some (.int .i64 ky) := fun z => z.chg.cell (hB.cell 0 rfl) (fun h => h)
        have y1 : ∀ z : After wb, z.world.cell? ⟨wr.heap.size, 1, none⟩ = some (.int .i64 x) := fun z => z.chg.cell (hB.cell 1 rfl) (fun h => h)
        have y2 : ∀ z : After wb, z.world.cell? ⟨wr.heap.size, 2, none⟩ = some (.int .i64 y) := fun z => z.chg.cell (hB.cell 2 rfl) (fun h => h)
        have y3 : ∀ z : After wb, z.world.cell? ⟨wr.heap.size, 3, none⟩ = some (.int .i64 v) := fun z => z.chg.cell (hB.cell 3 rfl) (fun h => h)
        have H1 := Hid.mk (And.intro (HK.out.1.trans hA (fun _ _ h => h)) HK.out.2)
        clear hA hB HK
        have hne := After.some wb
        refine wp_region_after (by kernel_rfl) (by kernel_rfl) ?_
        repeat (go_big_quiet_step (exact HO.out _ _))
        refine wpQuiet_nil ?_
        rintro _ ⟨z, rfl⟩
        have H2 := Hid.mk (H1.out.1.trans z.chg (fun _ _ h => h))
        go_wp2_with fail
        go_ret
        rw [H1.out.2]
        exact ⟨rfl, H2.out⟩
      | true =>
        rcases Nat.eq_zero_or_pos k with h0 | h0
        · subst h0
          have hy := hk0 rfl
          simp only [Nat.zero_mul, Nat.add_zero] at c0 c1 c2 c3
          have HK := Hid.mk (And.intro hch (And.intro hall hy))
          clear hch hall hat hk0 hks ho hy
          go_upto_region 4 with fail
          generalize wr.alloc (.cells #[.int .i64 ky, .int .i64 x, .int .i64 y, .int .i64 v] 30) = wb at *
          have y0 : ∀ z : After wb, z.world.cell? ⟨wr.heap.size, 0, none⟩ = some (.int .i64 ky) := fun z => z.chg.cell (hB.cell 0 rfl) (fun h => h)
          have y1 : ∀ z : After wb, z.world.cell? ⟨wr.heap.size, 1, none⟩ = some (.int .i64 x) := fun z => z.chg.cell (hB.cell 1 rfl) (fun h => h)
          have y2 : ∀ z : After wb, z.world.cell? ⟨wr.heap.size, 2, none⟩ = some (.int .i64 y) := fun z => z.chg.cell (hB.cell 2 rfl) (fun h => h)
          have y3 : ∀ z : After wb, z.world.cell? ⟨wr.heap.size, 3, none⟩ = some (.int .i64 v) := fun z => z.chg.cell (hB.cell 3 rfl) (fun h => h)
          have H1 := Hid.mk (HK.out.1.trans hA (fun _ _ h => h))
          clear hA hB
          have hne := After.some wb
          refine wp_region_after (by kernel_rfl) (by kernel_rfl) ?_
          repeat (go_big_quiet_step (exact HO.out _ _))
          refine wpQuiet_nil ?_
          rintro _ ⟨z, rfl⟩
          have H2 := Hid.mk (H1.out.trans z.chg (fun _ _ h => h))
          go_wp2_with fail
          go_roundw
          case rel => exact ⟨1, by omega, by go_num, H2.out, fun j hj => by
            obtain rfl : j = 0 := by omega
            exact HK.out.2.2⟩
          case measure => simp [intOf]; omega
        · obtain ⟨m, rfl⟩ : ∃ m, k = m + 1 := ⟨k - 1, by omega⟩
          have hq : l[m + 1 - 1]? = some (l[m]'(by omega)) := List.getElem?_eq_getElem (by omega)
          have hst := hks h0 _ hq
          have hq' : l[m]? = some (l[m]'(by omega)) := hq
          generalize l[m]'(by omega) = q at *
          obtain ⟨qy, qx, qz, qv⟩ := q
          simp only at hst
          have c4 := (hat _ (hch.trans hA (fun _ _ h => h)) m qy qx qz qv hq').1
          by_cases hge : qy < ky
          · have hd : decide (qy < ky) = true := decide_eq_true hge
            have hd2 : decide (ky ≤ qy) = false := decide_eq_false (by omega)
            rw [hd] at hst
            have HK := Hid.mk (And.intro hch (And.intro hall hst))
            clear hch hall hat hk0 hks ho hst hq hq'
            go_upto_region 4 with fail
            generalize wr.alloc (.cells #[.int .i64 ky, .int .i64 x, .int .i64 y, .int .i64 v] 30) = wb at *
            have y0 : ∀ z : After wb, z.world.cell? ⟨wr.heap.size, 0, none⟩ = some (.int .i64 ky) := fun z => z.chg.cell (hB.cell 0 rfl) (fun h => h)
            have y1 : ∀ z : After wb, z.world.cell? ⟨wr.heap.size, 1, none⟩ = some (.int .i64 x) := fun z => z.chg.cell (hB.cell 1 rfl) (fun h => h)
            have y2 : ∀ z : After wb, z.world.cell? ⟨wr.heap.size, 2, none⟩ = some (.int .i64 y) := fun z => z.chg.cell (hB.cell 2 rfl) (fun h => h)
            have y3 : ∀ z : After wb, z.world.cell? ⟨wr.heap.size, 3, none⟩ = some (.int .i64 v) := fun z => z.chg.cell (hB.cell 3 rfl) (fun h => h)
            have y4 : ∀ z : After wb, z.world.cell? ⟨b, off + m * 4, none⟩ = some (.int .i64 qy) := fun z => z.chg.cell c4 (fun h => h)
            have H1 := Hid.mk (HK.out.1.trans hA (fun _ _ h => h))
            clear hA hB
            have hne := After.some wb
            refine wp_region_after (by kernel_rfl) (by kernel_rfl) ?_
            repeat (go_big_quiet_step (exact HO.out _ _))
            refine wpQuiet_nil ?_
            rintro _ ⟨z, rfl⟩
            have H2 := Hid.mk (H1.out.trans z.chg (fun _ _ h => h))
            go_wp2_with fail
            go_roundw
            case rel => exact ⟨m + 1 + 1, by omega, by go_num, H2.out, fun j hj => by
              rcases Nat.lt_or_ge j (m + 1) with h | h
              · exact HK.out.2.1 j h
              · obtain rfl : j = m + 1 := by omega
                rw [HK.out.2.2]; rfl⟩
            case measure => simp [intOf]; omega
          · have hd : decide (qy < ky) = false := decide_eq_false hge
            have hd2 : decide (ky ≤ qy) = true := decide_eq_true (by omega)
            rw [hd] at hst
            have hno : risesP l = false := risesP_no (k := m + 1) (by omega) (by rw [hst]; rfl)
            have HK := Hid.mk (And.intro hch hno)
            clear hch hall hat hk0 hks ho hst hq hq' hno
            go_upto_region 4 with fail
            generalize wr.alloc (.cells #[.int .i64 ky, .int .i64 x, .int .i64 y, .int .i64 v] 30) = wb at *
            have y0 : ∀ z : After wb, z.world.cell? ⟨wr.heap.size, 0, none⟩ = some (.int .i64 ky) := fun z => z.chg.cell (hB.cell 0 rfl) (fun h => h)
            have y1 : ∀ z : After wb, z.world.cell? ⟨wr.heap.size, 1, none⟩ = some (.int .i64 x) := fun z => z.chg.cell (hB.cell 1 rfl) (fun h => h)
            have y2 : ∀ z : After wb, z.world.cell? ⟨wr.heap.size, 2, none⟩ = some (.int .i64 y) := fun z => z.chg.cell (hB.cell 2 rfl) (fun h => h)
            have y3 : ∀ z : After wb, z.world.cell? ⟨wr.heap.size, 3, none⟩ = some (.int .i64 v) := fun z => z.chg.cell (hB.cell 3 rfl) (fun h => h)
            have y4 : ∀ z : After wb, z.world.cell? ⟨b, off + m * 4, none⟩ = some (.int .i64 qy) := fun z => z.chg.cell c4 (fun h => h)
            have H1 := Hid.mk (And.intro (HK.out.1.trans hA (fun _ _ h => h)) HK.out.2)
            clear hA hB HK
            have hne := After.some wb
            refine wp_region_after (by kernel_rfl) (by kernel_rfl) ?_
            repeat (go_big_quiet_step (exact HO.out _ _))
            refine wpQuiet_nil ?_
            rintro _ ⟨z, rfl⟩
            have H2 := Hid.mk (H1.out.1.trans z.chg (fun _ _ h => h))
            go_wp2_with fail
            go_ret
            rw [H1.out.2]
            exact ⟨rfl, H2.out⟩
    · have hkn : k = n := by omega
      subst hkn
      have hy := risesP_yes (l := l) (fun j hj => hall j (by omega))
      have HK := Hid.mk (And.intro hch hy)
      clear hch hall hy
      go_wp2_with fail
      go_ret
      rw [HK.out.2]
      exact ⟨rfl, HK.out.1⟩

end Go.Proofs.Ytanipieeegeheaa
namespace Go.Proofs.Ytanipieeegeheaa
open Go.RowKit

theorem mayP_no {l : List Pt} (h : ¬ 20000 < l.length) (hr : risesP l = false) : mayP l = 1 := by
  unfold mayP
  rw [if_neg h, hr]
  rfl
theorem mayP_yes {l : List Pt} (h : ¬ 20000 < l.length) (hr : risesP l = true) : mayP l = 0 := by
  unfold mayP
  rw [if_neg h, hr]
  rfl

set_option maxHeartbeats 2000000 in
set_option maxRecDepth 100000 in
theorem pointsMay_any (A : Option Addr) (n c : Nat) (l : List Pt) (S : Nat → Prop) (w : World) (hr : RdP w S A n l) (hn : n ≤ 9223372036854775807) :
    Calls Try.prog 25 #[.slice A n c] w fun e w' => e = .returned (.int .i64 (mayP l : Nat)) ∧ Chg Nil w w' := by
  have hl := hr.len
  by_cases hbig : 20000 < n
  · have he : mayP l = 11 := by unfold mayP; rw [if_pos (by omega)]
    rw [he]
    go_enter Try.func25, Try.ntmps25
    go_wp2
    go_ret
    exact ⟨rfl, Chg.refl _ _⟩
  have HR := Hid.mk hr
  clear hr
  go_enter Try.func25, Try.ntmps25
  go_wp2_with fail
  go_loopw [3] (fun i wr => ∃ k : Nat, k ≤ n ∧ i = .int .i64 (k : Int) ∧ Chg Nil w wr ∧ ∀ j, j < k → okAt l j = true) (fun i _ => n - (intOf i).toNat)
  case atStart => exact ⟨0, Nat.zero_le _, rfl, Chg.refl _ _, fun j hj => by omega⟩
  case round =>
    obtain ⟨k, hk, rfl, hch, hall⟩ := hrel
    by_cases hlt : k < n
    · obtain ⟨b, off, rfl, _, hat⟩ := HR.out.at4 (by omega)
      have ho : l[k]? = some (l[k]'(by omega)) := List.getElem?_eq_getElem (by omega)
      generalize l[k]'(by omega) = o at ho
      have HO := Hid.mk (fun (wb : World) => After.callN (w := wb) (fun W => rpointOk_any o W))
      have hk0 := fun h0 : k = 0 => okAt_zero (l := l) (p := o) (by rw [← h0]; exact ho)
      have hks := fun (h0 : 0 < k) q hq => okAt_succ (l := l) (k := k) (p := o) (q := q) ho h0 hq
      generalize hb : o.ok = bo at *
      obtain ⟨ky, x, y, v⟩ := o
      simp only [Pt.cs] at HO
      have y0 : ∀ z : After wr, z.world.cell? ⟨b, off + k * 4, none⟩ = some (.int .i64 ky) := fun z => (hat z.world (hch.trans z.chg (fun _ _ h => h)) k ky x y v ho).1
      have y1 : ∀ z : After wr, z.world.cell? ⟨b, off + k * 4 + 1, none⟩ = some (.int .i64 x) := fun z => (hat z.world (hch.trans z.chg (fun _ _ h => h)) k ky x y v ho).2.1
      have y2 : ∀ z : After wr, z.world.cell? ⟨b, off + k * 4 + 2, none⟩ = some (.int .i64 y) := fun z => (hat z.world (hch.trans z.chg (fun _ _ h => h)) k ky x y v ho).2.2.1
      have y3 : ∀ z : After wr, z.world.cell? ⟨b, off + k * 4 + 3, none⟩ = some (.int .i64 v) := fun z => (hat z.world (hch.trans z.chg (fun _ _ h => h)) k ky x y v ho).2.2.2
      have hne := After.some wr
      cases bo with
      | false =>
        have hno : mayP l = 1 := by
          refine mayP_no (by omega) (risesP_no (k := k) (by omega) ?_)
          rcases Nat.eq_zero_or_pos k with h0 | h0
          · subst h0; exact hk0 rfl
          · rw [hks h0 _ (List.getElem?_eq_getElem (show k - 1 < l.length by omega))]; rfl
        have HK := Hid.mk (And.intro hch hno)
        clear hch hall hat hk0 hks ho hno
        go_upto_region 6 with fail
        refine wp_region_after (by kernel_rfl) (by kernel_rfl) ?_
        repeat (go_big_quiet_step (exact HO.out _ _))
        refine wpQuiet_nil ?_
        rintro _ ⟨z, rfl⟩
        have H2 := Hid.mk (HK.out.1.trans z.chg (fun _ _ h => h))
        go_wp2_with fail
        go_ret
        rw [HK.out.2]
        exact ⟨rfl, H2.out⟩
      | true =>
        rcases Nat.eq_zero_or_pos k with h0 | h0
        · subst h0
          have hy := hk0 rfl
          simp only [Nat.zero_mul, Nat.add_zero] at y0 y1 y2 y3
          have HK := Hid.mk (And.intro hch (And.intro hall hy))
          clear hch hall hat hk0 hks ho hy
          go_upto_region 6 with fail
          refine wp_region_after (by kernel_rfl) (by kernel_rfl) ?_
          repeat (go_big_quiet_step (exact HO.out _ _))
          refine wpQuiet_nil ?_
          rintro _ ⟨z, rfl⟩
          have H2 := Hid.mk (HK.out.1.trans z.chg (fun _ _ h => h))
          go_wp2_with fail
          go_roundw
          case rel => exact ⟨1, by omega, by go_num, H2.out, fun j hj => by
            obtain rfl : j = 0 := by omega
            exact HK.out.2.2⟩
          case measure => simp [intOf]; omega
        · obtain ⟨m, rfl⟩ : ∃ m, k = m + 1 := ⟨k - 1, by omega⟩
          have hq : l[m + 1 - 1]? = some (l[m]'(by omega)) := List.getElem?_eq_getElem (by omega)
          have hst := hks h0 _ hq
          have hq' : l[m]? = some (l[m]'(by omega)) := hq
          generalize l[m]'(by omega) = q at *
          obtain ⟨qy, qx, qz, qv⟩ := q
          simp only at hst
          have y4 : ∀ z : After wr, z.world.cell? ⟨b, off + m * 4, none⟩ = some (.int .i64 qy) := fun z => (hat z.world (hch.trans z.chg (fun _ _ h => h)) m qy qx qz qv hq').1
          by_cases hge : qy < ky
          · have hd : decide (qy < ky) = true := decide_eq_true hge
            have hd2 : decide (ky ≤ qy) = false := decide_eq_false (by omega)
            rw [hd] at hst
            have HK := Hid.mk (And.intro hch (And.intro hall hst))
            clear hch hall hat hk0 hks ho hst hq hq'
            go_upto_region 6 with fail
            refine wp_region_after (by kernel_rfl) (by kernel_rfl) ?_
            repeat (go_big_quiet_step (exact HO.out _ _))
            refine wpQuiet_nil ?_
            rintro _ ⟨z, rfl⟩
            have H2 := Hid.mk (HK.out.1.trans z.chg (fun _ _ h => h))
            go_wp2_with fail
            go_roundw
            case rel => exact ⟨m + 1 + 1, by omega, by go_num, H2.out, fun j hj => by
              rcases Nat.lt_or_ge j (m + 1) with h | h
              · exact HK.out.2.1 j h
              · obtain rfl : j = m + 1 := by omega
                rw [HK.out.2.2]; rfl⟩
            case measure => simp [intOf]; omega
          · have hd : decide (qy < ky) = false := decide_eq_false hge
            have hd2 : decide (ky ≤ qy) = true := decide_eq_true (by omega)
            rw [hd] at hst
            have hno : mayP l = 1 := mayP_no (by omega) (risesP_no (k := m + 1) (by omega) (by rw [hst]; rfl))
            have HK := Hid.mk (And.intro hch hno)
            clear hch hall hat hk0 hks ho hst hq hq' hno
            go_upto_region 6 with fail
            refine wp_region_after (by kernel_rfl) (by kernel_rfl) ?_
            repeat (go_big_quiet_step (exact HO.out _ _))
            refine wpQuiet_nil ?_
            rintro _ ⟨z, rfl⟩
            have H2 := Hid.mk (HK.out.1.trans z.chg (fun _ _ h => h))
            go_wp2_with fail
            go_ret
            rw [HK.out.2]
            exact ⟨rfl, H2.out⟩
    · have hkn : k = n := by omega
      subst hkn
      have hy := mayP_yes (l := l) (by omega) (risesP_yes (l := l) (fun j hj => hall j (by omega)))
      have HK := Hid.mk (And.intro hch hy)
      clear hch hall hy
      go_wp2_with fail
      go_ret
      rw [HK.out.2]
      exact ⟨rfl, HK.out.1⟩

set_option maxHeartbeats 2000000 in
set_option maxRecDepth 100000 in
theorem points_bad (A : Option Addr) (n c : Nat) (l : List Pt) (S : Nat → Prop) (w : World) (hr : RdP w S A n l) (hn : n ≤ 9223372036854775807) (hE : mayP l ≠ 0) :
    Calls Try.prog 90 #[.slice A n c] w fun e w' => e = .returned (.tuple #[.slice none 0 0, .int .i64 (mayP l : Nat)]) ∧ Chg Nil w w' := by
  have hl := hr.len
  by_cases hbig : 20000 < n
  · have he : mayP l = 11 := by unfold mayP; rw [if_pos (by omega)]
    rw [he]
    go_enter Try.func90, Try.ntmps90
    go_wp2
    go_ret2
    exact ⟨rfl, Chg.refl _ _⟩
  · have hrf : risesP l = false := by
      cases h : risesP l with
      | false => rfl
      | true => exact absurd (mayP_yes (by omega) h) hE
    have he := mayP_no (l := l) (by omega) hrf
    have hR := rises_any A n c l S w hr hn
    rw [hrf] at hR
    rw [he]
    have HR := Hid.mk hR
    clear hR hr hrf he hE
    go_enter Try.func90, Try.ntmps90
    go_wp2_with fail
    refine HR.out.mono ?_
    rintro e w1 ⟨rfl, hc1⟩
    have H1 := Hid.mk hc1
    clear hc1
    go_wp2_with fail
    go_ret2
    exact ⟨rfl, H1.out⟩

set_option maxHeartbeats 2000000 in
set_option maxRecDepth 100000 in
theorem points_ok (A : Option Addr) (n c : Nat) (l : List Pt) (S : Nat → Prop) (w : World) (hr : RdP w S A n l) (hE : mayP l = 0) :
    Calls Try.prog 90 #[.slice A n c] w fun e w' => ∃ v, e = .returned (.tuple #[v, .int .i64 0]) ∧ Chg Nil w w' ∧ w'.ownsRow w.heap.size 5 1 v (ptsB l).length ((ptsB l).map bv) := by
  have hl := hr.len
  have hbig : ¬ 20000 < n := fun h => by unfold mayP at hE; rw [if_pos (by omega)] at hE; cases hE
  have hrt : risesP l = true := by
    cases h : risesP l with
    | true => rfl
    | false => rw [mayP_no (by omega) h] at hE; cases hE
  have hR := rises_any A n c l S w hr (by omega)
  rw [hrt] at hR
  have HR := Hid.mk (And.intro hR hr)
  clear hR hr hrt hE
  go_enter Try.func90, Try.ntmps90
  go_wp2_with fail
  refine HR.out.1.mono ?_
  rintro e w1 ⟨rfl, hc1⟩
  have H1 := Hid.mk hc1
  clear hc1
  go_wp2_with fail
  go_loopw [4, 6, 17] (fun vb _ i wr => ∃ k : Nat, k ≤ n ∧ i = .int .i64 (k : Int) ∧ Chg Nil w wr ∧ wr.ownsRow w.heap.size 5 1 vb (16 * k) ((ptsB (l.take k)).map bv)) (fun _ _ i _ => n - (intOf i).toNat)
  case atStart => exact ⟨0, Nat.zero_le _, rfl, H1.out, ⟨rfl, .inl ⟨rfl, rfl⟩⟩⟩
  case round =>
    obtain ⟨k, hk, rfl, hch, hown⟩ := hrel
    by_cases hlt : k < n
    · obtain ⟨b, off, rfl, _, hat⟩ := HR.out.2.at4 (by omega)
      have ho : l[k]? = some (l[k]'(by omega)) := List.getElem?_eq_getElem (by omega)
      generalize l[k]'(by omega) = o at ho
      have hst := ptsB_take l k o ho
      have HP := Hid.mk (fun W v xs hown hb => put_any w.heap.size v (16 * k) xs o W (by omega) hown hb)
      obtain ⟨ky, x, y, v⟩ := o
      simp only [Pt.cs] at HP
      obtain ⟨c0, c1, c2, c3⟩ := hat wr hch k ky x y v ho
      have hsz := hch.size
      have HK := Hid.mk (And.intro hch (And.intro hown hst))
      clear hch hown hst hat ho
      go_wp2_with fail
      refine (HP.out _ _ _ (HK.out.2.1.alloc _) (by simp; omega)).mono ?_
      rintro e w2 ⟨v', rfl, hown2, hg2⟩
      have hc2 : Chg Nil w w2 := (HK.out.1.alloc _).trans hg2.chg (fun i hi hm => by
        have := own_ge HK.out.2.1 i hm
        omega)
      have H2 := Hid.mk (And.intro hc2 hown2)
      clear hc2 hown2 hg2
      go_wp2_with fail
      go_roundw
      case rel =>
        refine ⟨k + 1, by omega, by go_num, H2.out.1, ?_⟩
        rw [HK.out.2.2, List.map_append]
        exact H2.out.2
      case measure => simp [intOf]; omega
    · have hkn : k = n := by omega
      subst hkn
      rw [List.take_of_length_le (by omega)] at hown
      have hpl := ptsB_len l
      have HK := Hid.mk (And.intro hch hown)
      clear hch hown
      go_wp2_with fail
      go_ret2
      exact ⟨_, rfl, HK.out.1, by rw [hpl, hl]; exact HK.out.2⟩

end Go.Proofs.Ytanipieeegeheaa
namespace Go.Proofs.Ytanipieeegeheaa
open Go.RowKit

/-- So many points of bytes. -/
def ptsOf : Nat → List UInt8 → List Pt
  | 0, _ => []
  | k + 1, b => unPt b :: ptsOf k (b.drop 16)
theorem ptsOf_len : ∀ (m : Nat) (b : List UInt8), (ptsOf m b).length = m
  | 0, _ => rfl
  | m + 1, b => by rw [ptsOf, List.length_cons, ptsOf_len m]
theorem ptsOf_get : ∀ (m k : Nat) (b : List UInt8), k < m → (ptsOf m b)[k]? = some (unPt (b.drop (16 * k)))
  | m + 1, 0, b, _ => rfl
  | m + 1, k + 1, b, h => by
    rw [ptsOf, List.getElem?_cons_succ, ptsOf_get m k _ (by omega), List.drop_drop, show 16 + 16 * k = 16 * (k + 1) by omega]
theorem ptsOf_take (m k : Nat) (b : List UInt8) (h : k < m) : (ptsOf m b).take (k + 1) = (ptsOf m b).take k ++ [unPt (b.drop (16 * k))] := by
  rw [List.take_add_one, ptsOf_get m k b h]
  rfl
def readP (b : List UInt8) : Option (List Pt) := if b.length % 16 ≠ 0 then none else if mayP (ptsOf (b.length / 16) b) = 0 then some (ptsOf (b.length / 16) b) else none
theorem pt_back (p : Pt) (t : List UInt8) (h : p.ok = true) : unPt (p.bytes ++ t) = p := by
  simp only [Pt.ok, keyOk, inOk, Bool.and_eq_true, decide_eq_true_eq] at h
  obtain ⟨k, x, y, v⟩ := p
  simp only at h
  have hu := pt_parts ⟨k, x, y, v⟩ t
  simp only at hu
  rw [un_small k (by omega) (by omega), un_small x (by omega) (by omega), un_small y (by omega) (by omega), un_neg v (by omega) (by omega)] at hu
  exact hu
theorem ptsOf_back : ∀ (l : List Pt), (∀ p ∈ l, p.ok = true) → ptsOf l.length (ptsB l) = l
  | [], _ => rfl
  | p :: l, h => by
    have hb : ptsB (p :: l) = p.bytes ++ ptsB l := rfl
    rw [List.length_cons, hb, ptsOf, pt_back p _ (h p (by simp)), drop_len_append _ _ _ (pt_len16 p), ptsOf_back l (fun q hq => h q (by simp [hq]))]
theorem mayP_zero {l : List Pt} (h : mayP l = 0) : l.length ≤ 20000 ∧ risesP l = true := by
  unfold mayP at h
  split at h
  · cases h
  · split at h
    · exact ⟨by omega, ‹_›⟩
    · cases h
theorem risesP_ok {l : List Pt} (h : risesP l = true) : ∀ p ∈ l, p.ok = true := by
  intro p hp
  obtain ⟨k, hk, he⟩ := List.mem_iff_getElem.1 hp
  have := risesP_at h hk
  unfold okAt at this
  rw [List.getElem?_eq_getElem hk, he] at this
  simp only [Bool.and_eq_true] at this
  exact this.1
theorem readP_back (l : List Pt) (h : mayP l = 0) : readP (ptsB l) = some l := by
  have hl := ptsB_len l
  have hb := ptsOf_back l (risesP_ok (mayP_zero h).2)
  unfold readP
  rw [hl, if_neg (by omega), show 16 * l.length / 16 = l.length by omega, hb, if_pos h]
/-- What Read answers. -/
def PtsIs (B : Nat) (r : Option (List Pt)) (e : Ending) (w' : World) : Prop :=
  match r with
  | some l => ∃ v, e = .returned (.tuple #[v, .int .i64 0]) ∧ w'.ownsRow B 30 4 v l.length (l.flatMap Pt.cs)
  | none => e = .returned (.tuple #[.slice none 0 0, .int .i64 10])
theorem pts_row {S : Nat → Prop} {w wr W w2 : World} {u v2 : Value} {X : List Pt} {o : Pt} {ob : Obj} {T : TypeId} (hown : wr.ownsRow w.heap.size T 4 u X.length (X.flatMap Pt.cs)) (hc : Chg S w wr) (hW : Chg S wr W)
    (o2 : w2.ownsRow w.heap.size T 4 v2 (X.length + 1) (X.flatMap Pt.cs ++ o.cs)) (g2 : Grew (W.alloc ob) u w2 v2) :
    w2.ownsRow w.heap.size T 4 v2 (X ++ [o]).length ((X ++ [o]).flatMap Pt.cs) ∧ Chg S w w2 := by
  refine ⟨by simpa using o2, ((hc.trans hW (fun _ _ h => h)).trans ((Chg.refl S W).alloc ob) (fun _ _ h => h)).trans g2.chg (fun i hi hm => ?_)⟩
  have := own_ge hown i hm
  omega

set_option maxHeartbeats 2000000 in
set_option maxRecDepth 100000 in
theorem readpts_any (A : Option Addr) (c n : Nat) (bs : List UInt8) (S : Nat → Prop) (w : World) (hr : RdB w S A n bs) (hc : n ≤ c) (hcm : c ≤ maxLen) :
    Calls Try.prog 67 #[.slice A n c] w fun e w' => PtsIs w.heap.size (readP bs) e w' ∧ Chg Nil w w' := by
  obtain ⟨i0, hi, hz0, hz1, hz2⟩ := info_parts Try.infoPt
  have hnl := hr.len
  by_cases h16 : n % 16 = 0
  rotate_left
  · have hr' : readP bs = none := by unfold readP; rw [hnl, if_pos h16]
    rw [hr']
    have hd : (((n : Int) % 16) == 0) = false := by rw [beq_eq_false_iff_ne]; omega
    clear hr'
    go_enter Try.func67, Try.ntmps67
    go_wp2_with fail
    go_ret2
    exact ⟨rfl, Chg.refl _ _⟩
  have hd : (((n : Int) % 16) == 0) = true := by rw [beq_iff_eq]; omega
  obtain ⟨m, hm⟩ : ∃ m, n / 16 = m := ⟨_, rfl⟩
  have hrd : readP bs = if mayP (ptsOf m bs) = 0 then some (ptsOf m bs) else none := by unfold readP; rw [hnl, if_neg (by omega), hm]
  by_cases hbig : 320000 < n
  · have hr' : readP bs = none := by
      rw [hrd, if_neg]
      unfold mayP
      rw [ptsOf_len, if_pos (by omega)]
      omega
    rw [hr']
    clear hr' hrd
    go_enter Try.func67, Try.ntmps67
    go_wp2_with fail
    go_ret2
    exact ⟨rfl, Chg.refl _ _⟩
  have hm' : m ≤ 20000 := by omega
  have hr' := hr.here
  go_enter Try.func67, Try.ntmps67
  have HD := Hid.mk hrd
  clear hrd
  go_upto_region 5 with fail
  have hp0 := Bk.new w 104 #[.slice A n c, .bool false]
  have hs0 : (w.alloc (.cells #[.slice A n c, .bool false] 104)).heap.size = w.heap.size + 1 := by simp
  have hA : Chg Nil w (w.alloc (.cells #[.slice A n c, .bool false] 104)) := (Chg.refl _ _).alloc _
  generalize w.alloc (.cells #[.slice A n c, .bool false] 104) = wb at *
  have H0 := Hid.mk (And.intro hA (And.intro hs0 (And.intro hp0 (hr'.keep hA (fun _ _ h => h)))))
  clear hp0 hA hr hr'
  have HN := Hid.mk (show n = 16 * m by omega)
  go_loopw [5] (fun out wr => ∃ k : Nat, k ≤ m ∧ (∃ A' c', Bk wr w.heap.size 104 #[.slice A' (n - 16 * k) c', .bool false] ∧ RdB wr (fun k => S k ∧ k < w.heap.size) A' (n - 16 * k) (bs.drop (16 * k)) ∧ n - 16 * k ≤ c' ∧ c' ≤ maxLen) ∧
      wr.ownsRow wb.heap.size 30 4 out k (((ptsOf m bs).take k).flatMap Pt.cs) ∧ Chg (· = w.heap.size) wb wr) (fun out _ => m - sliceLen out)
  case atStart => exact ⟨0, Nat.zero_le _, ⟨A, c, H0.out.2.2.1, H0.out.2.2.2, hc, hcm⟩, ⟨rfl, .inl ⟨rfl, rfl⟩⟩, Chg.refl _ _⟩
  case round =>
    obtain ⟨k, hk, ⟨A', c', hp, hrd', hc', hm2⟩, hown, hch⟩ := hrel
    obtain ⟨G, gc, rfl, hgc, hgm⟩ := own_form hown
    have hXl : ((ptsOf m bs).take k).length = k := by rw [List.length_take, ptsOf_len]; omega
    have x0 := hp.cell 0 rfl
    have hsz := hch.size
    by_cases hlt : k < m
    · have h16n : 16 ≤ n - 16 * k := by have := HN.out; omega
      have hlt' : decide ((0 : Int) < ((n - 16 * k : Nat) : Int)) = true := decide_eq_true (by omega)
      have hstep := ptsOf_take m k bs hlt
      have HT := Hid.mk (takePt_ok w.heap.size A' c' (n - 16 * k) (bs.drop (16 * k)) false (fun k => S k ∧ k < w.heap.size) wr hp hrd' (fun h => Nat.lt_irrefl _ h.2) (fun k h => by have := h.2; omega) (by omega) hc' hm2)
      generalize unPt (bs.drop (16 * k)) = q at *
      generalize (ptsOf m bs).take k = X at *
      obtain ⟨ky, x, y, v⟩ := q
      simp only [Pt.cs] at HT
      subst hXl
      have HK := Hid.mk (And.intro hstep (And.intro hch hown))
      clear hstep hch hown hp hrd'
      go_wp2_with fail
      refine HT.out.mono ?_
      rintro e w1 ⟨rfl, hc1, A2, hp2, hr2⟩
      have HW := Hid.mk (And.intro hc1 (And.intro hp2 hr2))
      have HRo := Hid.mk (rdp_one w1 ⟨ky, x, y, v⟩)
      clear hc1 hp2 hr2
      go_wp2_with (at_builtin; refine wpl_append rfl (.tmp 24) (.tmp 27) 36 rfl wb.heap.size 30 i0 _ 4 32 Try.underlying36 hi hz0 hz1 hz2 rfl (by omega) _ X.length _ rfl (own_keep HK.out.2.2 (HW.out.1.alloc _) (fun k hk h => by have := own_ge HK.out.2.2 k hk; omega)) _ (some ⟨w1.heap.size, 0, none⟩) 1 1 _ rfl HRo.out (pts_one _) (by simp only [maxLen]; omega) (by omega) (by have := HK.out.2.1.size; have := HW.out.1.size; simp; omega) ?_; intro v2 w2 o2 g2; have H2 := Hid.mk (And.intro (pts_row (o := ⟨ky, x, y, v⟩) HK.out.2.2 HK.out.2.1 HW.out.1 (by simpa using o2) g2) (((Chg.refl (fun j => w.heap.size < j) w1).alloc _).trans g2.chg (fun i _ hm => by have := own_ge HK.out.2.2 i hm; show w.heap.size < i; omega))); obtain ⟨A9, c9, hv9, _, _⟩ := own_form o2; subst hv9; clear o2 g2)
      go_roundw
      case rel =>
        refine ⟨X.length + 1, by omega, ⟨A2, c' - 16, ?_, ?_, by omega, by omega⟩, by rw [HK.out.1]; simpa using H2.out.1.1, H2.out.1.2⟩
        · have h := HW.out.2.1.keep H2.out.2 (fun h => absurd h (Nat.lt_irrefl _))
          rw [show n - 16 * (X.length + 1) = n - 16 * X.length - 16 by omega]
          exact h
        · have h := HW.out.2.2.keep H2.out.2 (fun k hk hj => by have := hk.2; have hj' : w.heap.size < k := hj; omega)
          rw [List.drop_drop, show 16 * X.length + 16 = 16 * (X.length + 1) by omega] at h
          rw [show n - 16 * (X.length + 1) = n - 16 * X.length - 16 by omega]
          exact h
      case measure => simp [sliceLen]; omega
    · obtain rfl : k = m := by omega
      rw [List.take_of_length_le (by rw [ptsOf_len]; exact Nat.le_refl _)] at hown hXl
      rw [show n - 16 * k = 0 by have := HN.out; omega] at x0
      have hM := rises_any G k gc (ptsOf k bs) _ wr (Rds.of_own hown) (by omega)
      have hmay : mayP (ptsOf k bs) = if risesP (ptsOf k bs) then 0 else 1 := by unfold mayP; rw [if_neg (by rw [hXl]; omega)]
      have HM := Hid.mk hM
      have HK := Hid.mk (And.intro hmay (And.intro (H0.out.1.trans hch (fun i hi h => by omega)) hown))
      have hs1 := H0.out.2.1
      clear hM hch hown hmay hp hrd'
      go_wp2_with fail
      refine HM.out.mono ?_
      rintro e w1 ⟨rfl, hc1⟩
      have H1 := Hid.mk (And.intro (HK.out.2.1.trans hc1 (fun _ _ h => h)) (own_keep HK.out.2.2 hc1 (fun _ _ h => h)))
      clear hc1
      cases h0 : risesP (ptsOf k bs) with
      | true =>
        have hr : readP bs = some (ptsOf k bs) := by rw [HD.out, HK.out.1, h0]; rfl
        have HR := Hid.mk (And.intro hr hXl)
        clear hr h0 hXl
        go_wp2_with fail
        go_ret2
        rw [HR.out.1]
        exact ⟨⟨_, rfl, by rw [HR.out.2]; exact own_base H1.out.2 (fun k hk => by have := own_ge H1.out.2 k hk; omega)⟩, H1.out.1⟩
      | false =>
        have hr : readP bs = none := by rw [HD.out, HK.out.1, h0]; rfl
        have HR := Hid.mk hr
        clear hr hXl h0
        go_wp2_with fail
        go_ret2
        rw [HR.out]
        exact ⟨rfl, H1.out.1⟩

end Go.Proofs.Ytanipieeegeheaa
