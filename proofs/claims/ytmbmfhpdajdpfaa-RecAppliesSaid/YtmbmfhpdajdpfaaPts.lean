/- Rows of points: what a slice reads; SamePoints of equal rows; the document's Points; whether points rise (rises, PointsMay). -/
import Derived.Test.YtmbmfhpdajdpfaaRefBatch
import Derived.Test.YtmbmfhpdajdpfaaRefOps
namespace Go.Proofs.Ytmbmfhpdajdpfaa
open Go.RowKit

/-- A slice reads points. -/
def RdP (w : World) (S : Nat → Prop) (A : Option Addr) (n : Nat) (l : List Pt) : Prop := Rds w S 4 A n (l.flatMap Pt.cs)
theorem pts_get (l : List Pt) (m : Nat) (o : Pt) (h : l[m]? = some o) (j : Nat) (u : Value) (hj : o.cs[j]? = some u) : (l.flatMap Pt.cs)[m * 4 + j]? = some u := by
  induction l generalizing m with
  | nil => simp at h
  | cons a t ih =>
    cases m with
    | zero =>
      simp at h
      subst h
      have hlt : j < a.cs.length := by
        rcases Nat.lt_or_ge j a.cs.length with h | h
        · exact h
        · rw [List.getElem?_eq_none h] at hj; cases hj
      rw [List.flatMap_cons, Nat.zero_mul, Nat.zero_add, List.getElem?_append_left hlt]
      exact hj
    | succ m =>
      have ha : a.cs.length = 4 := rfl
      rw [List.flatMap_cons, List.getElem?_append_right (by rw [ha]; omega), ha, show (m + 1) * 4 + j - 4 = m * 4 + j by omega]
      exact ih m (by simpa using h)
theorem pts_len (l : List Pt) : (l.flatMap Pt.cs).length = l.length * 4 := by
  induction l with
  | nil => rfl
  | cons a t ih => rw [List.flatMap_cons, List.length_append, ih]; simp [Pt.cs]; omega
theorem RdP.len {w : World} {S : Nat → Prop} {A : Option Addr} {n : Nat} {l : List Pt} (h : RdP w S A n l) : l.length = n := by
  have := h.1
  rw [pts_len] at this
  omega
theorem Try.infoPt : (Try.prog.info? 44).map (fun i => (i.zero, i.size, i.bytes)) = some (some (.agg #[.int .i64 0, .int .i64 0, .int .i64 0, .int .i64 0]), 4, 32) := by kernel_rfl
theorem RdP.at4 {w : World} {S : Nat → Prop} {A : Option Addr} {n : Nat} {l : List Pt} (h : RdP w S A n l) (hn : 0 < n) :
    ∃ b off, A = some ⟨b, off, none⟩ ∧ S b ∧ ∀ W, Chg Nil w W → ∀ k ky x y v, l[k]? = some ⟨ky, x, y, v⟩ → W.cell? ⟨b, off + k * 4, none⟩ = some (.int .i64 ky) ∧ W.cell? ⟨b, off + k * 4 + 1, none⟩ = some (.int .i64 x) ∧
      W.cell? ⟨b, off + k * 4 + 2, none⟩ = some (.int .i64 y) ∧ W.cell? ⟨b, off + k * 4 + 3, none⟩ = some (.int .i64 v) := by
  obtain ⟨b, off, hA, hs, _, hx⟩ := Rds.plain h hn (by omega)
  refine ⟨b, off, hA, hs, fun W hc k ky x y v hk => ?_⟩
  have g := fun j u hj => hx (k * 4 + j) u (pts_get l k _ hk j u hj)
  exact ⟨hc.cell (g 0 _ rfl) (fun h => h), hc.cell (g 1 _ rfl) (fun h => h), hc.cell (g 2 _ rfl) (fun h => h), hc.cell (g 3 _ rfl) (fun h => h)⟩
theorem rdp_one (w : World) (o : Pt) : RdP (w.alloc (.cells o.cs.toArray 44)) (fun k => k = w.heap.size) (some ⟨w.heap.size, 0, none⟩) 1 [o] := by
  have hb := Bk.new w 44 o.cs.toArray
  refine ⟨by rw [pts_len]; rfl, fun _ => ⟨_, rfl, rfl, fun j u hu => ?_⟩⟩
  have hu' : o.cs.toArray[j]? = some u := by simpa using hu
  have := hb.cell j hu'
  unfold Addr.add
  split
  · next h0 => subst h0; exact this
  · simpa using this
theorem pts_one (l : List Pt) : ∀ u ∈ l.flatMap Pt.cs, u.oneCell' = true := by
  intro u hu
  obtain ⟨o, _, hu⟩ := List.mem_flatMap.1 hu
  simp [Pt.cs] at hu
  rcases hu with rfl | rfl | rfl | rfl <;> rfl
theorem After.chgN {w w' : World} (x : After w) (h : Chg Nil x.world w') : ∃ y : After w, w' = y.world := ⟨⟨w', x.below.trans (h.below_nil.mono x.below.size)⟩, rfl⟩
theorem After.callN {P : Program} {w : World} {f : FuncId} {args : Array Value} {r : Value} (h : ∀ W : World, Calls P f args W (fun e w' => e = .returned r ∧ Chg Nil W w')) (x : After w) :
    Calls P f args x.world (fun e w' => e = .returned r ∧ ∃ y : After w, w' = y.world) := (h x.world).mono fun _ _ ⟨h1, h2⟩ => ⟨h1, x.chgN h2⟩

set_option maxHeartbeats 1000000 in
set_option maxRecDepth 100000 in
theorem samePts_any (A1 A2 : Option Addr) (n c1 c2 : Nat) (l : List Pt) (S1 S2 : Nat → Prop) (w : World) (h1 : RdP w S1 A1 n l) (h2 : RdP w S2 A2 n l) (hn : n ≤ 9223372036854775807) :
    Calls Try.prog 28 #[.slice A1 n c1, .slice A2 n c2] w fun e w' => e = .returned (.bool true) ∧ Chg Nil w w' := by
  have hl := h1.len
  have HR := Hid.mk (And.intro h1 h2)
  clear h1 h2
  go_enter Try.func28, Try.ntmps28
  go_wp2_with fail
  go_loopw [5] (fun i wr => ∃ k : Nat, k ≤ n ∧ i = .int .i64 (k : Int) ∧ Chg Nil w wr) (fun i _ => n - (intOf i).toNat)
  case atStart => exact ⟨0, Nat.zero_le _, rfl, Chg.refl _ _⟩
  case round =>
    obtain ⟨k, hk, rfl, hch⟩ := hrel
    by_cases hlt : k < n
    · obtain ⟨b, off, rfl, _, hat⟩ := HR.out.1.at4 (by omega)
      obtain ⟨b', off', rfl, _, hat'⟩ := HR.out.2.at4 (by omega)
      have ho : l[k]? = some (l[k]'(by omega)) := List.getElem?_eq_getElem (by omega)
      generalize l[k]'(by omega) = o at ho
      obtain ⟨ky, x, y, v⟩ := o
      have x0 := fun nq => (hat (wr.drewN nq) (hch.drewN nq) k ky x y v ho).1
      have x1 := fun nq => (hat (wr.drewN nq) (hch.drewN nq) k ky x y v ho).2.1
      have x2 := fun nq => (hat (wr.drewN nq) (hch.drewN nq) k ky x y v ho).2.2.1
      have x3 := fun nq => (hat (wr.drewN nq) (hch.drewN nq) k ky x y v ho).2.2.2
      have y0 := fun nq => (hat' (wr.drewN nq) (hch.drewN nq) k ky x y v ho).1
      have y1 := fun nq => (hat' (wr.drewN nq) (hch.drewN nq) k ky x y v ho).2.1
      have y2 := fun nq => (hat' (wr.drewN nq) (hch.drewN nq) k ky x y v ho).2.2.1
      have y3 := fun nq => (hat' (wr.drewN nq) (hch.drewN nq) k ky x y v ho).2.2.2
      have HK := Hid.mk hch
      clear hch hat hat' ho
      go_wp2_with fail
      go_quiet (fail)
      go_wp2_with fail
      go_roundw
      case rel => exact ⟨k + 1, by omega, by go_num, HK.out.drewN _⟩
      case measure => simp [intOf]; omega
    · have hkn : k = n := by omega
      subst hkn
      have HK := Hid.mk hch
      clear hch
      go_wp2_with fail
      go_ret
      exact ⟨rfl, HK.out⟩

/-- The bytes of points. -/
def ptsB (l : List Pt) : List UInt8 := l.flatMap Pt.bytes
theorem pt_len16 (p : Pt) : p.bytes.length = 16 := by simp [Pt.bytes, numsB, Pt.is, numB_len]
theorem ptsB_len (l : List Pt) : (ptsB l).length = 16 * l.length := by
  induction l with
  | nil => rfl
  | cons a t ih =>
    have h : ptsB (a :: t) = a.bytes ++ ptsB t := rfl
    rw [h, List.length_append, ih, pt_len16, List.length_cons]
    omega
theorem ptsB_take (l : List Pt) (k : Nat) (o : Pt) (h : l[k]? = some o) : ptsB (l.take (k + 1)) = ptsB (l.take k) ++ o.bytes := by
  rw [List.take_add_one, h]
  simp [ptsB]

set_option maxHeartbeats 1000000 in
set_option maxRecDepth 100000 in
theorem rpoints_any (A : Option Addr) (n c : Nat) (l : List Pt) (S : Nat → Prop) (w : World) (hr : RdP w S A n l) (hn : n ≤ 20000) :
    Calls Try.prog 33 #[.slice A n c] w fun e w' => e = .returned (.string ⟨(ptsB l).toArray⟩) ∧ Chg Nil w w' := by
  have hl := hr.len
  have HR := Hid.mk hr
  clear hr
  go_enter Try.func33, Try.ntmps33
  go_wp2_with fail
  go_loopw [3, 4] (fun s i wr => ∃ k : Nat, k ≤ n ∧ s = .string ⟨(ptsB (l.take k)).toArray⟩ ∧ i = .int .i64 (k : Int) ∧ Chg Nil w wr) (fun _ i _ => n - (intOf i).toNat)
  case atStart => exact ⟨0, Nat.zero_le _, rfl, rfl, Chg.refl _ _⟩
  case round =>
    obtain ⟨k, hk, rfl, rfl, hch⟩ := hrel
    by_cases hlt : k < n
    · obtain ⟨b, off, rfl, _, hat⟩ := HR.out.at4 (by omega)
      have ho : l[k]? = some (l[k]'(by omega)) := List.getElem?_eq_getElem (by omega)
      generalize l[k]'(by omega) = o at ho
      have hstep := ptsB_take l k o ho
      have hX := ptsB_len (l.take k)
      rw [List.length_take, Nat.min_eq_left (by omega)] at hX
      have HP := Hid.mk (fun W => rpoint_any o W)
      have hpl := pt_len16 o
      have hPB : o.bytes = o.bytes := rfl
      obtain ⟨ky, x, y, v⟩ := o
      simp only [Pt.cs] at HP
      obtain ⟨c0, c1, c2, c3⟩ := hat wr hch k ky x y v ho
      generalize Pt.bytes ⟨ky, x, y, v⟩ = pb at *
      generalize hYe : ptsB (l.take (k + 1)) = Y at *
      have HY := Hid.mk hYe
      clear hYe hPB
      generalize ptsB (l.take k) = X at *
      have a2 := fun W => str_add X pb (by omega) W
      rw [← hstep] at a2
      have HK := Hid.mk hch
      clear hch hat ho hstep hpl hX
      go_wp2_with fail
      refine (HP.out _).mono ?_
      rintro e w1 ⟨rfl, hc1⟩
      have H1 := Hid.mk (HK.out.trans hc1 (fun _ _ h => h))
      clear hc1
      go_wp2_with fail
      go_roundw
      case rel => exact ⟨k + 1, by omega, by rw [HY.out], by go_num, H1.out⟩
      case measure => simp [intOf]; omega
    · have hkn : k = n := by omega
      subst hkn
      have ht : l.take k = l := List.take_of_length_le (by omega)
      have HK := Hid.mk hch
      clear hch
      go_wp2_with fail
      go_ret
      rw [ht]
      exact ⟨rfl, HK.out⟩
end Go.Proofs.Ytmbmfhpdajdpfaa
