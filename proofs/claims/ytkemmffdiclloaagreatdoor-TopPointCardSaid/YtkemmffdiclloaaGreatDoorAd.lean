/- Joined for this seat from: XEb. -/
import Derived.Test.YtkemmffdiclloaaGreatDoorAc
set_option linter.unusedVariables false
set_option linter.unusedSimpArgs false
namespace Go.Proofs.YtkemmffdiclloaaGreatDoor
open Go.RowKit

theorem box3 (w : World) (t0 t1 t2 : TypeId) (c0 c1 c2 : Array Value) : Bk (((w.alloc (.cells c0 t0)).alloc (.cells c1 t1)).alloc (.cells c2 t2)) w.heap.size t0 c0 ∧
    Bk (((w.alloc (.cells c0 t0)).alloc (.cells c1 t1)).alloc (.cells c2 t2)) (w.heap.size + 1) t1 c1 ∧ Bk (((w.alloc (.cells c0 t0)).alloc (.cells c1 t1)).alloc (.cells c2 t2)) (w.heap.size + 1 + 1) t2 c2 ∧
    Chg Nil w (((w.alloc (.cells c0 t0)).alloc (.cells c1 t1)).alloc (.cells c2 t2)) := by
  refine ⟨((Bk.new w t0 c0).alloc _).alloc _, ?_, ?_, (((Chg.refl _ _).alloc _).alloc _).alloc _⟩
  · have h := (Bk.new (w.alloc (.cells c0 t0)) t1 c1).alloc (.cells c2 t2)
    simpa using h
  · have h := Bk.new ((w.alloc (.cells c0 t0)).alloc (.cells c1 t1)) t2 c2
    simpa using h
theorem box2 (w : World) (t0 t1 : TypeId) (c0 c1 : Array Value) : Bk ((w.alloc (.cells c0 t0)).alloc (.cells c1 t1)) w.heap.size t0 c0 ∧
    Bk ((w.alloc (.cells c0 t0)).alloc (.cells c1 t1)) (w.heap.size + 1) t1 c1 ∧ Chg Nil w ((w.alloc (.cells c0 t0)).alloc (.cells c1 t1)) := by
  refine ⟨(Bk.new w t0 c0).alloc _, ?_, ((Chg.refl _ _).alloc _).alloc _⟩
  have h := Bk.new (w.alloc (.cells c0 t0)) t1 c1
  simpa using h
def Big (n : Int) : Prop := -4611686018427387903 ≤ n ∧ n ≤ 4611686018427387903
set_option maxHeartbeats 1000000 in
theorem numAdd_any (a b : Int) (ha : Big a) (hb : Big b) (w : World) :
    Calls Tryz.prog 73 #[.int .i64 a, .int .i64 b] w fun e w' => e = .returned (.tuple #[.int .i64 (a + b), .bool true]) ∧ Chg Nil w w' := by
  unfold Big at ha hb
  obtain ⟨ha1, ha2⟩ := ha
  obtain ⟨hb1, hb2⟩ := hb
  have hw : wrap64 (a + b) = a + b := by unfold wrap64; omega
  rcases Int.lt_or_le 0 b with h | h
  · go_enter Tryz.func73, Tryz.ntmps73
    go_wp2_with fail
    go_ret2
    exact ⟨rfl, (by repeat (first | exact Chg.refl _ _ | refine Chg.alloc ?_ _ | refine Chg.setCell ?_ (fun h => absurd h (by simp)) _))⟩
  · rcases Int.lt_or_le b 0 with h2 | h2
    · go_enter Tryz.func73, Tryz.ntmps73
      go_wp2_with fail
      go_ret2
      exact ⟨rfl, (by repeat (first | exact Chg.refl _ _ | refine Chg.alloc ?_ _ | refine Chg.setCell ?_ (fun h => absurd h (by simp)) _))⟩
    · have hb0 : b = 0 := by omega
      subst hb0
      go_enter Tryz.func73, Tryz.ntmps73
      go_wp2_with fail
      go_ret2
      exact ⟨by simp, (by repeat (first | exact Chg.refl _ _ | refine Chg.alloc ?_ _ | refine Chg.setCell ?_ (fun h => absurd h (by simp)) _))⟩
set_option maxHeartbeats 1000000 in
theorem numSub_any (a b : Int) (ha : Big a) (hb : Big b) (w : World) :
    Calls Tryz.prog 130 #[.int .i64 a, .int .i64 b] w fun e w' => e = .returned (.tuple #[.int .i64 (a - b), .bool true]) ∧ Chg Nil w w' := by
  unfold Big at ha hb
  obtain ⟨ha1, ha2⟩ := ha
  obtain ⟨hb1, hb2⟩ := hb
  have hw : wrap64 (a - b) = a - b := by unfold wrap64; omega
  rcases Int.lt_or_le 0 b with h | h
  · go_enter Tryz.func130, Tryz.ntmps130
    go_wp2_with fail
    go_ret2
    exact ⟨rfl, (by repeat (first | exact Chg.refl _ _ | refine Chg.alloc ?_ _ | refine Chg.setCell ?_ (fun h => absurd h (by simp)) _))⟩
  · rcases Int.lt_or_le b 0 with h2 | h2
    · go_enter Tryz.func130, Tryz.ntmps130
      go_wp2_with fail
      go_ret2
      exact ⟨rfl, (by repeat (first | exact Chg.refl _ _ | refine Chg.alloc ?_ _ | refine Chg.setCell ?_ (fun h => absurd h (by simp)) _))⟩
    · have hb0 : b = 0 := by omega
      subst hb0
      go_enter Tryz.func130, Tryz.ntmps130
      go_wp2_with fail
      go_ret2
      exact ⟨by simp, (by repeat (first | exact Chg.refl _ _ | refine Chg.alloc ?_ _ | refine Chg.setCell ?_ (fun h => absurd h (by simp)) _))⟩
theorem numNeg_any (a : Int) (ha : Big a) (w : World) :
    Calls Tryz.prog 74 #[.int .i64 a] w fun e w' => e = .returned (.tuple #[.int .i64 (-a), .bool true]) ∧ Chg Nil w w' := by
  have hc := fun W => numSub_any 0 a ⟨by omega, by omega⟩ ha W
  rw [Int.zero_sub] at hc
  go_enter Tryz.func74, Tryz.ntmps74
  go_wp2_with fail
  refine (hc _).mono ?_
  rintro e w1 ⟨rfl, c1⟩
  go_wp2_with fail
  go_ret2
  exact ⟨rfl, c1⟩
set_option maxHeartbeats 1000000 in
theorem within_any (a m : Int) (hm : 0 ≤ m ∧ m ≤ 4611686018427387904) (ha : -m ≤ a ∧ a ≤ m) (w : World) :
    Calls Tryz.prog 77 #[.int .i64 a, .int .i64 m] w fun e w' => e = .returned (.bool true) ∧ Chg Nil w w' := by
  have hne : (a != -9223372036854775808) = true := by simp only [bne_iff_ne, ne_eq]; omega
  go_enter Tryz.func77, Tryz.ntmps77
  go_wp2_with fail
  go_ret
  exact ⟨rfl, (by repeat (first | exact Chg.refl _ _ | refine Chg.alloc ?_ _ | refine Chg.setCell ?_ (fun h => absurd h (by simp)) _))⟩
set_option maxHeartbeats 1000000 in
theorem sidesAdd_any (a b c d : Int) (ha : Big a) (hb : Big b) (hc : Big c) (hd : Big d) (w : World) :
    Calls Tryz.prog 72 #[eV a b, eV c d, .func (.func 73) #[] #[]] w fun e w' => e = .returned (.tuple #[eV (a + c) (b + d), .bool true]) ∧ Chg Nil w w' := by
  have h1 := fun W => numAdd_any a c ha hc W
  have h2 := fun W => numAdd_any b d hb hd W
  have h3 := fun W => both_any (a + c) (b + d) W
  unfold eV at *
  go_enter Tryz.func72, Tryz.ntmps72
  go_wp2_with fail
  have hB := box3 w 25 25 25 #[.int .i64 a, .int .i64 b] #[.int .i64 c, .int .i64 d] #[.int .i64 0, .int .i64 0]
  refine (h1 _).mono ?_
  rintro e w1 ⟨rfl, c1⟩
  have y0 : w1.cell? ⟨w.heap.size, 1, none⟩ = some (.int .i64 b) := (hB.1.keep c1 (fun h => h)).cell 1 rfl
  have y1 : w1.cell? ⟨w.heap.size + 1, 1, none⟩ = some (.int .i64 d) := (hB.2.1.keep c1 (fun h => h)).cell 1 rfl
  have HB := Hid.mk (And.intro (hB.2.2.1.keep c1 (fun h => h)) (hB.2.2.2.trans c1 (fun _ _ h => h)))
  clear hB c1
  go_wp2_with fail
  refine (h2 _).mono ?_
  rintro e w2 ⟨rfl, c2⟩
  have H2 := Hid.mk (And.intro (HB.out.1.keep c2 (fun h => h)) (HB.out.2.trans c2 (fun _ _ h => h)))
  clear c2 y0 y1
  go_wp2_with fail
  refine (h3 _).mono ?_
  rintro e w3 ⟨rfl, c3⟩
  have hb := H2.out.1.keep c3 (fun h => h)
  have z0 : w3.cell? ⟨w.heap.size + 1 + 1, 0, none⟩ = some (.int .i64 0) := hb.cell 0 rfl
  have z1 : w3.cell? ⟨w.heap.size + 1 + 1, 1, none⟩ = some (.int .i64 0) := hb.cell 1 rfl
  have fz := fun j => hb.free j
  have H3 := Hid.mk (H2.out.2.trans c3 (fun _ _ h => h))
  clear c3 hb
  go_wp2_with fail
  exact bodyPost_ret (v := .tuple #[.agg #[.int .i64 (a + c), .int .i64 (b + d)], .bool true]) (by simp [results, Tryz.results72, go_sem, z0, z1]) rfl ⟨rfl, (H3.out.setCell (fun h => by simp at h; omega) _).setCell (fun h => by simp at h; omega) _⟩
set_option maxHeartbeats 1000000 in
theorem sidesSub_any (a b c d : Int) (ha : Big a) (hb : Big b) (hc : Big c) (hd : Big d) (w : World) :
    Calls Tryz.prog 72 #[eV a b, eV c d, .func (.func 130) #[] #[]] w fun e w' => e = .returned (.tuple #[eV (a - c) (b - d), .bool true]) ∧ Chg Nil w w' := by
  have h1 := fun W => numSub_any a c ha hc W
  have h2 := fun W => numSub_any b d hb hd W
  have h3 := fun W => both_any (a - c) (b - d) W
  unfold eV at *
  go_enter Tryz.func72, Tryz.ntmps72
  go_wp2_with fail
  have hB := box3 w 25 25 25 #[.int .i64 a, .int .i64 b] #[.int .i64 c, .int .i64 d] #[.int .i64 0, .int .i64 0]
  refine (h1 _).mono ?_
  rintro e w1 ⟨rfl, c1⟩
  have y0 : w1.cell? ⟨w.heap.size, 1, none⟩ = some (.int .i64 b) := (hB.1.keep c1 (fun h => h)).cell 1 rfl
  have y1 : w1.cell? ⟨w.heap.size + 1, 1, none⟩ = some (.int .i64 d) := (hB.2.1.keep c1 (fun h => h)).cell 1 rfl
  have HB := Hid.mk (And.intro (hB.2.2.1.keep c1 (fun h => h)) (hB.2.2.2.trans c1 (fun _ _ h => h)))
  clear hB c1
  go_wp2_with fail
  refine (h2 _).mono ?_
  rintro e w2 ⟨rfl, c2⟩
  have H2 := Hid.mk (And.intro (HB.out.1.keep c2 (fun h => h)) (HB.out.2.trans c2 (fun _ _ h => h)))
  clear c2 y0 y1
  go_wp2_with fail
  refine (h3 _).mono ?_
  rintro e w3 ⟨rfl, c3⟩
  have hb := H2.out.1.keep c3 (fun h => h)
  have z0 : w3.cell? ⟨w.heap.size + 1 + 1, 0, none⟩ = some (.int .i64 0) := hb.cell 0 rfl
  have z1 : w3.cell? ⟨w.heap.size + 1 + 1, 1, none⟩ = some (.int .i64 0) := hb.cell 1 rfl
  have fz := fun j => hb.free j
  have H3 := Hid.mk (H2.out.2.trans c3 (fun _ _ h => h))
  clear c3 hb
  go_wp2_with fail
  exact bodyPost_ret (v := .tuple #[.agg #[.int .i64 (a - c), .int .i64 (b - d)], .bool true]) (by simp [results, Tryz.results72, go_sem, z0, z1]) rfl ⟨rfl, (H3.out.setCell (fun h => by simp at h; omega) _).setCell (fun h => by simp at h; omega) _⟩
set_option maxHeartbeats 1000000 in
theorem eAdd_any (a b c d : Int) (ha : Big a) (hb : Big b) (hc : Big c) (hd : Big d) (w : World) :
    Calls Tryz.prog 31 #[eV a b, eV c d] w fun e w' => e = .returned (.tuple #[eV (a + c) (b + d), .bool true]) ∧ Chg Nil w w' := by
  have h1 := fun W => sidesAdd_any a b c d ha hb hc hd W
  unfold eV at *
  go_enter Tryz.func31, Tryz.ntmps31
  go_wp2_with fail
  have hB := box3 w 25 25 25 #[.int .i64 a, .int .i64 b] #[.int .i64 c, .int .i64 d] #[.int .i64 0, .int .i64 0]
  refine (h1 _).mono ?_
  rintro e w3 ⟨rfl, c3⟩
  have hb := hB.2.2.1.keep c3 (fun h => h)
  have z0 : w3.cell? ⟨w.heap.size + 1 + 1, 0, none⟩ = some (.int .i64 0) := hb.cell 0 rfl
  have z1 : w3.cell? ⟨w.heap.size + 1 + 1, 1, none⟩ = some (.int .i64 0) := hb.cell 1 rfl
  have fz := fun j => hb.free j
  have H3 := Hid.mk (hB.2.2.2.trans c3 (fun _ _ h => h))
  clear c3 hb hB
  go_wp2_with fail
  exact bodyPost_ret (v := .tuple #[.agg #[.int .i64 (a + c), .int .i64 (b + d)], .bool true]) (by simp [results, Tryz.results31, go_sem, z0, z1]) rfl ⟨rfl, (H3.out.setCell (fun h => by simp at h; omega) _).setCell (fun h => by simp at h; omega) _⟩
set_option maxHeartbeats 1000000 in
theorem eSub_any (a b c d : Int) (ha : Big a) (hb : Big b) (hc : Big c) (hd : Big d) (w : World) :
    Calls Tryz.prog 126 #[eV a b, eV c d] w fun e w' => e = .returned (.tuple #[eV (a - c) (b - d), .bool true]) ∧ Chg Nil w w' := by
  have h1 := fun W => sidesSub_any a b c d ha hb hc hd W
  unfold eV at *
  go_enter Tryz.func126, Tryz.ntmps126
  go_wp2_with fail
  have hB := box3 w 25 25 25 #[.int .i64 a, .int .i64 b] #[.int .i64 c, .int .i64 d] #[.int .i64 0, .int .i64 0]
  refine (h1 _).mono ?_
  rintro e w3 ⟨rfl, c3⟩
  have hb := hB.2.2.1.keep c3 (fun h => h)
  have z0 : w3.cell? ⟨w.heap.size + 1 + 1, 0, none⟩ = some (.int .i64 0) := hb.cell 0 rfl
  have z1 : w3.cell? ⟨w.heap.size + 1 + 1, 1, none⟩ = some (.int .i64 0) := hb.cell 1 rfl
  have fz := fun j => hb.free j
  have H3 := Hid.mk (hB.2.2.2.trans c3 (fun _ _ h => h))
  clear c3 hb hB
  go_wp2_with fail
  exact bodyPost_ret (v := .tuple #[.agg #[.int .i64 (a - c), .int .i64 (b - d)], .bool true]) (by simp [results, Tryz.results126, go_sem, z0, z1]) rfl ⟨rfl, (H3.out.setCell (fun h => by simp at h; omega) _).setCell (fun h => by simp at h; omega) _⟩
set_option maxHeartbeats 1000000 in
theorem eConj_any (a b : Int) (ha : Big a) (hb : Big b) (w : World) :
    Calls Tryz.prog 36 #[eV a b] w fun e w' => e = .returned (.tuple #[eV (a + b) (-b), .bool true]) ∧ Chg Nil w w' := by
  have h1 := fun W => numAdd_any a b ha hb W
  have h2 := fun W => numNeg_any b hb W
  have h3 := fun W => both_any (a + b) (-b) W
  unfold eV at *
  go_enter Tryz.func36, Tryz.ntmps36
  go_wp2_with fail
  have hB := box2 w 25 25 #[.int .i64 a, .int .i64 b] #[.int .i64 0, .int .i64 0]
  refine (h1 _).mono ?_
  rintro e w1 ⟨rfl, c1⟩
  have y0 : w1.cell? ⟨w.heap.size, 1, none⟩ = some (.int .i64 b) := (hB.1.keep c1 (fun h => h)).cell 1 rfl
  have HB := Hid.mk (And.intro (hB.2.1.keep c1 (fun h => h)) (hB.2.2.trans c1 (fun _ _ h => h)))
  clear hB c1
  go_wp2_with fail
  refine (h2 _).mono ?_
  rintro e w2 ⟨rfl, c2⟩
  have H2 := Hid.mk (And.intro (HB.out.1.keep c2 (fun h => h)) (HB.out.2.trans c2 (fun _ _ h => h)))
  clear c2 y0
  go_wp2_with fail
  refine (h3 _).mono ?_
  rintro e w3 ⟨rfl, c3⟩
  have hb := H2.out.1.keep c3 (fun h => h)
  have z0 : w3.cell? ⟨w.heap.size + 1, 0, none⟩ = some (.int .i64 0) := hb.cell 0 rfl
  have z1 : w3.cell? ⟨w.heap.size + 1, 1, none⟩ = some (.int .i64 0) := hb.cell 1 rfl
  have fz := fun j => hb.free j
  have H3 := Hid.mk (H2.out.2.trans c3 (fun _ _ h => h))
  clear c3 hb
  go_wp2_with fail
  exact bodyPost_ret (v := .tuple #[.agg #[.int .i64 (a + b), .int .i64 (-b)], .bool true]) (by simp [results, Tryz.results36, go_sem, z0, z1]) rfl ⟨rfl, (H3.out.setCell (fun h => by simp at h; omega) _).setCell (fun h => by simp at h; omega) _⟩

end Go.Proofs.YtkemmffdiclloaaGreatDoor
