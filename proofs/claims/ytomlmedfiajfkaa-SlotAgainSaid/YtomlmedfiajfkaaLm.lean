/- Joined for this seat from: XSlH. -/
import Derived.Deep.CutRange
import Derived.Test.YtomlmedfiajfkaaLk
namespace Go.Proofs.Ytomlmedfiajfkaa
open Go.RowKit

theorem rnum8 (N : Nat) (w : World) : Calls Try.prog 21 #[.int .u64 (N : Int), .int .i64 8] w fun e w' => e = .returned (.string ⟨(numB N 8).toArray⟩) ∧ Below w.heap.size w w' := rnumber_any N 8 w (by omega)
theorem rnum4 (N : Nat) (w : World) : Calls Try.prog 21 #[.int .u64 (N : Int), .int .i64 4] w fun e w' => e = .returned (.string ⟨(numB N 4).toArray⟩) ∧ Below w.heap.size w w' := rnumber_any N 4 w (by omega)
set_option maxHeartbeats 2000000 in
set_option maxRecDepth 100000 in
theorem rsnap_any (gen u : Nat) (A : Option Addr) (n c : Nat) (l : List Pt) (S : Nat → Prop) (w : World) (hr : RdP w S A n l) (hn : n ≤ 20000) :
    Calls Try.prog 9 #[.agg #[.int .u64 (gen : Int), .int .u64 (u : Int), .slice A n c]] w fun e w' => e = .returned (.string ⟨(Sn.bytes ⟨gen, u, l⟩).toArray⟩) ∧ Chg Nil w w' := by
  obtain rfl := hr.len
  have hl : (ptsB l).length ≤ 320000 := by rw [ptsB_len]; omega
  have hA : Chg Nil w (w.alloc (.cells #[.int .u64 (gen : Int), .int .u64 (u : Int), .slice A l.length c] 29)) := (Chg.refl _ _).alloc _
  have hB := Bk.new w 29 #[.int .u64 (gen : Int), .int .u64 (u : Int), .slice A l.length c]
  have hr1 := Rds.keep hr hA (fun _ _ h => h)
  have hE : Sn.bytes ⟨gen, u, l⟩ = numB gen 8 ++ numB u 8 ++ numB l.length 4 ++ ptsB l := by
    show numB gen 8 ++ (numB u 8 ++ (numB l.length 4 ++ ptsB l)) = _
    simp only [List.append_assoc]
  rw [hE]
  have r1 := Hid.mk (fun wb : World => After.call (w := wb) fun W _ => rnum8 gen W)
  have r2 := Hid.mk (fun wb : World => After.call (w := wb) fun W _ => rnum8 u W)
  have r3 := Hid.mk (fun wb : World => After.call (w := wb) fun W _ => rnum4 l.length W)
  have hr4 : ∀ z : After (w.alloc (.cells #[.int .u64 (gen : Int), .int .u64 (u : Int), .slice A l.length c] 29)), Calls Try.prog 22 #[.slice A l.length c] z.world (fun e w' => e = .returned (.string ⟨(ptsB l).toArray⟩) ∧ ∃ y : After (w.alloc (.cells #[.int .u64 (gen : Int), .int .u64 (u : Int), .slice A l.length c] 29)), w' = y.world) :=
    fun z => (rpoints_any A l.length c l S z.world (Rds.keep hr1 z.chg (fun _ _ h => h)) hn).mono fun e w' ⟨h1, h2⟩ => ⟨h1, After.chgN z h2⟩
  have l1 : (numB gen 8).length = 8 := numB_len _ _
  have l2 : (numB u 8).length = 8 := numB_len _ _
  have l3 : (numB l.length 4).length = 4 := numB_len _ _
  generalize numB gen 8 = n1 at *
  generalize numB u 8 = n2 at *
  generalize numB l.length 4 = n3 at *
  generalize ptsB l = n4 at *
  have a1 := fun W => str_add n1 n2 (by omega) W
  have a2 := fun W => str_add (n1 ++ n2) n3 (by simp; omega) W
  have a3 := fun W => str_add (n1 ++ n2 ++ n3) n4 (by simp; omega) W
  clear l1 l2 l3 hE hl
  have l12 : (n1 ++ n2).toArray = n1.toArray ++ n2.toArray := by simp
  generalize h12 : n1 ++ n2 = n12 at *
  generalize h123 : n12 ++ n3 = n123 at *
  generalize h1234 : n123 ++ n4 = n1234 at *
  clear l12 h12 h123 h1234
  generalize hwb : w.alloc (.cells #[.int .u64 (gen : Int), .int .u64 (u : Int), .slice A l.length c] 29) = wb at *
  have r4 := Hid.mk hr4
  have c1 : ∀ z : After wb, z.world.cell? ⟨w.heap.size, 0, none⟩ = some (.int .u64 gen) := fun z => z.chg.cell (hB.cell 0 rfl) (fun h => h)
  have c2 : ∀ z : After wb, z.world.cell? ⟨w.heap.size, 1, none⟩ = some (.int .u64 u) := fun z => z.chg.cell (hB.cell 1 rfl) (fun h => h)
  have c3 : ∀ z : After wb, z.world.cell? ⟨w.heap.size, 2, none⟩ = some (.slice A l.length c) := fun z => z.chg.cell (hB.cell 2 rfl) (fun h => h)
  have H := Hid.mk (And.intro hA hwb)
  clear hB hA hwb hr4 hr1 hr
  have hne := After.some wb
  go_enter Try.func9, Try.ntmps9
  go_upto_region 1 with fail
  rw [H.out.2]
  refine wp_region_after (by kernel_rfl) (by kernel_rfl) ?_
  repeat (go_big_quiet_step (first | (with_reducible exact r1.out _ _) | (with_reducible exact r2.out _ _) | (with_reducible exact r3.out _ _) | (with_reducible exact r4.out _)))
  refine wpQuiet_nil ?_
  rintro _ ⟨z, rfl⟩
  have H2 := Hid.mk (H.out.1.trans z.chg (fun _ _ h => h))
  go_wp2_with fail
  go_ret
  exact ⟨rfl, H2.out⟩
theorem readP_long {b : List UInt8} (h : 320000 < b.length) : readP b = none := by
  unfold readP
  split
  · rfl
  · rw [if_neg]
    unfold mayP
    rw [ptsOf_len, if_pos (by omega)]
    omega
/-- What Unsnap answers. -/
def UnsnapIs (B : Nat) (r : Option Sn) (e : Ending) (w' : World) : Prop :=
  ∃ A c, e = .returned (.tuple #[.agg #[.int .u64 ((snOr r).gen : Int), .int .u64 ((snOr r).u : Int), .slice A (snOr r).pts.length c], .bool r.isSome]) ∧ RdP w' (fun k => B ≤ k) A (snOr r).pts.length (snOr r).pts
set_option maxHeartbeats 4000000 in
set_option maxRecDepth 100000 in
theorem unsnap_any (x : List UInt8) (w : World) (hl : 20 ≤ x.length) (hx : x.length ≤ 1000000) :
    Calls Try.prog 14 #[.string ⟨x.toArray⟩] w fun e w' => UnsnapIs w.heap.size (parseS x) e w' ∧ Chg Nil w w' := by
  have b8a := unB_lt64 (x.take 8) (by rw [List.length_take]; omega)
  have b8b := unB_lt64 ((x.drop 8).take 8) (by rw [List.length_take]; omega)
  have b4 := unB4 (x.drop 16)
  have s1 : ∀ W, (Instr.slice 9 (.string ⟨x.toArray⟩) none (some (.int .i64 8)) none).run Try.prog W = .ok (.string ⟨(x.take 8).toArray⟩) W := fun W => run_str_front (P := Try.prog) 9 Try.underlying9 x 8 .i64 (by omega) W
  have s2 : ∀ W, (Instr.slice 9 (.string ⟨x.toArray⟩) (some (.int .i64 8)) (some (.int .i64 16)) none).run Try.prog W = .ok (.string ⟨((x.drop 8).take 8).toArray⟩) W := fun W => run_str_part (P := Try.prog) 9 Try.underlying9 x 8 16 .i64 .i64 (by omega) (by omega) W
  have s3 : ∀ W, (Instr.slice 9 (.string ⟨x.toArray⟩) (some (.int .i64 16)) (some (.int .i64 20)) none).run Try.prog W = .ok (.string ⟨((x.drop 16).take 4).toArray⟩) W := fun W => run_str_part (P := Try.prog) 9 Try.underlying9 x 16 20 .i64 .i64 (by omega) (by omega) W
  have r1 := Hid.mk (unn_any (x.take 8) (by rw [List.length_take]; omega))
  have r2 := Hid.mk (unn_any ((x.drop 8).take 8) (by rw [List.length_take]; omega))
  have r3 := Hid.mk (unn_any ((x.drop 16).take 4) (by rw [List.length_take]; omega))
  rw [parse_eq]
  have hsl : ∀ N, 20 + N ≤ x.length → ∀ W, (Instr.slice 9 (.string ⟨x.toArray⟩) (some (.int .i64 20)) (some (.int .i64 ((20 + N : Nat) : Int))) none).run Try.prog W = .ok (.string ⟨((x.drop 20).take N).toArray⟩) W := fun N hN W => by
    have h := run_str_part (P := Try.prog) 9 Try.underlying9 x 20 (20 + N) .i64 .i64 (by omega) hN W
    rw [show 20 + N - 20 = N by omega] at h
    exact h
  have HSL := Hid.mk hsl
  clear hsl
  have hxs : (ByteArray.mk x.toArray).size = x.length := by simp [ByteArray.size]
  generalize unB (x.take 8) = N1 at *
  generalize unB ((x.drop 8).take 8) = N2 at *
  generalize unB ((x.drop 16).take 4) = N3 at *
  generalize x.take 8 = p1 at *
  generalize (x.drop 8).take 8 = p2 at *
  generalize (x.drop 16).take 4 = p3 at *
  have hB := Bk.new w 29 #[.int .u64 0, .int .u64 0, .slice none 0 0]
  have hA : Chg Nil w (w.alloc (.cells #[.int .u64 0, .int .u64 0, .slice none 0 0] 29)) := (Chg.refl _ _).alloc _
  have hs0 : (w.alloc (.cells #[.int .u64 0, .int .u64 0, .slice none 0 0] 29)).heap.size = w.heap.size + 1 := by simp
  have hd20 : decide ((x.length : Int) < 20) = false := decide_eq_false (by omega)
  have H := Hid.mk (And.intro hA (And.intro hB hs0))
  clear hA hB hs0
  generalize hres : (if (x.length - 20) / 16 < N3 then none else parseL N1 N2 (readP ((x.drop 20).take (16 * N3)))) = res
  have HRes := Hid.mk hres
  clear hres
  go_enter Try.func14, Try.ntmps14
  go_upto_region 3 with fail
  generalize w.alloc (.cells #[.int .u64 0, .int .u64 0, .slice none 0 0] 29) = wb at *
  have hlw : w.heap.size + 1 = wb.heap.size := H.out.2.2.symm
  go_cut [4] from 12 to 54 (fun p wx => p = .pointer (some ⟨wb.heap.size, 0, none⟩) ∧ Hid (Bk wx wb.heap.size 29 #[.int .u64 (N1 : Int), .int .u64 (N2 : Int), .slice none 0 0] ∧ Chg Nil wb wx))
  case first =>
    go_region_with (first
      | ((with_reducible refine (r1.out _).mono ?_); rintro e w' ⟨rfl, rfl⟩)
      | ((with_reducible refine (r2.out _).mono ?_); rintro e w' ⟨rfl, rfl⟩))
    all_goals
      go_wp2_with fail
      go_meet
      exact ⟨rfl, Hid.mk ⟨(Bk.new wb _ _).drew, ((Chg.refl _ _).alloc _).drew⟩⟩
  case rest =>
    obtain ⟨rfl, HK⟩ := hcut
    go_wp2_with fail
    have hbw : Bk wc w.heap.size 29 #[.int .u64 0, .int .u64 0, .slice none 0 0] := H.out.2.1.keep HK.out.2 (fun h => h)
    have HKb := Hid.mk (And.intro hbw (H.out.1.trans HK.out.2 (fun _ _ h => h)))
    have x0 : wc.cell? ⟨w.heap.size, 0, none⟩ = some (.int .u64 0) := hbw.cell 0 rfl
    have x1 : wc.cell? ⟨w.heap.size, 1, none⟩ = some (.int .u64 0) := hbw.cell 1 rfl
    have x2 : wc.cell? ⟨w.heap.size, 2, none⟩ = some (.slice none 0 0) := hbw.cell 2 rfl
    have xf := fun j => hbw.free j
    clear hbw
    refine (r3.out _).mono ?_
    rintro e w3 ⟨rfl, he⟩
    subst he
    have hdv : (x.length - 20) / 16 < N3 ↔ x.length - 20 < 16 * N3 := by omega
    have hres := HRes.out
    by_cases hbig : 20000 < N3
    · have hn : res = none := by
        rw [← hres]
        by_cases h1 : (x.length - 20) / 16 < N3
        · rw [if_pos h1]
        · rw [if_neg h1, readP_long (by rw [List.length_take, List.length_drop]; omega)]; rfl
      have hd1 : decide (20000 < (N3 : Int)) = true := decide_eq_true (by omega)
      have HN := Hid.mk hn.symm
      clear hres hn
      go_wp2_with fail
      have hb8 := ((HKb.out.1.set 0 (.int .u64 0)).set 1 (.int .u64 0)).set 2 (.slice none 0 0)
      have z0 := hb8.cell 0 rfl
      have z1 := hb8.cell 1 rfl
      have z2 := hb8.cell 2 rfl
      exact bodyPost_ret (v := .tuple #[.agg #[.int .u64 0, .int .u64 0, .slice none 0 0], .bool false]) (by simp [results, Try.results14, go_sem, z0, z1, z2]) rfl ⟨by rw [← HN.out]; exact ⟨none, 0, rfl, Rds.nil⟩, ((HKb.out.2.setCell (fun h => absurd h (Nat.lt_irrefl _)) _).setCell (fun h => absurd h (Nat.lt_irrefl _)) _).setCell (fun h => absurd h (Nat.lt_irrefl _)) _⟩
    · have hd1 : decide (20000 < (N3 : Int)) = false := decide_eq_false (by omega)
      by_cases hsh : x.length - 20 < 16 * N3
      · have hn : res = none := by rw [← hres, if_pos (hdv.2 hsh)]
        have hd2 : decide ((x.length : Int) - 20 < 16 * (N3 : Int)) = true := decide_eq_true (by omega)
        have HN := Hid.mk hn.symm
        clear hres hn hdv
        go_wp2_with fail
        have hb8 := ((HKb.out.1.set 0 (.int .u64 0)).set 1 (.int .u64 0)).set 2 (.slice none 0 0)
        have z0 := hb8.cell 0 rfl
        have z1 := hb8.cell 1 rfl
        have z2 := hb8.cell 2 rfl
        exact bodyPost_ret (v := .tuple #[.agg #[.int .u64 0, .int .u64 0, .slice none 0 0], .bool false]) (by simp [results, Try.results14, go_sem, z0, z1, z2]) rfl ⟨by rw [← HN.out]; exact ⟨none, 0, rfl, Rds.nil⟩, ((HKb.out.2.setCell (fun h => absurd h (Nat.lt_irrefl _)) _).setCell (fun h => absurd h (Nat.lt_irrefl _)) _).setCell (fun h => absurd h (Nat.lt_irrefl _)) _⟩
      · rw [if_neg (by rw [hdv]; exact hsh)] at hres
        have hd2 : decide ((x.length : Int) - 20 < 16 * (N3 : Int)) = false := decide_eq_false (by omega)
        have hcut := HSL.out (16 * N3) (by omega)
        rw [show ((20 + 16 * N3 : Nat) : Int) = 20 + 16 * (N3 : Int) by omega] at hcut
        have hU := fun W => unpoints_any ((x.drop 20).take (16 * N3)) W (by rw [List.length_take, List.length_drop]; omega)
        generalize readP ((x.drop 20).take (16 * N3)) = rp at *
        generalize (x.drop 20).take (16 * N3) = bz at *
        have HU := Hid.mk (And.intro hU hres)
        clear hU hres hdv
        go_wp2_with fail
        clear x0 x1 x2 xf
        refine (HU.out.1 _).mono ?_
        rintro e w4 ⟨hpi, c4⟩
        have hb4 := HKb.out.1.keep c4 (fun h => h)
        have hk4 := HK.out.1.keep c4 (fun h => h)
        have x0 : w4.cell? ⟨w.heap.size, 0, none⟩ = some (.int .u64 0) := hb4.cell 0 rfl
        have x1 : w4.cell? ⟨w.heap.size, 1, none⟩ = some (.int .u64 0) := hb4.cell 1 rfl
        have x2 : w4.cell? ⟨w.heap.size, 2, none⟩ = some (.slice none 0 0) := hb4.cell 2 rfl
        have xf := fun j => hb4.free j
        have q0 : w4.cell? ⟨wb.heap.size, 0, none⟩ = some (.int .u64 N1) := hk4.cell 0 rfl
        have q1 : w4.cell? ⟨wb.heap.size, 1, none⟩ = some (.int .u64 N2) := hk4.cell 1 rfl
        have q2 : w4.cell? ⟨wb.heap.size, 2, none⟩ = some (.slice none 0 0) := hk4.cell 2 rfl
        have qf := fun j => hk4.free j
        have hlt4 := hk4.lt
        have H4 := Hid.mk (And.intro hb4 (And.intro hk4 (HKb.out.2.trans c4 (fun _ _ h => h))))
        have HW4 := Hid.mk (And.intro (show w.heap.size ≤ w3.heap.size from HKb.out.2.size) HK.out.1.lt)
        clear hb4 hk4 c4
        cases rp with
        | none =>
          have HN := Hid.mk (show none = res from HU.out.2)
          obtain rfl : e = _ := hpi
          go_wp2_with fail
          have hb8 := (((H4.out.1.far (p := ⟨wb.heap.size, 2, none⟩) (by show w.heap.size ≠ wb.heap.size; omega) (.slice none 0 0)).set 0 (.int .u64 0)).set 1 (.int .u64 0)).set 2 (.slice none 0 0)
          have z0 := hb8.cell 0 rfl
          have z1 := hb8.cell 1 rfl
          have z2 := hb8.cell 2 rfl
          exact bodyPost_ret (v := .tuple #[.agg #[.int .u64 0, .int .u64 0, .slice none 0 0], .bool false]) (by simp [results, Try.results14, go_sem, z0, z1, z2]) rfl ⟨by rw [← HN.out]; exact ⟨none, 0, rfl, Rds.nil⟩, (((H4.out.2.2.setCell (p := ⟨wb.heap.size, 2, none⟩) (fun h => absurd (show wb.heap.size < w.heap.size from h) (by omega)) (.slice none 0 0)).setCell (fun h => absurd h (Nat.lt_irrefl _)) _).setCell (fun h => absurd h (Nat.lt_irrefl _)) _).setCell (fun h => absurd h (Nat.lt_irrefl _)) _⟩
        | some l =>
          obtain ⟨v4, rfl, o4⟩ := hpi
          obtain ⟨A4, k4, rfl, hk4, hm4⟩ := own_form o4
          unfold maxLen at hm4
          have O4 := Hid.mk o4
          have hset : Chg (· = wb.heap.size) w4 (w4.setCell ⟨wb.heap.size, 2, none⟩ (.slice A4 l.length k4)) := (Chg.refl (· = wb.heap.size) w4).setCell (p := ⟨wb.heap.size, 2, none⟩) (fun _ => rfl) (.slice A4 l.length k4)
          have o4' := own_keep o4 hset (fun k hk h => by have h5 := own_ge o4 k hk; have h6 := HW4.out.2; omega)
          have hS := snapOk_any N1 N2 A4 l.length k4 l _ _ (Rds.of_own o4') (by omega)
          have hres : (if Sn.ok ⟨N1, N2, l⟩ then some (⟨N1, N2, l⟩ : Sn) else none) = res := HU.out.2
          have HS := Hid.mk (And.intro hS o4')
          have HR := Hid.mk hres
          clear o4 hset o4' hS hres
          go_wp2_with fail
          refine HS.out.1.mono ?_
          rintro e w5 ⟨rfl, c5⟩
          have hb5 := (H4.out.1.far (p := ⟨wb.heap.size, 2, none⟩) (by show w.heap.size ≠ wb.heap.size; omega) (.slice A4 l.length k4)).keep c5 (fun h => h)
          have hk5 : Bk w5 wb.heap.size 29 #[.int .u64 N1, .int .u64 N2, .slice A4 l.length k4] := (H4.out.2.1.set 2 (.slice A4 l.length k4)).keep c5 (fun h => h)
          have hch5 : Chg Nil w w5 := (H4.out.2.2.setCell (p := ⟨wb.heap.size, 2, none⟩) (fun h => absurd (show wb.heap.size < w.heap.size from h) (by omega)) (.slice A4 l.length k4)).trans c5 (fun _ _ h => h)
          have O5 := Hid.mk (own_keep HS.out.2 c5 (fun _ _ h => h))
          clear x0 x1 x2 xf q0 q1 q2 qf
          have x0 : w5.cell? ⟨w.heap.size, 0, none⟩ = some (.int .u64 0) := hb5.cell 0 rfl
          have x1 : w5.cell? ⟨w.heap.size, 1, none⟩ = some (.int .u64 0) := hb5.cell 1 rfl
          have x2 : w5.cell? ⟨w.heap.size, 2, none⟩ = some (.slice none 0 0) := hb5.cell 2 rfl
          have xf := fun j => hb5.free j
          have q0 : w5.cell? ⟨wb.heap.size, 0, none⟩ = some (.int .u64 N1) := hk5.cell 0 rfl
          have q1 : w5.cell? ⟨wb.heap.size, 1, none⟩ = some (.int .u64 N2) := hk5.cell 1 rfl
          have q2 : w5.cell? ⟨wb.heap.size, 2, none⟩ = some (.slice A4 l.length k4) := hk5.cell 2 rfl
          have qf := fun j => hk5.free j
          have H5 := Hid.mk (And.intro hb5 (And.intro hk5 hch5))
          clear hb5 hk5 hch5 c5
          have hres := HR.out
          cases hok : Sn.ok ⟨N1, N2, l⟩ with
          | true =>
            rw [hok, if_pos rfl] at hres
            have HN := Hid.mk hres
            clear hres hok
            go_wp2_with fail
            have hb8 := ((H5.out.1.set 0 (.int .u64 N1)).set 1 (.int .u64 N2)).set 2 (.slice A4 l.length k4)
            have z0 := hb8.cell 0 rfl
            have z1 := hb8.cell 1 rfl
            have z2 := hb8.cell 2 rfl
            exact bodyPost_ret (v := .tuple #[.agg #[.int .u64 N1, .int .u64 N2, .slice A4 l.length k4], .bool true]) (by simp [results, Try.results14, go_sem, z0, z1, z2]) rfl ⟨by rw [← HN.out]; exact ⟨A4, k4, rfl, (Rds.of_own (own_keep O5.out ((((Chg.refl (· = w.heap.size) w5).setCell (p := ⟨w.heap.size, 0, none⟩) (fun _ => rfl) (.int .u64 N1)).setCell (p := ⟨w.heap.size, 1, none⟩) (fun _ => rfl) (.int .u64 N2)).setCell (p := ⟨w.heap.size, 2, none⟩) (fun _ => rfl) (.slice A4 l.length k4)) (fun k hk h => by have h5 := own_ge O4.out k hk; have h6 := HW4.out.2; have h7 : k = w.heap.size := h; omega))).wider (fun k _ hk => by have h5 := own_ge O4.out k hk; have h6 := HW4.out.1; show w.heap.size ≤ k; omega) (by omega)⟩, ((H5.out.2.2.setCell (fun h => absurd h (Nat.lt_irrefl _)) _).setCell (fun h => absurd h (Nat.lt_irrefl _)) _).setCell (fun h => absurd h (Nat.lt_irrefl _)) _⟩
          | false =>
            rw [hok, if_neg (by decide)] at hres
            have HN := Hid.mk hres
            clear hres hok
            go_wp2_with fail
            have hb8 := ((H5.out.1.set 0 (.int .u64 0)).set 1 (.int .u64 0)).set 2 (.slice none 0 0)
            have z0 := hb8.cell 0 rfl
            have z1 := hb8.cell 1 rfl
            have z2 := hb8.cell 2 rfl
            exact bodyPost_ret (v := .tuple #[.agg #[.int .u64 0, .int .u64 0, .slice none 0 0], .bool false]) (by simp [results, Try.results14, go_sem, z0, z1, z2]) rfl ⟨by rw [← HN.out]; exact ⟨none, 0, rfl, Rds.nil⟩, ((H5.out.2.2.setCell (fun h => absurd h (Nat.lt_irrefl _)) _).setCell (fun h => absurd h (Nat.lt_irrefl _)) _).setCell (fun h => absurd h (Nat.lt_irrefl _)) _⟩

end Go.Proofs.Ytomlmedfiajfkaa
