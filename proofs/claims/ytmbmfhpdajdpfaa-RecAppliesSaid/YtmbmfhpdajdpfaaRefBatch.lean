/- The document's point and Batch: their bytes. -/
import Derived.Test.YtmbmfhpdajdpfaaGood
import Derived.Test.YtmbmfhpdajdpfaaQuiet
import Derived.Deep.DeepCutAuto
namespace Go.Proofs.Ytmbmfhpdajdpfaa
open Go.RowKit

theorem rnum_any (k : Int) (w : World) : Calls Try.prog 37 #[.int .u64 (IntKind.u64.wrap k), .int .i64 4] w fun e w' => e = .returned (.string ⟨(numB (un k) 4).toArray⟩) ∧ Below w.heap.size w w' := by
  rw [un_val]
  exact rnumber_any (un k) 4 w (by omega)
theorem pt_bytes (p : Pt) : p.bytes = numB (un p.key) 4 ++ numB (un p.x) 4 ++ numB (un p.y) 4 ++ numB (un p.v) 4 := by
  simp [Pt.bytes, numsB, Pt.is, List.append_assoc]
theorem str_add (a b : List UInt8) (h : a.length + b.length ≤ 1000000) (W : World) : (Op.stringOp .add ⟨a.toArray⟩ ⟨b.toArray⟩).run Try.prog W = .ok (.string ⟨(a ++ b).toArray⟩) W := by
  rw [run_string_add_sum W _ _ (by simp [ByteArray.size]; omega), ByteArray.mk_append_mk]

set_option maxHeartbeats 1000000 in
set_option maxRecDepth 100000 in
theorem rpoint_any (p : Pt) (w : World) : Calls Try.prog 44 #[.agg p.cs.toArray] w fun e w' => e = .returned (.string ⟨p.bytes.toArray⟩) ∧ Chg Nil w w' := by
  rw [pt_bytes]
  obtain ⟨k, x, y, v⟩ := p
  simp only [Pt.cs]
  have r1 := Hid.mk (fun wb : World => After.call (w := wb) fun W _ => rnum_any k W)
  have r2 := Hid.mk (fun wb : World => After.call (w := wb) fun W _ => rnum_any x W)
  have r3 := Hid.mk (fun wb : World => After.call (w := wb) fun W _ => rnum_any y W)
  have r4 := Hid.mk (fun wb : World => After.call (w := wb) fun W _ => rnum_any v W)
  have l1 : (numB (un k) 4).length = 4 := numB_len _ _
  have l2 : (numB (un x) 4).length = 4 := numB_len _ _
  have l3 : (numB (un y) 4).length = 4 := numB_len _ _
  have l4 : (numB (un v) 4).length = 4 := numB_len _ _
  generalize numB (un k) 4 = n1 at *
  generalize numB (un x) 4 = n2 at *
  generalize numB (un y) 4 = n3 at *
  generalize numB (un v) 4 = n4 at *
  have a1 := fun W => str_add n1 n2 (by omega) W
  have a2 := fun W => str_add (n1 ++ n2) n3 (by simp; omega) W
  have a3 := fun W => str_add (n1 ++ n2 ++ n3) n4 (by simp; omega) W
  clear l1 l2 l3 l4
  have l12 : (n1 ++ n2).toArray = n1.toArray ++ n2.toArray := by simp
  generalize h12 : n1 ++ n2 = n12 at *
  generalize h123 : n12 ++ n3 = n123 at *
  generalize h1234 : n123 ++ n4 = n1234 at *
  clear l12 h12 h123 h1234
  go_enter Try.func44, Try.ntmps44
  go_upto_region 1 with fail
  have hB := Bk.new w 44 #[.int .i64 k, .int .i64 x, .int .i64 y, .int .i64 v]
  generalize hwb : w.alloc (.cells #[.int .i64 k, .int .i64 x, .int .i64 y, .int .i64 v] 44) = wb at *
  have hA : Chg Nil w wb := by rw [← hwb]; exact (Chg.refl _ _).alloc _
  have c1 : ∀ z : After wb, z.world.cell? ⟨w.heap.size, 0, none⟩ = some (.int .i64 k) := fun z => z.chg.cell (hB.cell 0 rfl) (fun h => h)
  have c2 : ∀ z : After wb, z.world.cell? ⟨w.heap.size, 1, none⟩ = some (.int .i64 x) := fun z => z.chg.cell (hB.cell 1 rfl) (fun h => h)
  have c3 : ∀ z : After wb, z.world.cell? ⟨w.heap.size, 2, none⟩ = some (.int .i64 y) := fun z => z.chg.cell (hB.cell 2 rfl) (fun h => h)
  have c4 : ∀ z : After wb, z.world.cell? ⟨w.heap.size, 3, none⟩ = some (.int .i64 v) := fun z => z.chg.cell (hB.cell 3 rfl) (fun h => h)
  have H := Hid.mk (And.intro hA hwb)
  clear hB hA hwb
  have hne := After.some wb
  refine wp_region_after (by kernel_rfl) (by kernel_rfl) ?_
  repeat (go_big_quiet_step (first | (with_reducible exact r1.out _ _) | (with_reducible exact r2.out _ _) | (with_reducible exact r3.out _ _) | (with_reducible exact r4.out _ _)))
  refine wpQuiet_nil ?_
  rintro _ ⟨z, rfl⟩
  have H2 := Hid.mk (H.out.1.trans z.chg (fun _ _ h => h))
  go_wp2_with fail
  go_ret
  exact ⟨rfl, H2.out⟩
theorem batB_take (l : List Oq) (k : Nat) (o : Oq) (h : l[k]? = some o) : batB (l.take (k + 1)) = batB (l.take k) ++ o.bytes := by
  rw [List.take_add_one, h]
  simp [batB]

set_option maxHeartbeats 1000000 in
set_option maxRecDepth 100000 in
theorem rbatch_any (A : Option Addr) (n c : Nat) (l : List Oq) (S : Nat → Prop) (w : World) (hr : RdO w S A n l) (hn : n ≤ 500) (hall : ∀ (k : Nat) (o : Oq), l[k]? = some o → o.ok = true) :
    Calls Try.prog 22 #[.slice A n c] w fun e w' => e = .returned (.string ⟨(batB l).toArray⟩) ∧ Chg Nil w w' := by
  have hl := hr.len
  have HR := Hid.mk (And.intro hr hall)
  clear hr hall
  go_enter Try.func22, Try.ntmps22
  go_wp2_with fail
  go_loopw [3, 4] (fun s i wr => ∃ k : Nat, k ≤ n ∧ s = .string ⟨(batB (l.take k)).toArray⟩ ∧ i = .int .i64 (k : Int) ∧ Chg Nil w wr) (fun _ i _ => n - (intOf i).toNat)
  case atStart => exact ⟨0, Nat.zero_le _, rfl, rfl, Chg.refl _ _⟩
  case round =>
    obtain ⟨k, hk, rfl, rfl, hch⟩ := hrel
    by_cases hlt : k < n
    · obtain ⟨b, off, rfl, _, hat⟩ := HR.out.1.at5 (by omega)
      have ho : l[k]? = some (l[k]'(by omega)) := List.getElem?_eq_getElem (by omega)
      generalize l[k]'(by omega) = o at ho
      have hstep := batB_take l k o ho
      have hkd := kind_of_ok (HR.out.2 k o ho)
      have hX := batB_len (l.take k)
      rw [List.length_take, Nat.min_eq_left (by omega)] at hX
      have HP := Hid.mk (fun W => rpoint_any o.pt W)
      have HN := Hid.mk (fun W => rnum_any o.pt.key W)
      have hpl : o.pt.bytes.length = 16 := by simp [Pt.bytes, numsB, Pt.is, numB_len]
      have hnl : (numB (un o.pt.key) 4).length = 4 := numB_len _ _
      obtain ⟨kd, ky, x, y, v⟩ := o
      simp only [Pt.cs] at HP HN hkd hpl hnl
      obtain ⟨c0, c1, c2, c3, c4⟩ := hat wr hch k kd ky x y v ho
      have hb : Oq.bytes ⟨kd, ⟨ky, x, y, v⟩⟩ = UInt8.ofNat (un kd) :: (if kd = 1 then Pt.bytes ⟨ky, x, y, v⟩ else numB (un ky) 4) := rfl
      generalize Pt.bytes ⟨ky, x, y, v⟩ = pb at *
      generalize numB (un ky) 4 = nb at *
      rw [hb] at hstep
      generalize hYe : batB (l.take (k + 1)) = Y at *
      have HY := Hid.mk hYe
      clear hYe
      generalize batB (l.take k) = X at *
      have hXL : X.length ≤ 8500 := by omega
      rcases hkd with rfl | rfl
      · rw [if_pos rfl] at hstep
        have a1 : ∀ W, (Op.stringOp .add ⟨X.toArray⟩ ⟨#[1]⟩).run Try.prog W = .ok (.string ⟨(X ++ [1]).toArray⟩) W := fun W => str_add X [1] (by simp; omega) W
        have hY : X ++ [1] ++ pb = Y := by rw [hstep]; simp [un]
        have a2 := fun W => str_add (X ++ [1]) pb (by simp; omega) W
        rw [hY] at a2
        generalize X ++ [1] = X1 at *
        have HK := Hid.mk hch
        clear hch hat ho hstep hb hY hpl hnl hX hXL
        go_wp2_with fail
        refine (HP.out _).mono ?_
        rintro e w1 ⟨rfl, hc1⟩
        have H1 := Hid.mk (HK.out.trans hc1 (fun _ _ h => h))
        clear hc1
        go_wp2_with fail
        go_roundw
        case rel => exact ⟨k + 1, by omega, by rw [HY.out], by go_num, H1.out⟩
        case measure => simp [intOf]; omega
      · rw [if_neg (by decide)] at hstep
        have a1 : ∀ W, (Op.stringOp .add ⟨X.toArray⟩ ⟨#[2]⟩).run Try.prog W = .ok (.string ⟨(X ++ [2]).toArray⟩) W := fun W => str_add X [2] (by simp; omega) W
        have hY : X ++ [2] ++ nb = Y := by rw [hstep]; simp [un]
        have a2 := fun W => str_add (X ++ [2]) nb (by simp; omega) W
        rw [hY] at a2
        generalize X ++ [2] = X1 at *
        have HK := Hid.mk hch
        clear hch hat ho hstep hb hY hpl hnl hX hXL
        go_wp2_with fail
        refine (HN.out _).mono ?_
        rintro e w1 ⟨rfl, hc1⟩
        have H1 := Hid.mk (HK.out.trans (Chg.of_below' hc1) (fun _ _ h => h))
        clear hc1
        go_wp2_with fail
        go_roundw
        case rel => exact ⟨k + 1, by omega, by rw [HY.out], by go_num, H1.out⟩
        case measure => simp [intOf]; omega
    · have hkn : k = n := by omega
      subst hkn
      have ht : l.take k = l := List.take_of_length_le (by omega)
      have HK := Hid.mk hch
      clear hch
      go_wp2_with fail
      go_ret
      rw [ht]
      exact ⟨rfl, HK.out⟩
end Go.Proofs.Ytmbmfhpdajdpfaa
