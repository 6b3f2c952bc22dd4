/- Joined for this seat from: XEc. -/
import Derived.Deep.DeepCutAuto
import Derived.Test.YtkemmffdiclloaaGreatDoorAd
set_option linter.unusedVariables false
set_option linter.unusedSimpArgs false
namespace Go.Proofs.YtkemmffdiclloaaGreatDoor
open Go.RowKit
theorem half_mul {a b : Int} (ha : Half a) (hb : Half b) : -5316911983139663491615228241121378304 ≤ a * b ∧ a * b ≤ 5316911983139663491615228241121378304 := by
  unfold Half at *
  have h1 : (a * b).natAbs ≤ 5316911983139663491615228241121378304 := by
    rw [Int.natAbs_mul]
    exact Nat.mul_le_mul (show a.natAbs ≤ 2305843009213693952 by omega) (show b.natAbs ≤ 2305843009213693952 by omega)
  omega
set_option maxHeartbeats 2000000 in
set_option maxRecDepth 100000 in
theorem eMul_any (a b c d : Int) (ha : Half a) (hb : Half b) (hc : Half c) (hd : Half d) (h1 : -9223372036854775808 ≤ a * c - b * d) (h2 : a * c - b * d ≤ 9223372036854775807) (h3 : -9223372036854775808 ≤ a * d + b * c + b * d) (h4 : a * d + b * c + b * d ≤ 9223372036854775807) (w : World) :
    Calls Tryz.prog 30 #[eV a b, eV c d] w fun e w' => e = .returned (.tuple #[eV (a * c - b * d) (a * d + b * c + b * d), .bool true]) ∧ Chg Nil w w' := by
  have p1 := half_mul ha hc
  have p2 := half_mul hb hd
  have p3 := half_mul ha hd
  have p4 := half_mul hb hc
  have T1 := fun W => times_any a c ha hc W
  have T2 := fun W => times_any b d hb hd W
  have T3 := fun W => times_any a d ha hd W
  have T4 := fun W => times_any b c hb hc W
  have M1 := fun W => minus_any (a * c) (b * d) (by unfold Tame; omega) (by unfold Tame; omega) W
  have S1 := fun W => short_any (a * c - b * d) h1 h2 W
  have P1 := fun W => plus_any (a * d) (b * c) (by unfold Tame; omega) (by unfold Tame; omega) W
  have P2 := fun W => plus_any (a * d + b * c) (b * d) (by unfold Tame; omega) (by unfold Tame; omega) W
  have S2 := fun W => short_any (a * d + b * c + b * d) h3 h4 W
  have B1 := fun W => both_any (a * c - b * d) (a * d + b * c + b * d) W
  clear p1 p2 p3 p4 h1 h2 h3 h4 ha hb hc hd
  generalize a * c - b * d = X at *
  generalize a * d + b * c + b * d = Y at *
  generalize a * d + b * c = V at *
  generalize a * c = ac at *
  generalize b * d = bd at *
  generalize a * d = ad at *
  generalize b * c = bc at *
  have HC := Hid.mk (And.intro T1 (And.intro T2 (And.intro T3 (And.intro T4 (And.intro M1 (And.intro S1 (And.intro P1 (And.intro P2 (And.intro S2 B1)))))))))
  clear T1 T2 T3 T4 M1 S1 P1 P2 S2 B1
  unfold wideV eV at *
  generalize hiW bd = bh at *
  generalize loW bd = bl at *
  go_enter Tryz.func30, Tryz.ntmps30
  go_wp2_with fail
  have hB := box3 w 25 25 25 #[.int .i64 a, .int .i64 b] #[.int .i64 c, .int .i64 d] #[.int .i64 0, .int .i64 0]
  refine (HC.out.2.1 _).mono ?_
  rintro e w1 ⟨rfl, c1⟩
  have HB := Hid.mk (And.intro (hB.1.keep c1 (fun h => h)) (And.intro (hB.2.1.keep c1 (fun h => h)) (And.intro (hB.2.2.1.keep c1 (fun h => h)) (hB.2.2.2.trans c1 (fun _ _ h => h)))))
  clear hB c1
  go_upto_region 3 with fail
  have hq0 := HB.out.1.alloc (.cells #[.int .i64 bh, .int .u64 bl] 152)
  have hq1 := HB.out.2.1.alloc (.cells #[.int .i64 bh, .int .u64 bl] 152)
  have hq2 := HB.out.2.2.1.alloc (.cells #[.int .i64 bh, .int .u64 bl] 152)
  have hq3 := Bk.new w1 152 #[.int .i64 bh, .int .u64 bl]
  have hqc : Chg Nil w (w1.alloc (.cells #[.int .i64 bh, .int .u64 bl] 152)) := HB.out.2.2.2.alloc _
  obtain ⟨gx, hgx⟩ : ∃ gx, gx = w1.heap.size := ⟨_, rfl⟩
  rw [← hgx] at hq3 ⊢
  generalize w1.alloc (.cells #[.int .i64 bh, .int .u64 bl] 152) = wq at *
  clear hgx HB
  have y0 : ∀ z : After wq, z.world.cell? ⟨w.heap.size, 0, none⟩ = some (.int .i64 a) := fun z => (hq0.after z).cell 0 rfl
  have y2 : ∀ z : After wq, z.world.cell? ⟨w.heap.size + 1, 0, none⟩ = some (.int .i64 c) := fun z => (hq1.after z).cell 0 rfl
  have y4 : ∀ z : After wq, z.world.cell? ⟨gx, 0, none⟩ = some (.int .i64 bh) := fun z => (hq3.after z).cell 0 rfl
  have y5 : ∀ z : After wq, z.world.cell? ⟨gx, 1, none⟩ = some (.int .u64 bl) := fun z => (hq3.after z).cell 1 rfl
  have HO := Hid.mk (And.intro (fun z : After wq => After.callE HC.out.1 z) (And.intro (fun z : After wq => After.callE HC.out.2.2.2.2.1 z) (fun z : After wq => After.callE HC.out.2.2.2.2.2.1 z)))
  have HQ := Hid.mk (And.intro hq0 (And.intro hq1 (And.intro hq2 (And.intro hq3 hqc))))
  have hne := After.some wq
  clear hq0 hq1 hq2 hq3 hqc
  refine wp_region_after (by kernel_rfl) (by kernel_rfl) ?_
  repeat (go_big_quiet_step (first | with_reducible exact HO.out.1 _ | with_reducible exact HO.out.2.1 _ | with_reducible exact HO.out.2.2 _))
  refine wpQuiet_nil ?_
  rintro _ ⟨z, rfl⟩
  have HR := Hid.mk (And.intro (HQ.out.1.after z) (And.intro (HQ.out.2.1.after z) (And.intro (HQ.out.2.2.1.after z) (And.intro (HQ.out.2.2.2.1.after z) (HQ.out.2.2.2.2.trans z.chg (fun _ _ h => h))))))
  clear y0 y2 y4 y5 HO HQ hne
  go_upto_region 4 with fail
  generalize z.world = wr at *
  have y0 : ∀ z : After wr, z.world.cell? ⟨w.heap.size, 0, none⟩ = some (.int .i64 a) := fun z => (HR.out.1.after z).cell 0 rfl
  have y1 : ∀ z : After wr, z.world.cell? ⟨w.heap.size, 1, none⟩ = some (.int .i64 b) := fun z => (HR.out.1.after z).cell 1 rfl
  have y2 : ∀ z : After wr, z.world.cell? ⟨w.heap.size + 1, 0, none⟩ = some (.int .i64 c) := fun z => (HR.out.2.1.after z).cell 0 rfl
  have y3 : ∀ z : After wr, z.world.cell? ⟨w.heap.size + 1, 1, none⟩ = some (.int .i64 d) := fun z => (HR.out.2.1.after z).cell 1 rfl
  have y4 : ∀ z : After wr, z.world.cell? ⟨gx, 0, none⟩ = some (.int .i64 bh) := fun z => (HR.out.2.2.2.1.after z).cell 0 rfl
  have y5 : ∀ z : After wr, z.world.cell? ⟨gx, 1, none⟩ = some (.int .u64 bl) := fun z => (HR.out.2.2.2.1.after z).cell 1 rfl
  have HO := Hid.mk (And.intro (fun z : After wr => After.callE HC.out.2.2.1 z) (And.intro (fun z : After wr => After.callE HC.out.2.2.2.1 z) (And.intro (fun z : After wr => After.callE HC.out.2.2.2.2.2.2.1 z) (And.intro (fun z : After wr => After.callE HC.out.2.2.2.2.2.2.2.1 z) (fun z : After wr => After.callE HC.out.2.2.2.2.2.2.2.2.1 z)))))
  have hne := After.some wr
  refine wp_region_after (by kernel_rfl) (by kernel_rfl) ?_
  repeat (go_big_quiet_step (first | with_reducible exact HO.out.1 _ | with_reducible exact HO.out.2.1 _ | with_reducible exact HO.out.2.2.1 _ | with_reducible exact HO.out.2.2.2.1 _ | with_reducible exact HO.out.2.2.2.2 _))
  refine wpQuiet_nil ?_
  rintro _ ⟨z2, rfl⟩
  have H4 := Hid.mk (And.intro (HR.out.2.2.1.after z2) (HR.out.2.2.2.2.trans z2.chg (fun _ _ h => h)))
  clear y0 y1 y2 y3 y4 y5 HO HR hne
  go_wp2_with fail
  refine (HC.out.2.2.2.2.2.2.2.2.2 _).mono ?_
  rintro e w3 ⟨rfl, c3⟩
  have hb := H4.out.1.keep c3 (fun h => h)
  have z0 : w3.cell? ⟨w.heap.size + 1 + 1, 0, none⟩ = some (.int .i64 0) := hb.cell 0 rfl
  have z1 : w3.cell? ⟨w.heap.size + 1 + 1, 1, none⟩ = some (.int .i64 0) := hb.cell 1 rfl
  have fz := fun j => hb.free j
  have H3 := Hid.mk (H4.out.2.trans c3 (fun _ _ h => h))
  clear c3 hb
  go_wp2_with fail
  exact bodyPost_ret (v := .tuple #[.agg #[.int .i64 X, .int .i64 Y], .bool true]) (by simp [results, Tryz.results30, go_sem, z0, z1]) rfl ⟨rfl, (H3.out.setCell (fun h => by simp at h; omega) _).setCell (fun h => by simp at h; omega) _⟩

end Go.Proofs.YtkemmffdiclloaaGreatDoor
