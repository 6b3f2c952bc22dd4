/- Joined for this seat from: XEu. -/
import Derived.Test.YtkemmffdiclloaaGreatDoorAw
set_option linter.unusedVariables false
set_option linter.unusedSimpArgs false
namespace Go.Proofs.YtkemmffdiclloaaGreatDoor
open Go.RowKit
theorem Ring.after {w : World} {g : Nat} {L : List (Int × Int)} (h : Ring w g L) (x : After w) : Ring x.world g L := h.keep x.chg (fun h => h)
def Small34 (p : Int × Int) : Prop := p.1.natAbs ≤ 17179869184 ∧ p.2.natAbs ≤ 17179869184
/-- A ring whose numbers are small, and whose edges are short. -/
def RingOk (L : List (Int × Int)) : Prop := L.length = 6 ∧ (∀ (j : Nat) (p : Int × Int), L[j]? = some p → Small34 p) ∧ ∀ (j : Nat) (p q : Int × Int), j < 6 → L[j]? = some p → L[(j + 1) % 6]? = some q → (q.1 - p.1).natAbs ≤ 33554432 ∧ (q.2 - p.2).natAbs ≤ 33554432
theorem touch_iff (l h : Int × Int) (L : List (Int × Int)) (hL : L.length = 6) (hb : besideP l h L = false) : touchP l h L = true ↔ ∀ (j : Nat) (p q : Int × Int), j < 6 → L[j]? = some p → L[(j + 1) % 6]? = some q → outP l h p q = false := by
  unfold touchP
  rw [hb, hL]
  simp only [Bool.not_false, Bool.true_and, List.all_eq_true, List.mem_range, Bool.not_eq_true']
  refine ⟨fun hx j p q hj hp hq => ?_, fun hx j hj => ?_⟩
  · have := hx j hj
    rwa [List.getD_eq_getElem?_getD, List.getD_eq_getElem?_getD, hp, hq] at this
  · have hp : L[j]? = some L[j] := List.getElem?_eq_getElem (by omega)
    have hq : L[(j + 1) % 6]? = some (L[(j + 1) % 6]'(by omega)) := List.getElem?_eq_getElem (by omega)
    rw [List.getD_eq_getElem?_getD, List.getD_eq_getElem?_getD, hp, hq]
    exact hx j _ _ hj hp hq
set_option maxHeartbeats 4000000 in
theorem touches_any (l h : Int × Int) (hl : Small34 l) (hh : Small34 h) (g : Nat) (L : List (Int × Int)) (hL : RingOk L) (c : Nat) (w : World) (hr : Ring w g L) :
    Calls Tryz.prog 41 #[bxV l h, .slice (some { block := g, off := 0 }) 6 c] w fun e w' => e = .returned (.bool (touchP l h L)) ∧ Chg Nil w w' := by
  have h1 := fun (W : World) hW => beside_any l h g L hL.1 c W hW
  have hcr : ∀ j, j < 4 → (cornB l h j).1.natAbs ≤ 17179869184 ∧ (cornB l h j).2.natAbs ≤ 17179869184 := by
    intro j hj
    unfold Small34 at hl hh
    have h4 : j = 0 ∨ j = 1 ∨ j = 2 ∨ j = 3 := by omega
    rcases h4 with rfl | rfl | rfl | rfl <;> simp only [cornB] <;> omega
  have h2 : ∀ (j : Nat) (p q : Int × Int), j < 6 → L[j]? = some p → L[(j + 1) % 6]? = some q → ∀ W : World, Calls Tryz.prog 80 #[bxV l h, pV p, pV q] W fun e w' => e = .returned (.bool (outP l h p q)) ∧ Chg Nil W w' :=
    fun j p q hj hp hq W => outside_any l h p q hcr (hL.2.1 j p hp).1 (hL.2.1 j p hp).2 (hL.2.2 j p q hj hp hq).1 (hL.2.2 j p q hj hp hq).2 W
  have hti := fun hb => touch_iff l h L hL.1 hb
  have htb : besideP l h L = true → touchP l h L = false := fun hb => by unfold touchP; rw [hb]; rfl
  have HT := Hid.mk (And.intro hti htb)
  have HL := Hid.mk hL
  have hlen : L.length = 6 := hL.1
  clear hti htb hL hl hh hcr
  have H2 := Hid.mk h2
  clear h2
  generalize besideP l h L = BB at *
  generalize touchP l h L = TT at *
  have hbx : bxV l h = .agg #[.int .i64 l.1, .int .i64 l.2, .int .i64 h.1, .int .i64 h.2] := rfl
  simp only [hbx] at h1 H2 ⊢
  clear hbx
  go_enter Tryz.func41, Tryz.ntmps41
  go_wp2_with fail
  have hB := Bk.new w 92 #[.int .i64 l.1, .int .i64 l.2, .int .i64 h.1, .int .i64 h.2]
  have hc0 := (Chg.refl Nil w).alloc (.cells #[.int .i64 l.1, .int .i64 l.2, .int .i64 h.1, .int .i64 h.2] 92)
  have hr0 := hr.keep hc0 (fun h => h)
  refine (h1 _ hr0).mono ?_
  rintro e w1 ⟨rfl, c1⟩
  have HB := Hid.mk (And.intro (hB.keep c1 (fun h => h)) (And.intro (hr0.keep c1 (fun h => h)) (hc0.then c1)))
  clear hB hc0 hr0 hr h1 c1
  cases BB with
  | true =>
    have hf := HT.out.2 rfl
    subst hf
    go_wp2_with fail
    go_ret
    exact ⟨rfl, HB.out.2.2⟩
  | false =>
    have HI := Hid.mk (HT.out.1 rfl)
    clear HT
    go_wp2_with fail
    go_loopw [12] (fun v12 wr => ∃ j : Nat, j ≤ 6 ∧ v12 = .int .i64 (j : Int) ∧ Hid (∀ (i : Nat) (p q : Int × Int), i < j → L[i]? = some p → L[(i + 1) % 6]? = some q → outP l h p q = false) ∧ Hid (Bk wr w.heap.size 92 #[.int .i64 l.1, .int .i64 l.2, .int .i64 h.1, .int .i64 h.2] ∧ Ring wr g L ∧ Chg Nil w wr)) (fun v12 _ => 6 - (intOf v12).toNat)
    case atStart => exact ⟨0, by omega, rfl, Hid.mk (fun i p q hi => absurd hi (by omega)), HB⟩
    case round =>
      obtain ⟨j, hj, rfl, HA, HR⟩ := hrel
      clear HB
      by_cases hj6 : j < 6
      · obtain ⟨p, hp⟩ : ∃ p, L[j]? = some p := ⟨_, List.getElem?_eq_getElem (by omega)⟩
        obtain ⟨q, hq⟩ : ∃ q, L[(j + 1) % 6]? = some q := ⟨_, List.getElem?_eq_getElem (by omega)⟩
        have hc := H2.out j p q hj6 hp hq
        have y0 := (HR.out.2.1.2 j p hp).1
        have y1 := (HR.out.2.1.2 j p hp).2
        have rz := HR.out.2.1.1
        have bz := HR.out.1.lt
        have kj : Int.tmod ((j : Int) + 1) 6 = (((j + 1) % 6 : Nat) : Int) := by
          rw [Int.tmod_eq_emod_of_nonneg (by omega)]; omega
        have kl : (j + 1) % 6 < 6 := Nat.mod_lt _ (by decide)
        have HP := Hid.mk (And.intro hp hq)
        have hrw : Ring wr g L := HR.out.2.1
        have hpair := Bk.new wr 37 #[.int .i64 p.1, .int .i64 p.2]
        have hq0 := HR.out.1.alloc (.cells #[.int .i64 p.1, .int .i64 p.2] 37)
        have hq1 := hrw.keep ((Chg.refl Nil wr).alloc (.cells #[.int .i64 p.1, .int .i64 p.2] 37)) (fun h => h)
        have hq2 := HR.out.2.2.alloc (.cells #[.int .i64 p.1, .int .i64 p.2] 37)
        generalize hm : (j + 1) % 6 = m at *
        go_upto_region 6 with fail
        clear y0 y1 rz bz
        obtain ⟨gp, hgp⟩ : ∃ gp, gp = wr.heap.size := ⟨_, rfl⟩
        rw [← hgp] at hpair ⊢
        generalize wr.alloc (.cells #[.int .i64 p.1, .int .i64 p.2] 37) = wq at *
        have x0 : ∀ z : After wq, z.world.cell? ⟨w.heap.size, 0, none⟩ = some (.int .i64 l.1) := fun z => (hq0.after z).cell 0 rfl
        have x1 : ∀ z : After wq, z.world.cell? ⟨w.heap.size, 1, none⟩ = some (.int .i64 l.2) := fun z => (hq0.after z).cell 1 rfl
        have x2 : ∀ z : After wq, z.world.cell? ⟨w.heap.size, 2, none⟩ = some (.int .i64 h.1) := fun z => (hq0.after z).cell 2 rfl
        have x3 : ∀ z : After wq, z.world.cell? ⟨w.heap.size, 3, none⟩ = some (.int .i64 h.2) := fun z => (hq0.after z).cell 3 rfl
        have p0 : ∀ z : After wq, z.world.cell? ⟨gp, 0, none⟩ = some (.int .i64 p.1) := fun z => (hpair.after z).cell 0 rfl
        have p1 : ∀ z : After wq, z.world.cell? ⟨gp, 1, none⟩ = some (.int .i64 p.2) := fun z => (hpair.after z).cell 1 rfl
        have q0 : ∀ z : After wq, z.world.cell? ⟨g, m * 2, none⟩ = some (.int .i64 q.1) := fun z => ((hq1.after z).2 m q HP.out.2).1
        have q1 : ∀ z : After wq, z.world.cell? ⟨g, m * 2 + 1, none⟩ = some (.int .i64 q.2) := fun z => ((hq1.after z).2 m q HP.out.2).2
        have HC := Hid.mk hc
        have HQ := Hid.mk (And.intro hq0 (And.intro hq1 hq2))
        clear hc hq0 hq1 hq2 hpair hgp
        have hne := After.some wq
        refine wp_region_after (by kernel_rfl) (by kernel_rfl) ?_
        repeat (go_big_quiet_step (exact After.callE HC.out _))
        refine wpQuiet_nil ?_
        rintro _ ⟨z, rfl⟩
        clear HC
        cases ho : outP l h p q with
        | true =>
          have hf : TT = false := by
            cases hT : TT with
            | false => rfl
            | true =>
              have h9 := HI.out.1 hT j p q hj6 HP.out.1 (by rw [hm]; exact HP.out.2)
              rw [ho] at h9
              cases h9
          subst hf
          have H3 := Hid.mk (HQ.out.2.2.then z.chg)
          clear x0 x1 x2 x3 p0 p1 q0 q1 HQ HR
          go_wp2_with fail
          go_ret
          exact ⟨rfl, H3.out⟩
        | false =>
          have HO := Hid.mk ho
          clear ho x0 x1 x2 x3 p0 p1 q0 q1
          go_wp2_with fail
          refine ⟨⟨j + 1, by omega, by go_num, Hid.mk (fun i p' q' hi hp' hq' => ?_), Hid.mk ⟨HQ.out.1.after z, HQ.out.2.1.after z, HQ.out.2.2.then z.chg⟩⟩, by simp [intOf]; omega⟩
          rcases Nat.lt_or_ge i j with h1 | h1
          · exact HA.out i p' q' h1 hp' hq'
          · obtain rfl : i = j := by omega
            rw [hm] at hq'
            obtain rfl : p = p' := Option.some.inj (HP.out.1.symm.trans hp')
            obtain rfl : q = q' := Option.some.inj (HP.out.2.symm.trans hq')
            exact HO.out
      · obtain rfl : j = 6 := by omega
        have hf : TT = true := HI.out.2 (fun i p q hi hp hq => HA.out i p q hi hp hq)
        subst hf
        have H3 := Hid.mk HR.out.2.2
        clear HR
        go_wp2_with fail
        go_ret
        exact ⟨rfl, H3.out⟩

end Go.Proofs.YtkemmffdiclloaaGreatDoor
