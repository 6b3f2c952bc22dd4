/- Joined for this seat from: XStB. -/
import Derived.Test.YtanipieeegeheaaSt
namespace Go.Proofs.Ytanipieeegeheaa
open Go.RowKit

theorem rds_made (w : World) (n : Nat) : RdB ((w.drew).alloc (.cells (madeCells #[.int .u8 0] n) 5)) (fun k => k = w.heap.size) (some ⟨w.heap.size, 0, none⟩) n (zeros n) := by
  have hb := Bk.new w.drew 5 (madeCells #[.int .u8 0] n)
  have hl : (madeCells #[Value.int .u8 0] n).toList = (zeros n).map bv := by
    rw [toList_madeCells_one]
    simp [zeros, bv]
  refine ⟨by simp [zeros], fun _ => ⟨_, rfl, rfl, fun j u hu => ?_⟩⟩
  rw [← hl] at hu
  have h := hb.cell j (u := u) (by simpa using hu)
  by_cases hj : j = 0
  · subst hj; simpa [Addr.add] using h
  · simpa [Addr.add, hj] using h
theorem zeros_len (n : Nat) : (zeros n).length = n := by simp [zeros]
section
variable {w : World} {gs gd : Nat} {M R N : Nat → Prop} {A : Option Addr} {c : Nat} {σ : Sp} {d : Dp}
set_option maxHeartbeats 2000000 in
set_option maxRecDepth 100000 in
theorem blank_any (h : StAt w gs gd M R N A c σ d) (from_ upto : Nat) (hft : from_ ≤ upto) (hto : upto ≤ σ.log) (hlong : d.waits.length ≤ 1000000) :
    Calls Try.prog 46 #[.pointer (some ⟨gs, 0, none⟩), .int .i64 (from_ : Int), .int .i64 (upto : Int)] w fun e w' => ∃ M' R', e = .returned (.int .i64 (stepW d (2 * σ.slots + from_) (zeros (upto - from_))).2) ∧
      WentS w w' gs M R M' R' ∧ StAt w' gs gd M' R' N A c σ (stepW d (2 * σ.slots + from_) (zeros (upto - from_))).1 := by
  have hmk : ∀ n : Nat, n ≤ 1000000 → ∀ w : World, (Instr.makeSlice 46 (.int .i64 (n : Int)) (.int .i64 (n : Int))).run Try.prog w = .ok (.slice (some ⟨w.heap.size, 0, none⟩) n n) (w.alloc (.cells (madeCells #[.int .u8 0] n) 5)) :=
    fun n h => run_make_row' (P := Try.prog) 46 5 (.int .u8 0) 1 Try.underlying46 Try.infoU8 rfl .i64 .i64 n (by omega) (by omega)
  obtain ⟨hs1, hs2, hs3⟩ := h.ok.small h.dk.ok
  have hroom := h.ok.room
  have hC : ∀ W, Chg Nil w W → W.cell? ⟨gs, 0, none⟩ = some (.pointer (some ⟨gd, 0, none⟩)) ∧ W.cell? ⟨gs, 1, none⟩ = some (.int .i64 (σ.slots : Int)) := fun W hW => ⟨(h.nil hW).cells.1, (h.nil hW).cells.2.1⟩
  have hc0 := (hC w (Chg.refl _ _)).1
  have hc1 := (hC w (Chg.refl _ _)).2
  obtain ⟨n, hn⟩ : ∃ n, n = upto - from_ := ⟨_, rfl⟩
  have hm := hmk n (by omega)
  have hE : (upto : Int) - (from_ : Int) = (n : Int) := by omega
  have hp : 2 * (σ.slots : Int) + (from_ : Int) = ((2 * σ.slots + from_ : Nat) : Int) := by omega
  have hfit : 2 * σ.slots + from_ + n ≤ d.now.length := by omega
  rw [← hn]
  obtain ⟨sl, hsl⟩ : ∃ sl, sl = σ.slots := ⟨_, rfl⟩
  rw [← hsl] at hc1 hp hfit hs1 hroom hC ⊢
  have HH := Hid.mk (And.intro h (And.intro hC hn))
  clear h hC hmk hn
  have HSl := Hid.mk hsl
  clear hsl
  generalize 2 * sl + from_ = p at *
  have hw1 : IntKind.i64.wrap (n : Int) = (n : Int) := by rw [IntKind.wrap_i64]; omega
  have hw2 : IntKind.i64.wrap (p : Int) = (p : Int) := by rw [IntKind.wrap_i64]; omega
  cases hd : d.dead with
  | true =>
    have hst : stepW d p (zeros n) = (d, 9) := stepW_dead _ _ hd
    rw [hst]
    have hE9 := Dp.opE_dead (Dp.fits_nat hfit) hd
    have hW := fun W (hW : Chg Nil w W) B => dwrite_no (HH.out.1.dk.keep_nil hW) p B n n (by rw [hE9]; decide)
    rw [hE9] at hW
    have HD := Hid.mk hW
    clear hst hE9 hd hW
    go_enter Try.func46, Try.ntmps46
    go_wp2_with fail
    go_region_held3 (fun w' => w'.cell? ⟨gs, 0, none⟩ = some (.pointer (some ⟨gd, 0, none⟩)) ∧ w'.cell? ⟨gs, 1, none⟩ = some (.int .i64 (sl : Int)))
      (first | go_keep | exact HH.out.2.1 _ (by first | exact (Chg.refl Nil w).drew | exact ((Chg.refl Nil w).drew).alloc _ | assumption))
      (first
        | (go_at_call 42; refine (at_cell (HH.out.2.1 _ (by first | exact (Chg.refl Nil w).drew | exact ((Chg.refl Nil w).drew).alloc _)).2 hs1).mono ?_; rintro e w' ⟨rfl, rfl⟩)
        | (go_at_call 23; refine (HD.out _ (((Chg.refl Nil w).drew).alloc _) _).mono ?_; rintro e w2 ⟨rfl, c2⟩; have hcw2 : Chg Nil w w2 := (((Chg.refl Nil w).drew).alloc _).trans c2 (fun _ _ h => h); clear c2))
    all_goals
      have H2 := Hid.mk hcw2
      clear hcw2
      go_wp2_with fail
      go_ret
      exact ⟨M, R, rfl, WentS.nil H2.out, HH.out.1.nil H2.out⟩
  | false =>
    have hlt := fun k (hm : M k) => HH.out.1.dk.lt k (.inl hm)
    have hzl := zeros_len n
    have hwl : (d.write p (zeros n)).now.length = d.now.length := splice_len _ _ _ (by rw [hzl]; exact hfit)
    have hD := fun W (hW : Chg Nil w W) (hr : RdB W (fun k => k = w.heap.size) (some ⟨w.heap.size, 0, none⟩) n (zeros n)) => dwrite_ok (HH.out.1.dk.keep_nil hW) p (some ⟨w.heap.size, 0, none⟩) n n (zeros n) hr (fun k hk hm => by have h1 := hlt k hm; have h2 : k = w.heap.size := hk; omega) hfit hd hlong
    have hst : stepW d p (zeros n) = if (d.write p (zeros n)).dead then (d.write p (zeros n), 9) else ((d.write p (zeros n)).sync, 0) := by
      unfold stepW
      rw [hd]
      rfl
    obtain ⟨res, hres⟩ : ∃ res, res = stepW d p (zeros n) := ⟨_, rfl⟩
    rw [← hres]
    rw [← hres] at hst
    generalize d.write p (zeros n) = D2 at *
    have HD := Hid.mk (And.intro hD (And.intro hwl hst))
    clear hD hwl hst hd hzl hfit hlt hres
    go_enter Try.func46, Try.ntmps46
    go_wp2_with fail
    go_region_held3 (fun w' => w'.cell? ⟨gs, 0, none⟩ = some (.pointer (some ⟨gd, 0, none⟩)) ∧ w'.cell? ⟨gs, 1, none⟩ = some (.int .i64 (sl : Int)))
      (first | go_keep | exact HH.out.2.1 _ (by first | exact (Chg.refl Nil w).drew | exact ((Chg.refl Nil w).drew).alloc _ | assumption) | exact hcell2)
      (first
        | (go_at_call 42; refine (at_cell (HH.out.2.1 _ (by first | exact (Chg.refl Nil w).drew | exact ((Chg.refl Nil w).drew).alloc _)).2 hs1).mono ?_; rintro e w' ⟨rfl, rfl⟩)
        | (go_at_call 23; refine (HD.out.1 _ (((Chg.refl Nil w).drew).alloc _) (rds_made w n)).mono ?_; rintro e w2 ⟨M2, R2, rfl, ww2, d2⟩; have hst2 := (HH.out.1.nil (((Chg.refl Nil w).drew).alloc (.cells (madeCells #[.int .u8 0] n) 5))).went ww2 d2 HD.out.2.1; have hcell2 : w2.cell? ⟨gs, 0, none⟩ = some (.pointer (some ⟨gd, 0, none⟩)) ∧ w2.cell? ⟨gs, 1, none⟩ = some (.int .i64 (sl : Int)) := ⟨hst2.cells.1, by rw [HSl.out]; exact hst2.cells.2.1⟩; have hws2 : WentS w w2 gs M R M2 R2 := (WentS.nil (((Chg.refl Nil w).drew).alloc (.cells (madeCells #[.int .u8 0] n) 5))).trans (WentS.of_went ww2); clear ww2 d2))
    all_goals
      have H2 := Hid.mk (And.intro hws2 hst2)
      have hcl := hcell2.1
      clear hws2 hst2 hcell2
      cases hdd : D2.dead with
      | true =>
        have hsy := dsync_dead H2.out.2.dk hdd
        have hre := HD.out.2.2
        rw [hdd, if_pos rfl] at hre
        have HS := Hid.mk (And.intro hsy hre)
        clear hsy hdd hre
        go_wp2_with fail
        refine HS.out.1.mono ?_
        rintro e w3 ⟨rfl, rfl⟩
        go_wp2_with fail
        go_ret
        rw [HS.out.2]
        exact ⟨M2, R2, rfl, H2.out.1, H2.out.2⟩
      | false =>
        have hsy := dsync_ok H2.out.2.dk hdd
        have hre := HD.out.2.2
        rw [hdd, if_neg (by decide)] at hre
        have HS := Hid.mk (And.intro hsy hre)
        clear hsy hdd hre
        go_wp2_with fail
        refine HS.out.1.mono ?_
        rintro e w3 ⟨rfl, c3, d3⟩
        have H3 := Hid.mk (And.intro (H2.out.1.trans (WentS.of_went (Went.of_chg c3))) (H2.out.2.went (Went.of_chg c3) d3 (by rw [Dp.sync_now])))
        clear c3 d3
        go_wp2_with fail
        go_ret
        rw [HS.out.2]
        exact ⟨M2, R2, rfl, H3.out.1, H3.out.2⟩
end

end Go.Proofs.Ytanipieeegeheaa
