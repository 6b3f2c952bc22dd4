/- The contracts of a disk's Read, Waits, Sync. -/
import Derived.Test.YtbaaoldcecefcaaDkB
namespace Go.Proofs.Ytbaaoldcecefcaa
open Go.RowKit

/-- What Read and Write answer: 0, 1 (no such place) or 9 (dead). -/
def Dp.opE (d : Dp) (p n : Int) : Int := if d.fits p n then (if d.dead then 9 else 0) else 1
theorem Dp.opE_arg {d : Dp} {p n : Int} (h : d.fits p n = false) : d.opE p n = 1 := by simp [Dp.opE, h]
theorem Dp.opE_dead {d : Dp} {p n : Int} (h : d.fits p n = true) (hd : d.dead = true) : d.opE p n = 9 := by simp [Dp.opE, h, hd]
theorem Dp.opE_zero {d : Dp} {p n : Int} (h : d.opE p n = 0) : d.fits p n = true ∧ d.dead = false := by
  unfold Dp.opE at h
  split at h
  · split at h
    · omega
    · simp_all
  · omega
theorem Dp.opE_of {d : Dp} {p n : Int} (h : d.fits p n = true) (hd : d.dead = false) : d.opE p n = 0 := by simp [Dp.opE, h, hd]
theorem Dp.fits_nat {d : Dp} {p n : Nat} (h : p + n ≤ d.now.length) : d.fits p n = true := by simp [Dp.fits]; omega
theorem Dp.fits_elim {d : Dp} {p n : Int} (h : d.fits p n = true) : 0 ≤ p ∧ 0 ≤ n ∧ p + n ≤ d.now.length := by simp [Dp.fits] at h; omega

set_option maxHeartbeats 1000000 in
set_option maxRecDepth 100000 in
theorem dread_no {g : Nat} {M R : Nat → Prop} {d : Dp} {w : World} (h : Dk w g M R d) (p n : Int) (hne : d.opE p n ≠ 0) :
    Calls Try.prog 12 #[.pointer (some ⟨g, 0, none⟩), .int .i64 p, .int .i64 n] w fun e w' => e = .returned (.tuple #[.slice none 0 0, .int .i64 (d.opE p n)]) ∧ Chg Nil w w' := by
  have HH := Hid.mk h
  cases hf : d.fits p n with
  | false =>
    rw [Dp.opE_arg hf]
    clear h hne
    go_enter Try.func12, Try.ntmps12
    go_wp2_with fail
    refine (din_any HH.out p n).mono ?_
    rintro e w1 ⟨rfl, hc⟩
    have HC := Hid.mk hc
    clear hc
    rw [hf]
    go_wp2_with fail
    go_ret2
    exact ⟨rfl, HC.out⟩
  | true =>
    cases hd : d.dead with
    | false => exact absurd (Dp.opE_of hf hd) hne
    | true =>
      rw [Dp.opE_dead hf hd]
      clear h hne
      go_enter Try.func12, Try.ntmps12
      go_wp2_with fail
      refine (din_any HH.out p n).mono ?_
      rintro e w1 ⟨rfl, hc⟩
      have HC := Hid.mk hc
      have hc3 : w1.cell? ⟨g, 3, none⟩ = some (.bool true) := by
        obtain ⟨nv, lv, wv, ws, h⟩ := HH.out.keep_nil hc
        rw [← hd]
        exact h.bk.cell 3 rfl
      clear hc
      rw [hf]
      go_wp2_with fail
      go_ret2
      exact ⟨rfl, HC.out⟩

set_option maxHeartbeats 1000000 in
set_option maxRecDepth 100000 in
theorem dread_ok {g : Nat} {M R : Nat → Prop} {d : Dp} {w : World} (h : Dk w g M R d) (p n : Nat) (hp : p + n ≤ d.now.length) (hd : d.dead = false) :
    Calls Try.prog 12 #[.pointer (some ⟨g, 0, none⟩), .int .i64 (p : Int), .int .i64 (n : Int)] w fun e w' => ∃ v, e = .returned (.tuple #[v, .int .i64 0]) ∧
      w'.ownsRow w.heap.size 5 1 v n (((d.now.drop p).take n).map bv) ∧ Chg Nil w w' := by
  have HH := Hid.mk h
  have hf := Dp.fits_nat hp
  have hmost := h.ok.most
  clear h
  go_enter Try.func12, Try.ntmps12
  go_wp2_with fail
  refine (din_any HH.out p n).mono ?_
  rintro e w1 ⟨rfl, hc⟩
  obtain ⟨nv, lv, wv, ws, h⟩ := HH.out.keep_nil hc
  have hc3 : w1.cell? ⟨g, 3, none⟩ = some (.bool false) := by rw [← hd]; exact h.bk.cell 3 rfl
  obtain ⟨A, c, rfl, hnc, hcm⟩ := h.now.form
  unfold maxLen at hcm
  have hc0 : w1.cell? ⟨g, 0, none⟩ = some (.slice A d.now.length c) := h.bk.cell 0 rfl
  have hr : ∀ A', (A' = if c = p then A else A.map (·.add (p * 1))) → RdB w1 (Own (.slice A d.now.length c)) A' n ((d.now.drop p).take n) := by
    rintro A' rfl
    have := RdB.part (S := Own (.slice A d.now.length c)) (bs := d.now) h.now.rd (k := p) (m := p + n) (c := c = p) (by omega) hp (by omega)
    rwa [show p + n - p = n by omega] at this
  have HC := Hid.mk (And.intro hc hr)
  clear hc hr h
  rw [hf]
  generalize hL : d.now.length = L at *
  by_cases hcp : c = p
  · go_wp2_with fail
    refine (clone_any _ n _ _ _ w1 (HC.out.2 _ (by rw [if_pos hcp])) (by omega)).mono ?_
    rintro e w2 ⟨v, rfl, ho, hc2⟩
    have H2 := Hid.mk (And.intro ho hc2)
    clear ho hc2
    go_wp2_with fail
    go_ret2
    exact ⟨v, rfl, own_base H2.out.1 (fun k hk => Nat.le_trans HC.out.1.size (own_ge H2.out.1 k hk)), HC.out.1.trans H2.out.2 (fun _ _ h => h)⟩
  · go_wp2_with fail
    refine (clone_any _ n _ _ _ w1 (HC.out.2 _ (by rw [if_neg hcp, Nat.mul_one])) (by omega)).mono ?_
    rintro e w2 ⟨v, rfl, ho, hc2⟩
    have H2 := Hid.mk (And.intro ho hc2)
    clear ho hc2
    go_wp2_with fail
    go_ret2
    exact ⟨v, rfl, own_base H2.out.1 (fun k hk => Nat.le_trans HC.out.1.size (own_ge H2.out.1 k hk)), HC.out.1.trans H2.out.2 (fun _ _ h => h)⟩
end Go.Proofs.Ytbaaoldcecefcaa
