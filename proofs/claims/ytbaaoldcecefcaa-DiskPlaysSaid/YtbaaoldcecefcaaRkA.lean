/- The contracts of the document's disk: outside, Read, count, Stop, Sync. -/
import Derived.Test.YtbaaoldcecefcaaRk
namespace Go.Proofs.Ytbaaoldcecefcaa
open Go.RowKit

def Rp.out (r : Rp) (p n : Int) : Bool := decide (p < 0) || decide (n < 0) || decide (p > r.now.length) || decide (n > (r.now.length : Int) - p)

set_option maxHeartbeats 1000000 in
set_option maxRecDepth 100000 in
theorem rout_any {g : Nat} {M : Nat → Prop} {r : Rp} {w : World} (h : Rk w g M r) (p n : Int) :
    Calls Try.prog 33 #[.pointer (some ⟨g, 0, none⟩), .int .i64 p, .int .i64 n] w fun e w' => e = .returned (.bool (r.out p n)) ∧ Chg Nil w w' := by
  obtain ⟨nv, lv, wv, h⟩ := h
  have hmost := h.ok.most
  obtain ⟨A, c, rfl, hc, hm⟩ := h.now.form
  have hc0 : w.cell? ⟨g, 0, none⟩ = some (.slice A r.now.length c) := h.bk.cell 0 rfl
  clear h
  unfold Rp.out
  generalize r.now.length = L at *
  go_enter Try.func33, Try.ntmps33
  by_cases h1 : p < 0
  · have d1 : decide (p < 0) = true := decide_eq_true h1
    go_wp2
    go_ret
    simp_all [Chg.refl]
  · have d1 : decide (p < 0) = false := decide_eq_false h1
    by_cases h2 : n < 0
    · have d2 : decide (n < 0) = true := decide_eq_true h2
      go_wp2
      go_ret
      simp_all [Chg.refl]
    · have d2 : decide (n < 0) = false := decide_eq_false h2
      by_cases h3 : p > L
      · have d3 : decide (p > (L : Int)) = true := decide_eq_true h3
        go_wp2
        go_ret
        simp_all [Chg.refl]
      · have d3 : decide (p > (L : Int)) = false := decide_eq_false h3
        generalize hd4 : decide (n > (L : Int) - p) = d4
        go_wp2
        go_ret
        simp_all [Chg.refl]

def Rp.opE (r : Rp) (p n : Int) : Int := if r.out p n then 1 else if r.dead then 9 else 0
def Rp.get (r : Rp) (p n : Int) : List UInt8 := if r.opE p n = 0 then (r.now.drop p.toNat).take n.toNat else []

set_option maxHeartbeats 1000000 in
set_option maxRecDepth 100000 in
theorem rread_any {g : Nat} {M : Nat → Prop} {r : Rp} {w : World} (h : Rk w g M r) (p n : Int) :
    Calls Try.prog 23 #[.pointer (some ⟨g, 0, none⟩), .int .i64 p, .int .i64 n] w fun e w' => e = .returned (.tuple #[.string ⟨(r.get p n).toArray⟩, .int .i64 (r.opE p n)]) ∧ Chg Nil w w' := by
  have HH := Hid.mk h
  cases ho : r.out p n with
  | true =>
    have he : r.opE p n = 1 := by simp [Rp.opE, ho]
    have hg : r.get p n = [] := by simp [Rp.get, he]
    rw [he, hg]
    clear h
    go_enter Try.func23, Try.ntmps23
    go_wp2_with fail
    refine (rout_any HH.out p n).mono ?_
    rintro e w1 ⟨rfl, hc⟩
    have HC := Hid.mk hc
    clear hc
    rw [ho]
    go_wp2_with fail
    go_ret2
    exact ⟨rfl, HC.out⟩
  | false =>
    cases hd : r.dead with
    | true =>
      have he : r.opE p n = 9 := by simp [Rp.opE, ho, hd]
      have hg : r.get p n = [] := by simp [Rp.get, he]
      rw [he, hg]
      clear h
      go_enter Try.func23, Try.ntmps23
      go_wp2_with fail
      refine (rout_any HH.out p n).mono ?_
      rintro e w1 ⟨rfl, hc⟩
      have HC := Hid.mk hc
      have hc4 : w1.cell? ⟨g, 4, none⟩ = some (.bool true) := by
        obtain ⟨nv, lv, wv, h⟩ := HH.out.keep_nil hc
        rw [← hd]
        exact h.bk.cell 4 rfl
      clear hc
      rw [ho]
      go_wp2_with fail
      go_ret2
      exact ⟨rfl, HC.out⟩
    | false =>
      have he : r.opE p n = 0 := by simp [Rp.opE, ho, hd]
      have hg : r.get p n = (r.now.drop p.toNat).take n.toNat := by simp [Rp.get, he]
      have hb : 0 ≤ p ∧ 0 ≤ n ∧ p + n ≤ r.now.length := by simp [Rp.out] at ho; omega
      obtain ⟨q, rfl⟩ := Int.eq_ofNat_of_zero_le hb.1
      obtain ⟨m, rfl⟩ := Int.eq_ofNat_of_zero_le hb.2.1
      have hqm : q + m ≤ r.now.length := by omega
      have hmost := h.ok.most
      rw [he, hg, Int.toNat_natCast, Int.toNat_natCast]
      clear h hg hb
      go_enter Try.func23, Try.ntmps23
      go_wp2_with fail
      refine (rout_any HH.out (q : Int) (m : Int)).mono ?_
      rintro e w1 ⟨rfl, hc⟩
      obtain ⟨nv, lv, wv, h⟩ := HH.out.keep_nil hc
      have hc4 : w1.cell? ⟨g, 4, none⟩ = some (.bool false) := by rw [← hd]; exact h.bk.cell 4 rfl
      obtain ⟨A, c, rfl, hnc, hcm⟩ := h.now.form
      unfold maxLen at hcm
      have hc0 : w1.cell? ⟨g, 0, none⟩ = some (.slice A r.now.length c) := h.bk.cell 0 rfl
      have hr := RdB.part (S := Own (.slice A r.now.length c)) (bs := r.now) h.now.rd (k := q) (m := q + m) (c := c = q) (by omega) hqm (by omega)
      rw [show q + m - q = m by omega] at hr
      have HC := Hid.mk hc
      clear hc h
      rw [ho]
      generalize hL : r.now.length = L at *
      by_cases hcp : c = q
      · rw [if_pos hcp] at hr
        have hcv := run_bytes_str (P := Try.prog) (c := c - q) hr 22 9 5 Try.underlying22 Try.underlying5 Try.underlying9
        rw [hcp, Nat.sub_self] at hcv
        clear hr
        go_wp2_with fail
        go_ret2
        exact ⟨rfl, HC.out⟩
      · rw [if_neg hcp, Nat.mul_one] at hr
        have hcv := run_bytes_str (P := Try.prog) (c := c - q) hr 22 9 5 Try.underlying22 Try.underlying5 Try.underlying9
        clear hr
        go_wp2_with fail
        go_ret2
        exact ⟨rfl, HC.out⟩

/-- A call is counted. -/
def Rp.count (r : Rp) : Rp := if 0 < r.left then { r with left := r.left - 1, dead := decide (r.left - 1 = 0) } else r
set_option maxHeartbeats 1000000 in
set_option maxRecDepth 100000 in
theorem rcount_any {g : Nat} {M : Nat → Prop} {r : Rp} {w : World} (h : Rk w g M r) :
    Calls Try.prog 34 #[.pointer (some ⟨g, 0, none⟩)] w fun e w' => (∃ v, e = .returned v) ∧ Chg (· = g) w w' ∧ Rk w' g M r.count := by
  obtain ⟨nv, lv, wv, h⟩ := h
  have hc3 : w.cell? ⟨g, 3, none⟩ = some (.int .i64 r.left) := h.bk.cell 3 rfl
  have hc4 : w.cell? ⟨g, 4, none⟩ = some (.bool r.dead) := h.bk.cell 4 rfl
  have hf3 := h.bk.free 3
  have hf4 := h.bk.free 4
  have hlo := h.ok.lo
  have hhi := h.ok.hi
  by_cases h0 : 0 < r.left
  · have d0 : decide (r.left > 0) = true := decide_eq_true h0
    have hh := h.set34 (r.left - 1) (r.left - 1 == 0) (by omega) (by omega)
    have e2 : (r.left - 1 == 0) = decide (r.left - 1 = 0) := rfl
    have HH := Hid.mk hh
    clear h hh
    go_enter Try.func34, Try.ntmps34
    go_wp2
    go_end0
    rw [Rp.count, if_pos h0]
    exact ⟨⟨_, rfl⟩, HH.out.1, _, _, _, HH.out.2⟩
  · have d0 : decide (r.left > 0) = false := decide_eq_false h0
    have HH := Hid.mk h
    clear h
    go_enter Try.func34, Try.ntmps34
    go_wp2
    go_end0
    rw [Rp.count, if_neg (by omega)]
    exact ⟨⟨_, rfl⟩, Chg.refl _ _, _, _, _, HH.out⟩

set_option maxHeartbeats 1000000 in
set_option maxRecDepth 100000 in
theorem rstop_any {g : Nat} {M : Nat → Prop} {r : Rp} {w : World} (h : Rk w g M r) (n : Int) (hn : n ≤ 9223372036854775807) :
    Calls Try.prog 31 #[.pointer (some ⟨g, 0, none⟩), .int .i64 n] w fun e w' => (∃ v, e = .returned v) ∧ Chg (· = g) w w' ∧ Rk w' g M { r with left := max n (-1), dead := r.dead || n == 0 } := by
  obtain ⟨nv, lv, wv, h⟩ := h
  have hc3 : w.cell? ⟨g, 3, none⟩ = some (.int .i64 r.left) := h.bk.cell 3 rfl
  have hc4 : w.cell? ⟨g, 4, none⟩ = some (.bool r.dead) := h.bk.cell 4 rfl
  have hf3 := h.bk.free 3
  have hf4 := h.bk.free 4
  have HH := Hid.mk h
  clear h
  have hm : n < -1 ∨ -1 ≤ n := by omega
  rcases hm with hm | hm
  · rw [show max n (-1) = -1 by omega]
    cases hd : r.dead
    all_goals
      rw [hd] at hc4
      go_enter Try.func31, Try.ntmps31
      go_wp2
      go_end0
      obtain ⟨h1, h2⟩ := HH.out.set34 (-1) _ (by omega) (by omega)
      exact ⟨⟨_, rfl⟩, h1, _, _, _, h2⟩
  · rw [show max n (-1) = n by omega]
    cases hd : r.dead
    all_goals
      rw [hd] at hc4
      go_enter Try.func31, Try.ntmps31
      go_wp2
      go_end0
      obtain ⟨h1, h2⟩ := HH.out.set34 n _ (by omega) (by omega)
      exact ⟨⟨_, rfl⟩, h1, _, _, _, h2⟩
def Rp.sync (r : Rp) : Rp := if r.dead then r else ({ r with lasts := r.now, waits := [] } : Rp).count
set_option maxHeartbeats 1000000 in
set_option maxRecDepth 100000 in
theorem rsync_any {g : Nat} {M : Nat → Prop} {r : Rp} {w : World} (h : Rk w g M r) :
    Calls Try.prog 30 #[.pointer (some ⟨g, 0, none⟩)] w fun e w' => e = .returned (.int .i64 (if r.dead then 9 else 0)) ∧ Chg M w w' ∧ Rk w' g M r.sync := by
  have hgM := h.mg
  cases hd : r.dead with
  | true =>
    rw [Rp.sync, if_pos hd, if_pos rfl]
    have HH := Hid.mk h
    obtain ⟨nv, lv, wv, h⟩ := h
    have hc4 : w.cell? ⟨g, 4, none⟩ = some (.bool true) := by rw [← hd]; exact h.bk.cell 4 rfl
    clear h
    go_enter Try.func30, Try.ntmps30
    go_wp2_with fail
    go_ret
    exact ⟨rfl, Chg.refl _ _, HH.out⟩
  | false =>
    have hsy : r.sync = ({ r with lasts := r.now, waits := [] } : Rp).count := by rw [Rp.sync, hd]; rfl
    rw [hsy]
    show Calls _ _ _ _ (fun e w' => e = .returned (.int .i64 0) ∧ _)
    obtain ⟨nv, lv, wv, h⟩ := h
    have hc4 : w.cell? ⟨g, 4, none⟩ = some (.bool false) := by rw [← hd]; exact h.bk.cell 4 rfl
    have H0 := Hid.mk h
    clear h
    go_enter Try.func30, Try.ntmps30
    go_wp2_with fail
    refine wp_region_tail 8 (by kernel_rfl) (by kernel_rfl) fun W hW => ?_
    simp only [List.take_succ_cons, List.take_zero, List.drop_succ_cons, List.drop_zero]
    have hch : Chg Nil w W := by subst hW; exact (Chg.refl Nil w).drew
    have hW1 := H0.out.keep hch (fun _ _ h => h)
    clear hW hc4
    obtain ⟨A, c, rfl, hnc, hcm⟩ := hW1.now.form
    obtain ⟨B, m, rfl, hnm, hmm⟩ := hW1.lasts.form
    have hc0 : W.cell? ⟨g, 0, none⟩ = some (.slice A r.now.length c) := hW1.bk.cell 0 rfl
    have hc1 : W.cell? ⟨g, 1, none⟩ = some (.slice B r.now.length m) := hW1.bk.cell 1 rfl
    have HW := Hid.mk (And.intro hW1 (hch.wider (T := M) (fun _ _ h => h.elim)))
    clear hW1 hch
    repeat (go_big_quiet_step (fail))
    refine wpQuiet_nil ?_
    refine wpl_copy rfl (.tmp 10) (.tmp 14) 22 22 rfl 5 5 Try.underlying22 Try.sizeU8 B r.now.length m 0 m _ HW.out.1.lasts B (fun g hg _ => hg) (by omega) _ A r.now.length c _ HW.out.1.now.rd (bv_one _) rfl rfl ?_
    intro w2 hr2 hc2
    rw [Nat.sub_zero, Nat.min_self, List.take_of_length_le (by simp), splice_map, splice_all _ _ HW.out.1.ok.same] at hr2
    have h2 := HW.out.1.lasted hr2 hc2 rfl
    have hf2 := h2.bk.free 2
    have hc2' : w2.cell? ⟨g, 2, none⟩ = some wv := h2.bk.cell 2 rfl
    obtain ⟨hch3, h3⟩ := h2.waitless
    have H3 := Hid.mk (And.intro ((HW.out.2.trans hc2 (fun k _ hk => (HW.out.1.ml k hk).1)).trans hch3 (fun k _ hk => hk ▸ hgM)) h3)
    clear h2 hc2 hr2 hch3 h3
    go_wp2_with fail
    refine (rcount_any (r := { r with lasts := r.now, waits := [] }) ⟨_, _, _, H3.out.2⟩).mono ?_
    rintro e w4 ⟨⟨v4, rfl⟩, hc4, h4⟩
    have H4 := Hid.mk (And.intro (H3.out.1.trans hc4 (fun k _ hk => hk ▸ hgM)) h4)
    clear hc4 h4
    go_wp2_with fail
    go_ret
    exact ⟨rfl, H4.out⟩
end Go.Proofs.Ytbaaoldcecefcaa
