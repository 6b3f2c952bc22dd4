/- A disk and the document's disk side by side; one op done to both. -/
import Derived.Test.YtbaaoldcecefcaaRkC
import Derived.Test.YtbaaoldcecefcaaDCopies
import Derived.Deep.RegionHeld
namespace Go.Proofs.Ytbaaoldcecefcaa
open Go.RowKit

structure PairAt (w0 w : World) (g : Nat) (M R : Nat → Prop) (d : Dp) (g' : Nat) (M' : Nat → Prop) (r : Rp) : Prop where
  live : Live w0 w g M R d
  rk : Rk w g' M' r
  low : ∀ k, M' k → w0.heap.size ≤ k
  sep : ∀ k, M k → ¬ M' k
  sep' : ∀ k, M' k → ¬ M k ∧ ¬ R k
section
variable {w0 w w' : World} {g g' : Nat} {M R M' M1 R1 : Nat → Prop} {d d1 : Dp} {r r1 : Rp}
theorem PairAt.nil (h : PairAt w0 w g M R d g' M' r) (hc : Chg Nil w w') : PairAt w0 w' g M R d g' M' r := ⟨h.live.nil hc, h.rk.keep_nil hc, h.low, h.sep, h.sep'⟩
theorem PairAt.went (h : PairAt w0 w g M R d g' M' r) (hw : Went w w' M R M1 R1) (hd : Dk w' g M1 R1 d1) : PairAt w0 w' g M1 R1 d1 g' M' r := by
  refine ⟨h.live.went hw hd, h.rk.keep hw.chg (fun k hk hm => (h.sep' k hk).1 hm), h.low, fun k hm hk => ?_, fun k hk => ?_⟩
  · have hlt := h.rk.lt k hk
    exact h.sep k (hw.m k hlt hm) hk
  · have hlt := h.rk.lt k hk
    exact ⟨fun hm => (h.sep' k hk).1 (hw.m k hlt hm), fun hm => (h.sep' k hk).2 (hw.r k hlt hm)⟩
theorem PairAt.wentR (h : PairAt w0 w g M R d g' M' r) (hw : WentR w w' M' M1) (hd : Rk w' g' M1 r1) : PairAt w0 w' g M R d g' M1 r1 := by
  have hsz := h.live.chg.size
  refine ⟨h.live.far hw.chg h.low (fun k hk hm => ?_), hd, fun k hk => ?_, fun k hm hk => ?_, fun k hk => ?_⟩
  · rcases hk with hk | hk
    · exact h.sep k hk hm
    · exact (h.sep' k hm).2 hk
  · rcases Nat.lt_or_ge k w.heap.size with hlt | hge
    · exact h.low k (hw.m k hlt hk)
    · omega
  · exact h.sep k hm (hw.m k (h.live.dk.lt k (.inl hm)) hk)
  · exact ⟨fun hm => h.sep k hm (hw.m k (h.live.dk.lt k (.inl hm)) hk), fun hm => (h.sep' k (hw.m k (h.live.dk.lt k (.inr hm)) hk)).2 hm⟩
theorem PairAt.far {S : Nat → Prop} (h : PairAt w0 w g M R d g' M' r) (hc : Chg S w w') (hl : ∀ k, S k → w0.heap.size ≤ k) (hs : ∀ k, S k → ¬ M k ∧ ¬ R k ∧ ¬ M' k) : PairAt w0 w' g M R d g' M' r :=
  ⟨h.live.far hc hl (fun k hk hS => by
    rcases hk with hk | hk
    · exact (hs k hS).1 hk
    · exact (hs k hS).2.1 hk), h.rk.keep hc (fun k hk hS => (hs k hS).2.2 hk), h.low, h.sep, h.sep'⟩
end
/-- What a round leaves. -/
def Played (w0 w' : World) (g g' : Nat) (n k : Nat) : Prop :=
  ∃ M R M' d r, PairAt w0 w' g M R d g' M' r ∧ Same d r ∧ d.now.length = n ∧ d.waits.length ≤ k ∧ sumW d.waits ≤ 64 * k
theorem sumW_writeA (d : Dp) (p : Int) (ys : List UInt8) : sumW (d.writeA p ys).waits ≤ sumW d.waits + ys.length := by
  unfold Dp.writeA
  split
  · rw [Dp.write, sumW_append]
    simp [sumW]
  · omega
/-- A block that neither changes. -/
theorem PairAt.blk {w0 w : World} {g g' : Nat} {M R M' : Nat → Prop} {d : Dp} {r : Rp} (h : PairAt w0 w g M R d g' M' r) :
    ∀ o, PairAt w0 (w.alloc o) g M R d g' M' r ∧ ¬ M w.heap.size ∧ ¬ M' w.heap.size := fun o =>
  ⟨h.nil ((Chg.refl Nil w).alloc o), fun hm => by have := h.live.dk.lt _ (.inl hm); omega, fun hm => by have := h.rk.lt _ hm; omega⟩

def Dp.get (d : Dp) (p n : Int) : List UInt8 := if d.opE p n = 0 then (d.now.drop p.toNat).take n.toNat else []
theorem same_get {d : Dp} {r : Rp} (h : Same d r) (p n : Int) : r.get p n = d.get p n := by
  unfold Rp.get Dp.get
  rw [same_opE h, h.now]
theorem dread_any {g : Nat} {M R : Nat → Prop} {d : Dp} {w : World} (h : Dk w g M R d) (p n : Int) :
    Calls Try.prog 12 #[.pointer (some ⟨g, 0, none⟩), .int .i64 p, .int .i64 n] w fun e w' => ∃ A c, e = .returned (.tuple #[.slice A (d.get p n).length c, .int .i64 (d.opE p n)]) ∧ RdB w' (fun _ => True) A (d.get p n).length (d.get p n) ∧ Chg Nil w w' := by
  by_cases h0 : d.opE p n = 0
  · obtain ⟨hf, hd⟩ := Dp.opE_zero h0
    obtain ⟨h1, h2, h3⟩ := Dp.fits_elim hf
    obtain ⟨q, rfl⟩ := Int.eq_ofNat_of_zero_le h1
    obtain ⟨m, rfl⟩ := Int.eq_ofNat_of_zero_le h2
    have hg : d.get (q : Int) (m : Int) = (d.now.drop q).take m := by rw [Dp.get, if_pos h0, Int.toNat_natCast, Int.toNat_natCast]
    have hl : ((d.now.drop q).take m).length = m := by rw [List.length_take, List.length_drop]; omega
    refine (dread_ok h q m (by omega) hd).mono ?_
    rintro e w' ⟨v, rfl, ho, hc⟩
    obtain ⟨A, c, rfl, _, _⟩ := own_form ho
    rw [hg, hl, h0]
    have hr : RdB w' (Own (.slice A m c)) A m ((d.now.drop q).take m) := Rds.of_own ho
    exact ⟨A, c, rfl, hr.wider (fun _ _ _ => trivial), hc⟩
  · have hg : d.get p n = [] := by rw [Dp.get, if_neg h0]
    refine (dread_no h p n h0).mono ?_
    rintro e w' ⟨rfl, hc⟩
    rw [hg]
    exact ⟨none, 0, rfl, RdB.nil, hc⟩
theorem get_len (d : Dp) (p n : Int) : (d.get p n).length ≤ d.now.length := by
  unfold Dp.get
  split
  · rw [List.length_take, List.length_drop]; omega
  · simp

set_option maxHeartbeats 4000000 in
set_option maxRecDepth 100000 in
theorem do_any {w0 w : World} {g g' n k : Nat} (o : Qop) (hfit : o.fit) (hp : Played w0 w g g' n k) (hk : k ≤ 60) :
    Calls Try.prog 21 #[.pointer (some ⟨g, 0, none⟩), .pointer (some ⟨g', 0, none⟩), .agg o.cs.toArray] w fun e w' => e = .returned (.bool true) ∧ Played w0 w' g g' n (k + 1) := by
  obtain ⟨M, R, M', d, r, hpa, hsame, hn, hw, hsum⟩ := hp
  obtain ⟨kd, p, N, kp⟩ := o
  simp only [Qop.cs]
  have hob := hpa.blk (.cells #[.int .i64 kd, .int .i64 p, .int .i64 N, .int .i64 kp] 42)
  have hbo := Bk.new w 42 #[.int .i64 kd, .int .i64 p, .int .i64 N, .int .i64 kp]
  have HP := Hid.mk (And.intro hob (And.intro hbo (And.intro hsame (And.intro hfit hpa.live.dk.ok))))
  clear hpa hob hbo hsame hfit
  go_enter Try.func21, Try.ntmps21
  have c0 : (w.alloc (.cells #[.int .i64 kd, .int .i64 p, .int .i64 N, .int .i64 kp] 42)).cell? ⟨w.heap.size, 0, none⟩ = some (.int .i64 kd) := HP.out.2.1.cell 0 rfl
  have c1 : (w.alloc (.cells #[.int .i64 kd, .int .i64 p, .int .i64 N, .int .i64 kp] 42)).cell? ⟨w.heap.size, 1, none⟩ = some (.int .i64 p) := HP.out.2.1.cell 1 rfl
  have c2 : (w.alloc (.cells #[.int .i64 kd, .int .i64 p, .int .i64 N, .int .i64 kp] 42)).cell? ⟨w.heap.size, 2, none⟩ = some (.int .i64 N) := HP.out.2.1.cell 2 rfl
  have c3 : (w.alloc (.cells #[.int .i64 kd, .int .i64 p, .int .i64 N, .int .i64 kp] 42)).cell? ⟨w.heap.size, 3, none⟩ = some (.int .i64 kp) := HP.out.2.1.cell 3 rfl
  have hgk := HP.out.2.2.2.1
  by_cases k0 : kd = 0
  · subst k0
    have hand := i64_and_63 (N / 256)
    have hL63 : (N / 256 % 64).toNat ≤ 63 := by omega
    generalize (N / 256 % 64).toNat = L at hand hL63
    go_wp2_with fail
    refine (text12_any N L _ (by omega)).mono ?_
    rintro e w5 ⟨rfl, hc5⟩
    have d1 := hc5.cell c1 (fun h => h)
    have hb5 := HP.out.2.1.keep hc5 (fun h => h)
    have H5 := Hid.mk (And.intro (HP.out.1.1.nil hc5) hb5)
    clear hc5 hb5
    obtain ⟨C, W2, hcv, hcw⟩ := conv_bytes Try.prog 9 22 5 Try.underlying9 Try.underlying22 Try.underlying5 (txt N L) (by rw [txt_len]; simp only [maxLen]; omega)
    have HCW := Hid.mk hcw
    clear hcw
    have hsl := txt_len N L
    generalize txt N L = s at *
    subst hsl
    have hx : ∃ x7, d.opE p s.length = x7 := ⟨_, rfl⟩
    obtain ⟨x7, hx7⟩ := hx
    have HX := Hid.mk hx7
    clear hx7
    go_wp2_with fail
    go_region_held (fun w' => w'.cell? ⟨w.heap.size, 1, none⟩ = some (.int .i64 p))
      (first | go_keep | exact (((Chg.refl Nil w5).drew).trans (HCW.out _).2.2.2 (fun _ _ h => h)).cell d1 (fun h => h) | exact hS7 | exact hS8)
      (first
        | (go_at_call 11; refine (dwrite_any (H5.out.1.nil (((Chg.refl Nil w5).drew).trans (HCW.out _).2.2.2 (fun _ _ h => h))).live.dk p _ (C _) s (HCW.out _).2.2.1.rd (fun i hi hm => by have := own_at hi; have h1 := H5.out.1.live.dk.lt i (.inl hm); have h2 : w5.drew.heap.size = w5.heap.size := rfl; omega) (by omega)).mono ?_; rintro e w7 ⟨M7, R7, he7, hw7, h7⟩; rw [HX.out] at he7; subst he7; have hP7 := (H5.out.1.nil (((Chg.refl Nil w5).drew).trans (HCW.out _).2.2.2 (fun _ _ h => h))).went hw7 h7; have hS7 : w7.cell? ⟨w.heap.size, 1, none⟩ = some (.int .i64 p) := hw7.chg.cell ((((Chg.refl Nil w5).drew).trans (HCW.out _).2.2.2 (fun _ _ h => h)).cell d1 (fun h => h)) HP.out.1.2.1)
        | (go_at_call 29; refine (rwrite_any hP7.rk p s (by rw [HP.out.2.2.1.waits, flat_len]; omega) (by omega)).mono ?_; rintro e w8 ⟨M8, he8, hw8, h8⟩; rw [same_opE HP.out.2.2.1, HX.out] at he8; subst he8; have hP8 := hP7.wentR hw8 h8; have hS8 : w8.cell? ⟨w.heap.size, 1, none⟩ = some (.int .i64 p) := hw8.chg.cell hS7 HP.out.1.2.2))
    have H8 := Hid.mk hP8
    clear hP7 hP8 hcv
    go_wp2_with fail
    go_ret
    have hsw := sumW_writeA d p s
    exact ⟨rfl, _, _, _, _, _, H8.out, same_write HP.out.2.2.1 p s, by rw [writeA_now]; exact hn, Nat.le_trans (writeA_waits _ _ _) (by omega), by omega⟩
  · have e0 : (kd == 0) = false := by rw [beq_eq_false_iff_ne]; exact k0
    by_cases k1 : kd = 1
    · subst k1
      go_wp2_with fail
      refine (dsync_any HP.out.1.1.live.dk).mono ?_
      rintro e w5 ⟨rfl, hw5, h5⟩
      have H5 := Hid.mk (HP.out.1.1.went hw5 h5)
      clear hw5 h5
      generalize hx5 : (if d.dead = true then (9 : Int) else 0) = x5
      go_wp2_with fail
      refine (rsync_any H5.out.rk).mono ?_
      rintro e w6 ⟨rfl, hc6, h6⟩
      have H6 := Hid.mk (H5.out.wentR (WentR.of_chg hc6) h6)
      clear hc6 h6
      have hd := HP.out.2.2.1.dead
      rw [hd, hx5]
      go_wp2_with fail
      go_ret
      exact ⟨rfl, _, _, _, _, _, H6.out, same_sync HP.out.2.2.1, by rw [syncA_now]; exact hn, by
        unfold Dp.syncA
        split
        · omega
        · exact Nat.zero_le _, by
        unfold Dp.syncA
        split
        · omega
        · exact Nat.zero_le _⟩
    · have e1 : (kd == 1) = false := by rw [beq_eq_false_iff_ne]; exact k1
      by_cases k2 : kd = 2
      · subst k2
        go_wp2_with fail
        refine (dread_any HP.out.1.1.live.dk p N).mono ?_
        rintro e w5 ⟨A5, cc5, rfl, hr5, hc5⟩
        have d1 := hc5.cell c1 (fun h => h)
        have d2 := hc5.cell c2 (fun h => h)
        have H5 := Hid.mk (And.intro (HP.out.1.1.nil hc5) hr5)
        clear hc5 hr5
        generalize hx5 : d.opE p N = x5
        have hgl := get_len d p N
        generalize hy5 : d.get p N = y5 at *
        go_wp2_with fail
        refine (rread_any H5.out.1.rk p N).mono ?_
        rintro e w6 ⟨rfl, hc6⟩
        rw [same_get HP.out.2.2.1, same_opE HP.out.2.2.1, hx5, hy5]
        have hcv := run_bytes_str (P := Try.prog) (c := cc5) (H5.out.2.keep hc6 (fun _ _ h => h)) 22 9 5 Try.underlying22 Try.underlying5 Try.underlying9
        have H6 := Hid.mk (H5.out.1.nil hc6)
        clear hc6
        go_wp2_with fail
        go_ret
        exact ⟨by first | rfl | (rw [beq_self_eq_true]; rfl) | simp, _, _, _, _, _, H6.out, HP.out.2.2.1, hn, by omega, by omega⟩
      · have e2 : (kd == 2) = false := by rw [beq_eq_false_iff_ne]; exact k2
        by_cases k3 : kd = 3
        · subst k3
          go_wp2_with fail
          refine (stop_any HP.out.1.1.live.dk N hgk.2.2.2.1).mono ?_
          rintro e w5 ⟨⟨v5, rfl⟩, hw5, h5⟩
          have hM5 := chg_g HP.out.1.1.live.dk hw5
          have d2 := hM5.cell c2 HP.out.1.2.1
          have H5 := Hid.mk (HP.out.1.1.went (Went.of_chg hM5) h5)
          clear hw5 h5 hM5
          go_wp2_with fail
          refine (rstop_any H5.out.rk N hgk.2.2.2.1).mono ?_
          rintro e w6 ⟨⟨v6, rfl⟩, hc6, h6⟩
          have H6 := Hid.mk (H5.out.wentR (WentR.of_chg (hc6.wider (fun i _ hi => hi ▸ H5.out.rk.mg))) h6)
          clear hc6 h6
          go_wp2_with fail
          go_ret
          exact ⟨rfl, _, _, _, _, _, H6.out, same_stop HP.out.2.2.1 N, hn, by show d.waits.length ≤ _; omega, by show sumW d.waits ≤ _; omega⟩
        · have e3 : (kd == 3) = false := by rw [beq_eq_false_iff_ne]; exact k3
          by_cases k4 : kd = 4
          · subst k4
            go_wp2_with fail
            refine (dcrash_any HP.out.1.1.live.dk kp hgk.2.2.2.2.1 hgk.2.2.2.2.2 (by omega)).mono ?_
            rintro e w5 ⟨⟨v5, rfl⟩, hw5, h5⟩
            have d3 := hw5.cell c3 HP.out.1.2.1
            have H5 := Hid.mk (HP.out.1.1.went (Went.of_chg hw5) h5)
            clear hw5 h5
            go_wp2_with fail
            refine (rcrash_any H5.out.rk kp (by rw [HP.out.2.2.1.waits, flat_len]; omega)).mono ?_
            rintro e w6 ⟨⟨v6, rfl⟩, hc6, h6⟩
            have H6 := Hid.mk (H5.out.wentR (WentR.of_chg hc6) h6)
            clear hc6 h6
            go_wp2_with fail
            go_ret
            exact ⟨rfl, _, _, _, _, _, H6.out, same_crash HP.out.2.2.1 HP.out.2.2.2.2 kp, by rw [crash_now HP.out.2.2.2.2]; exact hn, Nat.zero_le _, Nat.zero_le _⟩
          · have e4 : (kd == 4) = false := by rw [beq_eq_false_iff_ne]; exact k4
            have kc := fun (W : World) (C : Array Value) (n c : Nat) => Lib.run_convert_bytes_const (P := Try.prog) W 22 5 C n c Try.underlying22 Try.underlying5
            go_wp2_with fail
            refine (dcopy_any HP.out.1.1.live.dk (by omega)).mono ?_
            rintro e w5 ⟨gc, Mc, rfl, hc5, h5, hlow5⟩
            have d3 := hc5.cell c3 (fun h => h)
            have hb5 := HP.out.2.1.keep hc5 (fun h => h)
            have H5 := Hid.mk (And.intro (HP.out.1.1.nil hc5) (And.intro h5 (And.intro hlow5 hb5)))
            clear hc5 h5 hlow5 hb5 c0 c1 c2 c3
            obtain ⟨nv, lv, wv, hrk⟩ := H5.out.1.rk
            obtain ⟨F, fc, rfl, hfc, hfm⟩ := hrk.row.form
            have hq : r.waits.length = sumW d.waits := by rw [HP.out.2.2.1.waits, flat_len]
            have e2 : w5.cell? ⟨g', 2, none⟩ = some (.slice F r.waits.length fc) := hrk.bk.cell 2 rfl
            have e4 : w5.cell? ⟨g', 4, none⟩ = some (.bool d.dead) := by rw [← HP.out.2.2.1.dead]; exact hrk.bk.cell 4 rfl
            rw [hq] at e2 hfc
            clear hrk hq
            have hdw := dwaits_any H5.out.2.1 (by omega)
            have hcw : ∀ W, Chg Nil w5 W → Calls Try.prog 14 #[.pointer (some ⟨gc, 0, none⟩)] W fun e w' => e = .returned (.int .i64 (sumW d.waits : Int)) ∧ Chg Nil W w' := fun W hc => dwaits_any (H5.out.2.1.keep_nil hc) (by omega)
            have hcd : ∀ W, Chg Nil w5 W → Calls Try.prog 18 #[.pointer (some ⟨gc, 0, none⟩)] W fun e w' => e = .returned (.bool d.dead) ∧ w' = W := fun W hc => dead_any (H5.out.2.1.keep_nil hc)
            have HC := Hid.mk (And.intro hcw hcd)
            clear hdw hcw hcd
            have hS : ∀ W, Chg Nil w5 W → W.cell? ⟨g', 2, none⟩ = some (.slice F (sumW d.waits) fc) ∧ W.cell? ⟨g', 4, none⟩ = some (.bool d.dead) := fun W hc => ⟨hc.cell e2 (fun h => h), hc.cell e4 (fun h => h)⟩
            have HS := Hid.mk hS
            clear hS
            generalize hqq : sumW d.waits = q at *
            generalize hdd : d.dead = dd at *
            go_wp2_with fail
            go_region_held (fun w' => w'.cell? ⟨g', 2, none⟩ = some (.slice F q fc) ∧ w'.cell? ⟨g', 4, none⟩ = some (.bool dd))
              (first | go_keep | exact HS.out _ (by assumption))
              (first
                | (go_at_call 14; refine (HC.out.1 _ (by first | exact (Chg.refl Nil w5).drew | assumption)).mono ?_; rintro e w6 ⟨rfl, hc6⟩; have hcw6 : Chg Nil w5 w6 := (by first | exact (Chg.refl Nil w5).drew.trans hc6 (fun _ _ h => h)))
                | (go_at_call 18; refine (HC.out.2 _ (by first | exact (Chg.refl Nil w5).drew | assumption)).mono ?_; rintro e w7 ⟨rfl, rfl⟩))
            have hnew : ∀ i, (w.alloc (.cells #[.int .i64 kd, .int .i64 p, .int .i64 N, .int .i64 kp] 42)).heap.size ≤ i → w0.heap.size ≤ i ∧ ¬ M i ∧ ¬ R i ∧ ¬ M' i := fun i hi =>
              ⟨Nat.le_trans HP.out.1.1.live.chg.size hi, fun hm => by have := HP.out.1.1.live.dk.lt i (.inl hm); omega, fun hm => by have := HP.out.1.1.live.dk.lt i (.inr hm); omega, fun hm => by have := HP.out.1.1.rk.lt i hm; omega⟩
            have hsz5 : (w.alloc (.cells #[.int .i64 kd, .int .i64 p, .int .i64 N, .int .i64 kp] 42)).heap.size ≤ w5.heap.size := by have := H5.out.2.2.2.lt; simp; omega
            have P6 := Hid.mk (And.intro (H5.out.1.nil hcw6) (And.intro (H5.out.2.1.keep_nil hcw6) (And.intro hnew (Nat.le_trans hsz5 hcw6.size))))
            have d3' := hcw6.cell d3 (fun h => h)
            clear hnew hcw6 d3
            go_wp2_with fail
            refine (dcrash_any P6.out.2.1 kp hgk.2.2.2.2.1 hgk.2.2.2.2.2 (by omega)).mono ?_
            rintro e w8 ⟨⟨v8, rfl⟩, hc8, h8⟩
            have H8 := Hid.mk (And.intro (P6.out.1.far hc8 (fun i hi => (P6.out.2.2.1 i (H5.out.2.2.1 i hi)).1) (fun i hi => (P6.out.2.2.1 i (H5.out.2.2.1 i hi)).2)) (And.intro h8 hc8.size))
            clear hc8 h8 d3'
            go_wp2_with fail
            have hA : Chg Nil w8 (w8.alloc (.cells #[.int .u8 99, .int .u8 111, .int .u8 112, .int .u8 121] 5 (4, 5))) := (Chg.refl Nil w8).alloc _
            have hrg : RdB (w8.alloc (.cells #[.int .u8 99, .int .u8 111, .int .u8 112, .int .u8 121] 5 (4, 5))) (fun k => k = w8.heap.size) (some ⟨w8.heap.size, 0, none⟩) 4 [99, 111, 112, 121] :=
              RdB.of_cells rfl rfl (fun j u hu => (cell_of_row _ w8.heap.size (0 + j) #[.int .u8 99, .int .u8 111, .int .u8 112, .int .u8 121] 5 (4, 5) (heap_alloc_new w8 _)).trans (by
                match j, hu with
                | 0, hu => simpa [bv] using hu
                | 1, hu => simpa [bv] using hu
                | 2, hu => simpa [bv] using hu
                | 3, hu => simpa [bv] using hu
                | j + 4, hu => simp at hu))
            have hlt8 := H8.out.2.1.lt
            refine (dwrite_any (H8.out.2.1.keep_nil hA) 0 _ 4 [99, 111, 112, 121] hrg (fun i hi hm => by have := hlt8 i (.inl hm); omega) (Nat.zero_le _)).mono ?_
            rintro e w9 ⟨M9, R9, rfl, hw9, h9⟩
            have hM9 : ∀ i, M9 i → (w.alloc (.cells #[.int .i64 kd, .int .i64 p, .int .i64 N, .int .i64 kp] 42)).heap.size ≤ i := fun i hi => by
              rcases Nat.lt_or_ge i (w8.alloc (.cells #[.int .u8 99, .int .u8 111, .int .u8 112, .int .u8 121] 5 (4, 5))).heap.size with hlt | hge
              · exact H5.out.2.2.1 i (hw9.m i hlt hi)
              · have h1 := H8.out.2.2
                have h2 := P6.out.2.2.2
                have h3 := hA.size
                omega
            have H9 := Hid.mk (And.intro ((H8.out.1.nil hA).far hw9.chg (fun i hi => (P6.out.2.2.1 i (H5.out.2.2.1 i hi)).1) (fun i hi => (P6.out.2.2.1 i (H5.out.2.2.1 i hi)).2)) (And.intro h9 hM9))
            clear hA hrg hlt8 hw9 h9 hM9 kc
            generalize (d.crash kp).opE 0 ([99, 111, 112, 121] : List UInt8).length = x9
            go_wp2_with fail
            refine (dsync_any H9.out.2.1).mono ?_
            rintro e w10 ⟨rfl, hw10, h10⟩
            have H10 := Hid.mk (H9.out.1.far hw10.chg (fun i hi => (P6.out.2.2.1 i (H9.out.2.2 i hi)).1) (fun i hi => (P6.out.2.2.1 i (H9.out.2.2 i hi)).2))
            clear hw10 h10
            generalize (if ((d.crash kp).writeA 0 [99, 111, 112, 121]).dead = true then (9 : Int) else 0) = x10
            go_wp2_with fail
            go_ret
            exact ⟨rfl, _, _, _, _, _, H10.out, HP.out.2.2.1, hn, by omega, by omega⟩
end Go.Proofs.Ytbaaoldcecefcaa
