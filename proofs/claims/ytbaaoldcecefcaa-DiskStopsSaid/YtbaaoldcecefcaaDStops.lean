/- The walk of DiskStops: it returns true, whatever the input. -/
import Derived.Test.YtbaaoldcecefcaaAwakeD
import Derived.Test.YtbaaoldcecefcaaCells
import Derived.Test.YtbaaoldcecefcaaDLent
namespace Go.Proofs.Ytbaaoldcecefcaa
open Go.RowKit

/-- What holds behind k calls, N being let. -/
def StopInv (w w' : World) (g N k : Nat) : Prop := ∃ M R d, Live w w' g M R d ∧ d.now.length = 64 ∧ d.waits.length ≤ k ∧ d.dead = decide (N ≤ k) ∧ (k < N → d.stop = N - k)
theorem StopInv.nil {w a b : World} {g N k : Nat} (h : StopInv w a g N k) (hc : Chg Nil a b) : StopInv w b g N k := by
  obtain ⟨M, R, d, h1, h2⟩ := h
  exact ⟨M, R, d, h1.nil hc, h2⟩
theorem called_inv {d : Dp} {N k : Nat} (hs : k < N → d.stop = N - k) (hlt : k < N) : d.called.dead = decide (N ≤ k + 1) ∧ (k + 1 < N → d.called.stop = N - (k + 1)) := by
  have h0 : 0 < d.stop := by rw [hs hlt]; omega
  rw [Dp.called, if_pos h0]
  refine ⟨?_, fun _ => ?_⟩
  · rw [decide_eq_decide]; rw [hs hlt]; omega
  · show d.stop - 1 = _
    rw [hs hlt]; omega

theorem stops_sync {w w' : World} {g N k : Nat} (h : StopInv w w' g N k) :
    Calls Try.prog 16 #[.pointer (some ⟨g, 0, none⟩)] w' fun e w2 => e = .returned (.int .i64 (if N ≤ k then 9 else 0)) ∧ StopInv w w2 g N (k + 1) := by
  obtain ⟨M, R, d, h1, h2, h3, h4, h5⟩ := h
  by_cases hk : N ≤ k
  · refine (dsync_dead h1.dk (by rw [h4]; simpa using hk)).mono ?_
    rintro e w2 ⟨rfl, rfl⟩
    exact ⟨by rw [if_pos hk], M, R, d, h1, h2, by omega, by rw [h4, decide_eq_decide]; omega, fun h => by omega⟩
  · have hinv := called_inv h5 (by omega)
    refine (dsync_ok h1.dk (by rw [h4]; simpa using hk)).mono ?_
    rintro e w2 ⟨rfl, hc, hd⟩
    exact ⟨by rw [if_neg hk], M, R, d.sync, h1.step hc hd, by rw [Dp.sync]; show d.called.now.length = 64; rw [Dp.called_now]; exact h2, Nat.zero_le _, hinv.1, hinv.2⟩
theorem stops_write {w w' : World} {g N k : Nat} (h : StopInv w w' g N k) (p : Nat) (hp : p ≤ 31) (hk30 : k ≤ 30) :
    Calls Try.prog 11 #[.pointer (some ⟨g, 0, none⟩), .int .i64 (p : Int), .slice (some ⟨w'.heap.size, 0, none⟩) 1 1] (w'.alloc (.cells #[.int .u8 1] 5)) fun e w2 =>
      e = .returned (.int .i64 (if N ≤ k then 9 else 0)) ∧ StopInv w w2 g N (k + 1) := by
  obtain ⟨M, R, d, h1, h2, h3, h4, h5⟩ := h
  have hA : Chg Nil w' (w'.alloc (.cells #[.int .u8 1] 5)) := (Chg.refl Nil w').alloc _
  have h1' := h1.nil hA
  have hr : RdB (w'.alloc (.cells #[.int .u8 1] 5)) (fun k => k = w'.heap.size) (some ⟨w'.heap.size, 0, none⟩) 1 [1] := rds_one w' (.int .u8 1) 5
  have hlt := h1.dk.lt
  have hfit : d.fits (p : Int) (1 : Nat) = true := Dp.fits_nat (by rw [h2]; omega)
  by_cases hk : N ≤ k
  · have he : d.opE (p : Int) (1 : Nat) = 9 := Dp.opE_dead hfit (by rw [h4]; simpa using hk)
    refine (dwrite_no h1'.dk (p : Int) (some ⟨w'.heap.size, 0, none⟩) 1 1 (by rw [he]; omega)).mono ?_
    rintro e w2 ⟨rfl, hc⟩
    rw [he]
    exact ⟨by rw [if_pos hk], M, R, d, h1'.nil hc, h2, by omega, by rw [h4, decide_eq_decide]; omega, fun h => by omega⟩
  · have hinv := called_inv h5 (by omega)
    refine (dwrite_ok h1'.dk p _ 1 1 [1] hr (fun k hk hm => by have := hlt k (.inl hm); omega) (by rw [h2]; omega) (by rw [h4]; simpa using hk) (by omega)).mono ?_
    rintro e w2 ⟨M2, R2, rfl, hw, hd⟩
    refine ⟨by rw [if_neg hk], M2, R2, d.write p [1], h1'.went hw hd, ?_, ?_, hinv.1, hinv.2⟩
    · rw [Dp.write]
      show (splice d.now p [1]).length = 64
      rw [splice_len _ _ _ (by rw [h2]; simp; omega)]
      exact h2
    · rw [Dp.write]
      simp only [List.length_append, List.length_cons, List.length_nil]
      omega

theorem stops_read {w w' : World} {g N k : Nat} (h : StopInv w w' g N k) :
    Calls Try.prog 12 #[.pointer (some ⟨g, 0, none⟩), .int .i64 0, .int .i64 1] w' fun e w2 => (∃ A c, e = .returned (.tuple #[.slice A (if N ≤ k then 0 else 1) c, .int .i64 (if N ≤ k then 9 else 0)])) ∧ StopInv w w2 g N k := by
  obtain ⟨M, R, d, h1, h2, h3, h4, h5⟩ := h
  have hfit : d.fits (0 : Nat) (1 : Nat) = true := Dp.fits_nat (by rw [h2]; omega)
  by_cases hk : N ≤ k
  · have he : d.opE (0 : Int) (1 : Int) = 9 := Dp.opE_dead hfit (by rw [h4]; simpa using hk)
    refine (dread_no h1.dk 0 1 (by rw [he]; omega)).mono ?_
    rintro e w2 ⟨rfl, hc⟩
    rw [he, if_pos hk, if_pos hk]
    exact ⟨⟨_, _, rfl⟩, M, R, d, h1.nil hc, h2, h3, h4, h5⟩
  · refine (dread_ok h1.dk 0 1 (by rw [h2]; omega) (by rw [h4]; simpa using hk)).mono ?_
    rintro e w2 ⟨v, rfl, ho, hc⟩
    obtain ⟨A, c, rfl, _, _⟩ := own_form ho
    rw [if_neg hk, if_neg hk]
    exact ⟨⟨_, _, rfl⟩, M, R, d, h1.nil hc, h2, h3, h4, h5⟩
theorem stops_dead {w w' : World} {g N k : Nat} (h : StopInv w w' g N k) :
    Calls Try.prog 18 #[.pointer (some ⟨g, 0, none⟩)] w' fun e w2 => e = .returned (.bool (decide (N ≤ k))) ∧ w2 = w' := by
  obtain ⟨M, R, d, h1, h2, h3, h4, h5⟩ := h
  refine (dead_any h1.dk).mono ?_
  rintro e w2 ⟨rfl, rfl⟩
  exact ⟨by rw [h4], rfl⟩

set_option maxHeartbeats 1000000 in
set_option maxRecDepth 100000 in
theorem stops_walk (n : Int) (A : Option Addr) (m c : Nat) (zs : List Int) (S : Nat → Prop) (w : World) (hr : Rds w S 1 A m (zs.map (Value.int .i64))) (hm : m ≤ 9223372036854775807) :
    Calls Try.prog 6 #[.int .i64 n, .slice A m c] w fun e w' => e = .returned (.bool true) ∧ Chg Nil w w' := by
  have hzl : zs.length = m := by simpa using hr.len
  have HR := Hid.mk hr
  clear hr
  have hand := i64_and_15 n
  have hN : (n % 16).toNat < 16 := by omega
  generalize (n % 16).toNat = N at hand hN
  go_enter Try.func6, Try.ntmps6
  go_wp2_with fail
  refine (dnew_any 64 w).mono ?_
  rintro e w1 ⟨g, M, R, rfl, hc1, h1, hlow⟩
  have L1 := Hid.mk (Live.mk hc1 h1 hlow)
  clear hc1 h1 hlow
  go_wp2_with fail
  refine (stop_any L1.out.dk (N : Int) (by omega)).mono ?_
  rintro e w2 ⟨⟨v2, rfl⟩, hc2, h2⟩
  have h2i : StopInv w w2 g N 0 := ⟨M, R, _, L1.out.step (chg_g L1.out.dk hc2) h2, dnew_now 64 (by omega), Nat.zero_le _, by
    show (false || (N : Int) == 0) = decide (N ≤ 0)
    by_cases h : N = 0
    · subst h; rfl
    · have : ((N : Int) == 0) = false := by rw [beq_eq_false_iff_ne]; omega
      rw [this]
      simp [h], fun _ => by show (N : Int).toNat = N - 0; omega⟩
  have H2 := Hid.mk h2i
  clear hc2 h2 h2i
  go_wp2_with fail
  go_loopw [6] (fun i wr => ∃ k : Nat, k ≤ 30 ∧ k ≤ m ∧ i = .int .i64 (k : Int) ∧ StopInv w wr g N k) (fun i _ => 30 - (intOf i).toNat)
  case atStart => exact ⟨0, by omega, by omega, rfl, H2.out⟩
  case round =>
    obtain ⟨k, hk30, hkm, rfl, hinv⟩ := hrel
    obtain ⟨M', R', d', hlv, hrest⟩ := hinv
    have hch := hlv.chg
    have hinv : StopInv w wr g N k := ⟨M', R', d', hlv, hrest⟩
    clear hlv hrest
    by_cases hlt : k < m
    · by_cases hlt30 : k < 30
      · obtain ⟨b, off, rfl, _, _, hx⟩ := HR.out.plain (by omega) (by omega)
        have hcell := hch.cell (hx k (.int .i64 zs[k]) (by rw [List.getElem?_map, List.getElem?_eq_getElem (by omega)]; rfl)) (fun h => h)
        have hcA : (wr.alloc (.cells #[.int .u8 1] 5)).cell? ⟨b, off + k, none⟩ = some (.int .i64 zs[k]) := ((Chg.refl Nil wr).alloc _).cell hcell (fun h => h)
        generalize zs[k] = z at *
        have hodd := i64_and_1 z
        have hP := i64_and_31 (z / 2)
        have hPl : ((z / 2) % 32).toNat ≤ 31 := by omega
        generalize ((z / 2) % 32).toNat = P at hP hPl
        have HK := Hid.mk (And.intro hinv hch)
        clear hinv hch hx
        by_cases ho : (z % 2).toNat = 1
        · rw [ho] at hodd
          rcases (show N ≤ k ∨ (k < N ∧ N ≤ k + 1) ∨ k + 1 < N by omega) with hA | ⟨hB, hB1⟩ | hC
          · have hd1 : decide ((N : Int) ≤ (k : Int) + 1) = true := by rw [decide_eq_true_iff]; omega
            go_wp2_with fail
            refine (stops_write HK.out.1 P hPl (by omega)).mono ?_
            rintro e w3 ⟨rfl, h3⟩
            rw [if_pos (by omega)]
            have H3 := Hid.mk h3
            clear h3
            go_wp2_with fail
            refine (stops_dead H3.out).mono ?_
            rintro e w3' ⟨rfl, rfl⟩
            rw [decide_eq_true (by omega)]
            go_wp2_with fail
            refine (stops_read H3.out).mono ?_
            rintro e w4 ⟨⟨A4, c4, rfl⟩, h4⟩
            rw [if_pos (by omega), if_pos (by omega)]
            have H4 := Hid.mk h4
            clear h4
            go_wp2_with fail
            go_roundw
            case rel => exact ⟨k + 1, by omega, by omega, by go_num, H4.out⟩
            case measure => simp [intOf]; omega
          · have hd1 : decide ((N : Int) ≤ (k : Int) + 1) = true := by rw [decide_eq_true_iff]; omega
            go_wp2_with fail
            refine (stops_write HK.out.1 P hPl (by omega)).mono ?_
            rintro e w3 ⟨rfl, h3⟩
            rw [if_neg (by omega)]
            have H3 := Hid.mk h3
            clear h3
            go_wp2_with fail
            refine (stops_dead H3.out).mono ?_
            rintro e w3' ⟨rfl, rfl⟩
            rw [decide_eq_true (by omega)]
            go_wp2_with fail
            refine (stops_read H3.out).mono ?_
            rintro e w4 ⟨⟨A4, c4, rfl⟩, h4⟩
            rw [if_pos (by omega), if_pos (by omega)]
            have H4 := Hid.mk h4
            clear h4
            go_wp2_with fail
            go_roundw
            case rel => exact ⟨k + 1, by omega, by omega, by go_num, H4.out⟩
            case measure => simp [intOf]; omega
          · have hd1 : decide ((N : Int) ≤ (k : Int) + 1) = false := by rw [decide_eq_false_iff_not]; omega
            go_wp2_with fail
            refine (stops_write HK.out.1 P hPl (by omega)).mono ?_
            rintro e w3 ⟨rfl, h3⟩
            rw [if_neg (by omega)]
            have H3 := Hid.mk h3
            clear h3
            go_wp2_with fail
            refine (stops_dead H3.out).mono ?_
            rintro e w3' ⟨rfl, rfl⟩
            rw [decide_eq_false (by omega)]
            go_wp2_with fail
            refine (stops_read H3.out).mono ?_
            rintro e w4 ⟨⟨A4, c4, rfl⟩, h4⟩
            rw [if_neg (by omega), if_neg (by omega)]
            have H4 := Hid.mk h4
            clear h4
            go_wp2_with fail
            go_roundw
            case rel => exact ⟨k + 1, by omega, by omega, by go_num, H4.out⟩
            case measure => simp [intOf]; omega
        · have ho' : (((z % 2).toNat : Int) == 1) = false := by rw [beq_eq_false_iff_ne]; omega
          generalize (z % 2).toNat = q at *
          rcases (show N ≤ k ∨ (k < N ∧ N ≤ k + 1) ∨ k + 1 < N by omega) with hA | ⟨hB, hB1⟩ | hC
          · have hd1 : decide ((N : Int) ≤ (k : Int) + 1) = true := by rw [decide_eq_true_iff]; omega
            go_wp2_with fail
            refine (stops_sync HK.out.1).mono ?_
            rintro e w3 ⟨rfl, h3⟩
            rw [if_pos (by omega)]
            have H3 := Hid.mk h3
            clear h3
            go_wp2_with fail
            refine (stops_dead H3.out).mono ?_
            rintro e w3' ⟨rfl, rfl⟩
            rw [decide_eq_true (by omega)]
            go_wp2_with fail
            refine (stops_read H3.out).mono ?_
            rintro e w4 ⟨⟨A4, c4, rfl⟩, h4⟩
            rw [if_pos (by omega), if_pos (by omega)]
            have H4 := Hid.mk h4
            clear h4
            go_wp2_with fail
            go_roundw
            case rel => exact ⟨k + 1, by omega, by omega, by go_num, H4.out⟩
            case measure => simp [intOf]; omega
          · have hd1 : decide ((N : Int) ≤ (k : Int) + 1) = true := by rw [decide_eq_true_iff]; omega
            go_wp2_with fail
            refine (stops_sync HK.out.1).mono ?_
            rintro e w3 ⟨rfl, h3⟩
            rw [if_neg (by omega)]
            have H3 := Hid.mk h3
            clear h3
            go_wp2_with fail
            refine (stops_dead H3.out).mono ?_
            rintro e w3' ⟨rfl, rfl⟩
            rw [decide_eq_true (by omega)]
            go_wp2_with fail
            refine (stops_read H3.out).mono ?_
            rintro e w4 ⟨⟨A4, c4, rfl⟩, h4⟩
            rw [if_pos (by omega), if_pos (by omega)]
            have H4 := Hid.mk h4
            clear h4
            go_wp2_with fail
            go_roundw
            case rel => exact ⟨k + 1, by omega, by omega, by go_num, H4.out⟩
            case measure => simp [intOf]; omega
          · have hd1 : decide ((N : Int) ≤ (k : Int) + 1) = false := by rw [decide_eq_false_iff_not]; omega
            go_wp2_with fail
            refine (stops_sync HK.out.1).mono ?_
            rintro e w3 ⟨rfl, h3⟩
            rw [if_neg (by omega)]
            have H3 := Hid.mk h3
            clear h3
            go_wp2_with fail
            refine (stops_dead H3.out).mono ?_
            rintro e w3' ⟨rfl, rfl⟩
            rw [decide_eq_false (by omega)]
            go_wp2_with fail
            refine (stops_read H3.out).mono ?_
            rintro e w4 ⟨⟨A4, c4, rfl⟩, h4⟩
            rw [if_neg (by omega), if_neg (by omega)]
            have H4 := Hid.mk h4
            clear h4
            go_wp2_with fail
            go_roundw
            case rel => exact ⟨k + 1, by omega, by omega, by go_num, H4.out⟩
            case measure => simp [intOf]; omega
      · have d30 : decide ((k : Int) < 30) = false := by rw [decide_eq_false_iff_not]; omega
        obtain ⟨M2, R2, d2, hl2, _, hw2, _⟩ := hinv
        have HL := Hid.mk hl2
        clear hl2 hch
        go_wp2_with fail
        refine (dcrash_any HL.out.dk 9 (by omega) (by omega) (by omega)).mono ?_
        rintro e w3 ⟨⟨v3, rfl⟩, hc3, h3⟩
        have L3 := Hid.mk (HL.out.step hc3 h3)
        clear hc3 h3
        go_wp2_with fail
        refine (dead_any L3.out.dk).mono ?_
        rintro e w4 ⟨rfl, rfl⟩
        rw [show (d2.crash 9).dead = false from rfl]
        go_wp2_with fail
        refine (dsync_ok L3.out.dk rfl).mono ?_
        rintro e w5 ⟨rfl, hc5, h5⟩
        have L5 := Hid.mk (L3.out.step hc5 h5)
        clear hc5 h5
        go_wp2_with fail
        refine (awakeD_any _).mono ?_
        rintro e w6 ⟨rfl, hc6⟩
        have L6 := Hid.mk (L5.out.nil hc6)
        clear hc6
        go_wp2_with fail
        go_ret
        exact ⟨rfl, L6.out.chg⟩
    · obtain ⟨M2, R2, d2, hl2, _, hw2, _⟩ := hinv
      have HL := Hid.mk hl2
      clear hl2 hch
      go_wp2_with fail
      refine (dcrash_any HL.out.dk 9 (by omega) (by omega) (by omega)).mono ?_
      rintro e w3 ⟨⟨v3, rfl⟩, hc3, h3⟩
      have L3 := Hid.mk (HL.out.step hc3 h3)
      clear hc3 h3
      go_wp2_with fail
      refine (dead_any L3.out.dk).mono ?_
      rintro e w4 ⟨rfl, rfl⟩
      rw [show (d2.crash 9).dead = false from rfl]
      go_wp2_with fail
      refine (dsync_ok L3.out.dk rfl).mono ?_
      rintro e w5 ⟨rfl, hc5, h5⟩
      have L5 := Hid.mk (L3.out.step hc5 h5)
      clear hc5 h5
      go_wp2_with fail
      refine (awakeD_any _).mono ?_
      rintro e w6 ⟨rfl, hc6⟩
      have L6 := Hid.mk (L5.out.nil hc6)
      clear hc6
      go_wp2_with fail
      go_ret
      exact ⟨rfl, L6.out.chg⟩
theorem stops_law (n : Int) (A : Option Addr) (m c : Nat) (zs : List Int) (S : Nat → Prop) (w : World) (hr : Rds w S 1 A m (zs.map (Value.int .i64))) (hm : m ≤ 9223372036854775807) :
    Calls Try.prog 6 #[.int .i64 n, .slice A m c] w fun e w' => e = .returned (.bool true) ∧ Below w.heap.size w w' :=
  (stops_walk n A m c zs S w hr hm).mono fun _ _ h => ⟨h.1, h.2.below_nil⟩
end Go.Proofs.Ytbaaoldcecefcaa
