/- Joined for this seat from: XSlAgain. -/
import Derived.Test.YtomlmedfiajfkaaLp
namespace Go.Proofs.Ytomlmedfiajfkaa
open Go.RowKit

theorem and_511 (x : Int) : ∃ C : Nat, bits .and .i64 x 511 = (C : Int) ∧ C ≤ 511 := by
  obtain ⟨C, h1, h2⟩ := i64_and_mask x 511 9 (by decide) (by omega)
  exact ⟨C, h1, h2⟩
/-- What stands on the disk between two rounds: nothing, or one of those written. -/
structure Tells (D : Dp) (L : List Sn) : Prop where
  clean : D.clean
  free : D.free
  len : D.now.length = 600
  tells : ∀ s, readS (winS D.now 0 600) = some s → s ∈ L
theorem Tells.next {D : Dp} {L : List Sn} (h : Tells D L) {s : Sn} (hs : s.ok = true) (hl : s.bytes.length ≤ 500) (stp k : Int) :
    Tells ((slotW (D.stopAt stp) 0 s.bytes).1.crash k) (L ++ [s]) := by
  have hc := Dp.clean_stop h.clean stp
  have hn : (D.stopAt stp).now = D.now := rfl
  have hlen : 0 + 1 + s.bytes.length ≤ (D.stopAt stp).now.length := by rw [hn, h.len]; omega
  refine ⟨Dp.clean_crash _ _, Dp.free_crash _ _, ?_, fun t ht => ?_⟩
  · rcases slot_cases hc 0 s.bytes hlen with ⟨_, e2, e3, _⟩ | ⟨_, e2⟩
    · rw [clean_crash_now e2, slotW_len hlen, hn, h.len]
    · rw [(e2 k).len hlen, hn, h.len]
  · rcases slot_cases hc 0 s.bytes hlen with ⟨_, e2, e3, _⟩ | ⟨_, e2⟩
    · rw [clean_crash_now e2, e3, new_read hs (by rw [hn, h.len]; omega) (by omega)] at ht
      injection ht with ht
      subst ht
      simp
    · rcases cut_read (e2 k) hs (p := 0) (n := 600) (by rw [hn, h.len]; omega) (by omega) with e | e | e
      · rw [e, hn] at ht
        exact List.mem_append_left _ (h.tells t ht)
      · rw [e] at ht; cases ht
      · rw [e] at ht
        injection ht with ht
        subst ht
        simp
theorem Tells.new : Tells (Dp.new 600) [] :=
  ⟨Dp.clean_new _, Dp.free_new _, new_len (n := 600) (by omega), fun s h => by have e : readS (winS (Dp.new 600).now 0 600) = none := new_none (n := 600) (by omega) (by omega) (by omega); rw [e] at h; cases h⟩
set_option maxHeartbeats 8000000 in
set_option maxRecDepth 100000 in
theorem slotAgain_walk (A0 : Option Addr) (n0 c0 : Nat) (vs : List Value) (ls : List (List Oq)) (A1 : Option Addr) (n1 c1 : Nat) (zs : List Int) (A2 : Option Addr) (n2 c2 : Nat) (ks : List Int) (S0 S0' S1 S2 : Nat → Prop) (w : World)
    (hr0 : Rds w S0 1 A0 n0 vs) (hl0 : RdLO w S0' vs ls) (hr1 : Rds w S1 1 A1 n1 (zs.map (Value.int .i64))) (hr2 : Rds w S2 1 A2 n2 (ks.map (Value.int .i64)))
    (hn0 : n0 ≤ 9223372036854775807) (hn1 : n1 ≤ 9223372036854775807) (hn2 : n2 ≤ 9223372036854775807) :
    Calls Try.prog 5 #[.slice A0 n0 c0, .slice A1 n1 c1, .slice A2 n2 c2] w fun e w' => e = .returned (.bool true) ∧ Below w.heap.size w w' := by
  obtain ⟨i0, hi, hz0, hz1, hz2⟩ := info_parts Try.infoSnap
  have HA := Hid.mk (fun W => awake14_any W)
  have hN := dnew_any 600 w
  have hv0 := hr0.len
  have hv1 := hr1.len
  have hv2 := hr2.len
  rw [List.length_map] at hv1 hv2
  have HH := Hid.mk (And.intro hr0 (And.intro hl0 (And.intro hr1 (And.intro hr2 hN))))
  clear hr0 hl0 hr1 hr2 hN
  go_enter Try.func5, Try.ntmps5
  go_wp2_with fail
  refine HH.out.2.2.2.2.mono ?_
  rintro e w1 ⟨g, M, R, rfl, cc1, d1, low1⟩
  have H1 := Hid.mk (And.intro (Live.mk cc1 d1 low1) Tells.new)
  clear cc1 d1 low1
  go_wp2_with fail
  go_loopw [8, 9] (fun v i wr => ∃ (k : Nat) (A : Option Addr) (cp : Nat) (M R : Nat → Prop) (D : Dp) (L : List Sn), k ≤ n0 ∧ k ≤ n1 ∧ k ≤ 8 ∧ i = .int .i64 (k : Int) ∧ v = .slice A k cp ∧ Hid (Live w wr g M R D ∧ Tells D L ∧ SnRow w.heap.size wr (fun j => M j ∨ R j) v L ∧ L.length = k ∧ ∀ s ∈ L, s.pts.length ≤ 30)) (fun _ i _ => 8 - (intOf i).toNat)
  case atStart => exact ⟨0, none, 0, M, R, _, [], by omega, by omega, by omega, rfl, rfl, Hid.mk ⟨H1.out.1, H1.out.2, ⟨⟨[], rfl, ⟨rfl, .inl ⟨rfl, rfl⟩⟩, fun q hq => by simp at hq⟩, fun k hk => by cases hk⟩, rfl, fun s hs => by simp at hs⟩⟩
  case round =>
    obtain ⟨k, A, cp, M, R, D, L, hk0, hk1, hk8, rfl, rfl, HK⟩ := hrel
    by_cases hgo : k < n0 ∧ k < n1 ∧ k < 8
    · obtain ⟨hg0, hg1, hg8⟩ := hgo
      obtain ⟨b0, o0, hA0, _, _, hx0⟩ := HH.out.1.plain (by omega) (by omega)
      subst hA0
      obtain ⟨b1, o1, hA1, _, _, hx1⟩ := HH.out.2.2.1.plain (by omega) (by omega)
      subst hA1
      have hlk : ls[k]? = some (ls[k]'(by have := HH.out.2.1.1; omega)) := List.getElem?_eq_getElem _
      generalize ls[k]'(by have := HH.out.2.1.1; omega) = lk at hlk
      obtain ⟨Ak, ck, hvk, rk⟩ := HH.out.2.1.2 k lk hlk
      have hzk : zs[k]? = some (zs[k]'(by omega)) := List.getElem?_eq_getElem _
      generalize zs[k]'(by omega) = zk at hzk
      have hcell0 := HK.out.1.chg.cell (hx0 k _ hvk) (fun h => h)
      have hcell1 : ∀ W, Chg Nil w W → W.cell? ⟨b1, o1 + k, none⟩ = some (.int .i64 zk) := fun W hW => hW.cell (hx1 k _ (by rw [List.getElem?_map, hzk]; rfl)) (fun h => h)
      by_cases hbig : lk.length ≤ 100
      rotate_left
      · have hd : decide (100 < (lk.length : Int)) = true := decide_eq_true (by omega)
        clear hcell1 hzk hlk hvk
        go_wp2_with fail
        refine (HA.out _).mono ?_
        rintro e wz ⟨rfl, cz⟩
        have Hz := Hid.mk (HK.out.1.chg.trans cz (fun _ _ h => h))
        clear cz
        go_wp2_with fail
        go_ret
        exact ⟨rfl, Hz.out.below_nil⟩
      have hd : decide (100 < (lk.length : Int)) = false := decide_eq_false (by omega)
      have hsn := snap14_any k k Ak lk.length ck lk _ wr (Rds.keep rk HK.out.1.chg (fun _ _ h => h)) hbig
      have hso := snapP_ok k k lk
      have hsl := snapP_len k k lk
      have hsp : (snapP k k lk).pts.length ≤ 30 := by have := Sn.len (snapP k k lk); omega
      generalize snapP k k lk = s at *
      have HSn := Hid.mk (And.intro hsn (And.intro hcell1 hx0))
      clear hsn hcell1 hx0 hx1 hzk hlk hvk rk
      go_wp2_with fail
      refine HSn.out.1.mono ?_
      rintro e w2 ⟨As, cs, rfl, rs, c2⟩
      obtain ⟨qs, hq1, hq2, hq3⟩ := HK.out.2.2.1.ex
      have hql : L.length = k := HK.out.2.2.2.1
      rw [hql] at hq2
      have hvlt : ∀ j, Own (.slice A k cp) j → j < wr.heap.size := own_lt hq2
      have hMlt : ∀ j, M j ∨ R j → j < wr.heap.size := fun j hj => HK.out.1.dk.lt j hj
      have hks : Kept w2 (fun j => (M j ∨ R j) ∨ Own (.slice A k cp) j) As s.pts.length s.pts := Kept.new rs (fun j hj => hj.elim (hMlt j) (hvlt j))
      have hone := rds_trip (w2.alloc (.cells #[.int .u64 (s.gen : Int), .int .u64 (s.u : Int), .slice As s.pts.length cs] 29)) s (.slice As s.pts.length cs)
      have hcA : Chg Nil wr (w2.alloc (.cells #[.int .u64 (s.gen : Int), .int .u64 (s.u : Int), .slice As s.pts.length cs] 29)) := c2.alloc _
      have hcA2 : Chg Nil w2 ((w2.alloc (.cells #[.int .u64 (s.gen : Int), .int .u64 (s.u : Int), .slice As s.pts.length cs] 29)).alloc (.cells #[.int .u64 (s.gen : Int), .int .u64 (s.u : Int), .slice As s.pts.length cs] 29)) := ((Chg.refl Nil w2).alloc _).alloc _
      have hcB : Chg Nil wr ((w2.alloc (.cells #[.int .u64 (s.gen : Int), .int .u64 (s.u : Int), .slice As s.pts.length cs] 29)).alloc (.cells #[.int .u64 (s.gen : Int), .int .u64 (s.u : Int), .slice As s.pts.length cs] 29)) := hcA.alloc _
      have hown := own_keep hq2 hcB (fun _ _ h => h)
      have hbk : Bk ((w2.alloc (.cells #[.int .u64 (s.gen : Int), .int .u64 (s.u : Int), .slice As s.pts.length cs] 29)).alloc (.cells #[.int .u64 (s.gen : Int), .int .u64 (s.u : Int), .slice As s.pts.length cs] 29)) w2.heap.size 29 #[.int .u64 (s.gen : Int), .int .u64 (s.u : Int), .slice As s.pts.length cs] := (Bk.new w2 _ _).alloc _
      have hbase : w.heap.size ≤ wr.heap.size := HK.out.1.chg.size
      have hwr2 : wr.heap.size ≤ w2.heap.size := c2.size
      have hsz2 : ((w2.alloc (.cells #[.int .u64 (s.gen : Int), .int .u64 (s.u : Int), .slice As s.pts.length cs] 29)).alloc (.cells #[.int .u64 (s.gen : Int), .int .u64 (s.u : Int), .slice As s.pts.length cs] 29)).heap.size = w2.heap.size + 1 + 1 := by simp
      rw [World.size_alloc] at hone
      have H2 := Hid.mk (And.intro hks (And.intro hone (And.intro hown (And.intro hbk (And.intro hcB (And.intro hcA2 (And.intro hq1 (And.intro hq3 hvlt))))))))
      have H2s := Hid.mk hsz2
      clear rs hone hown hbk hcB hcA2 hq1 hq3 hq2 c2 hcA hvlt hks hsz2
      go_wp2_with (at_builtin; refine wpl_append rfl (.tmp 56) (.tmp 58) 49 rfl w.heap.size 29 i0 _ 3 40 Try.underlying49 hi hz0 hz1 hz2 rfl (by omega) _ k _ rfl H2.out.2.2.1 _ (some ⟨w2.heap.size + 1, 0, none⟩) 1 1 _ rfl H2.out.2.1 (by intro u hu; simp only [trip, List.mem_cons, List.not_mem_nil, or_false] at hu; rcases hu with rfl | rfl | rfl <;> rfl) (by simp only [maxLen]; omega) (by omega) (by rw [H2s.out]; omega) ?_; intro v4 w4 o4 g4; obtain ⟨A4, c4, rfl, _, _⟩ := own_form o4; have c4w : Chg Nil w w4 := (HK.out.1.chg.trans H2.out.2.2.2.2.1 (fun _ _ h => h)).trans g4.chg (fun i hi h => by have := own_ge H2.out.2.2.1 i h; omega); have z4 := HSn.out.2.1 w4 c4w; have H4 := Hid.mk (And.intro o4 (And.intro g4 c4w)); clear o4 g4 c4w)
      have hgl := H4.out.2.1.lies
      obtain ⟨stp, hstp, hstl⟩ : ∃ C : Int, bits .and .i64 zk 7 = C ∧ C ≤ 7 := ⟨_, rfl, by rw [i64_and_7]; omega⟩
      have hK4 : Kept w4 (fun j => M j ∨ R j) As s.pts.length s.pts := (H2.out.1.nil H2.out.2.2.2.2.2.1).gen H4.out.2.1.chg (fun j hj h => .inr h) (fun j hj h => .inl h)
      have hMf : ∀ j, M j ∨ R j → ¬ Own (.slice A k cp) j := fun j hm hj => HK.out.2.2.1.far j hj hm
      have hD4 : Dk w4 g M R D := (HK.out.1.dk.keep_nil H2.out.2.2.2.2.1).keep H4.out.2.1.chg (fun j hm => hMf j (.inl hm)) (fun j hm => hMf j (.inr hm))
      have hL4 : Live w w4 g M R D := ⟨H4.out.2.2, hD4, HK.out.1.low⟩
      have hR4 : SnRow w.heap.size w4 (fun j => M j ∨ R j) (.slice A4 (k + 1) c4) (L ++ [s]) := (HK.out.2.2.1.nil H2.out.2.2.2.2.1).snoc (H2.out.1.nil H2.out.2.2.2.2.2.1) (fun j hj => by have := hMlt j hj; have := H2.out.2.2.2.2.1.size; omega) H2.out.2.2.2.2.2.2.1 (fun q hq => by
        obtain ⟨Aq, cq, h1, h2⟩ := H2.out.2.2.2.2.2.2.2.1 q hq
        exact ⟨Aq, cq, h1, h2.nil H2.out.2.2.2.2.1⟩) (by rw [hql]; exact H4.out.1) H4.out.2.1
      have hV4 : Var w4 M w2.heap.size 29 #[.int .u64 (s.gen : Int), .int .u64 (s.u : Int), .slice As s.pts.length cs] := ⟨H2.out.2.2.2.1.keep H4.out.2.1.chg (fun h => by have := H2.out.2.2.2.2.2.2.2.2 _ h; omega), fun hm => by have := hMlt _ (.inl hm); omega⟩
      have hL1 : (L ++ [s]).length = k + 1 := by rw [List.length_append, hql]; rfl
      have hL30 : ∀ t ∈ L ++ [s], t.pts.length ≤ 30 := fun t ht => by
        rcases List.mem_append.1 ht with h | h
        · exact HK.out.2.2.2.2 t h
        · simp at h; subst h; exact hsp
      have hT := HK.out.2.1
      have hTn := fun kp => Tells.next hT hso hsl (bits .and .i64 zk 7) kp
      have hTc := Dp.clean_stop hT.clean (bits .and .i64 zk 7)
      have hTl : (D.stopAt (bits .and .i64 zk 7)).now.length = 600 := hT.len
      have H5 := Hid.mk (And.intro hL4 (And.intro hR4 (And.intro hV4 (And.intro hK4 (And.intro (And.intro hTn (And.intro hTc hTl)) (And.intro hL1 hL30))))))
      clear hgl hK4 hMf hD4 hL4 hR4 hV4 hT hTn hTc hTl hL1 hL30 hMlt
      generalize L ++ [s] = L' at *
      have hstop := stop_any H5.out.1.dk (bits .and .i64 zk 7) (by rw [i64_and_7]; omega)
      generalize bits .and .i64 zk 7 = stp at *
      have HSt := Hid.mk hstop
      clear hstop z4 hstp
      refine HSt.out.mono ?_
      rintro e w5 ⟨⟨v5, rfl⟩, c5, d5⟩
      have c5' := chg_g H5.out.1.dk c5
      have hd5 : Dk w5 g M R (D.stopAt stp) := d5
      have H6 := Hid.mk (And.intro (H5.out.1.step c5' hd5) (And.intro (H5.out.2.1.step2 c5') (And.intro (H5.out.2.2.1.step c5') (H5.out.2.2.2.1.step2 c5'))))
      obtain ⟨y0, y1, y2⟩ := H6.out.2.2.1.c3
      clear c5 c5' d5 hd5
      have hwr := swrite_go H6.out.1.dk 0 600 s.gen s.u As s.pts.length cs s.pts _ H6.out.2.2.2.rd (by omega) (by rw [H5.out.2.2.2.2.1.2.2]; omega) hso (by show s.bytes.length < _; omega) (by rw [H5.out.2.2.2.2.1.2.1.waits]; show (0 : Nat) ≤ _; omega)
      rw [show (⟨s.gen, s.u, s.pts⟩ : Sn) = s from rfl] at hwr
      have hle := slotW_le H5.out.2.2.2.2.1.2.1.waits 0 s.bytes
      have hTn := H5.out.2.2.2.2.1.1
      generalize slotW (D.stopAt stp) 0 s.bytes = DW at *
      have HW := Hid.mk (And.intro hwr (And.intro hle hTn))
      clear hwr hle hTn
      go_wp2_with fail
      refine HW.out.1.mono ?_
      rintro e w6 ⟨M6, R6, rfl, ww6, d6⟩
      have H7 := Hid.mk (And.intro (H6.out.1.went ww6 d6) (H6.out.2.1.went2 ww6))
      clear ww6 d6 y0 y1 y2
      have hkeep : ∃ kp : Int, -9223372036854775808 ≤ kp ∧ kp ≤ 9223372036854775807 ∧ ((k < n2 ∧ ∃ b2 o2 kz, A2 = some ⟨b2, o2, none⟩ ∧ w6.cell? ⟨b2, o2 + k, none⟩ = some (.int .i64 kz) ∧ bits .and .i64 kz 511 = kp) ∨ (¬ k < n2 ∧ kp = 0)) := by
        by_cases h2 : k < n2
        · obtain ⟨b2, o2, hA2, _, _, hx2⟩ := HH.out.2.2.2.1.plain (by omega) (by omega)
          have hkz : ks[k]? = some (ks[k]'(by omega)) := List.getElem?_eq_getElem _
          generalize ks[k]'(by omega) = kz at hkz
          obtain ⟨C, hC, hCl⟩ := and_511 kz
          exact ⟨_, by rw [hC]; omega, by rw [hC]; omega, .inl ⟨h2, b2, o2, kz, hA2, H7.out.1.chg.cell (hx2 k _ (by rw [List.getElem?_map, hkz]; rfl)) (fun h => h), rfl⟩⟩
        · exact ⟨0, by omega, by omega, .inr ⟨h2, rfl⟩⟩
      obtain ⟨kp, hkp1, hkp2, hkeep⟩ := hkeep
      have hcr := dcrash_any H7.out.1.dk kp hkp1 hkp2 (by have := HW.out.2.1; omega)
      have HCr := Hid.mk (And.intro hcr (HW.out.2.2 kp))
      clear hcr
      go_upto_if 73 with fail
      go_cut [11] from 24 to 108 (fun q wx => q = .int .i64 kp ∧ wx = w6)
      case first =>
        rcases hkeep with ⟨h2, b2, o2, kz, hA2, hz2', hkk⟩ | ⟨h2, hkk⟩
        · subst hA2
          have hd2 : decide (k < n2) = true := decide_eq_true h2
          go_wp2_with fail
          go_meet
          exact ⟨rfl, rfl⟩
        · subst hkk
          have hd2 : decide (k < n2) = false := decide_eq_false h2
          go_wp2_with fail
          go_meet
          exact ⟨rfl, rfl⟩
      case rest =>
        obtain ⟨rfl, rfl⟩ := hcut
        clear hkeep
        go_wp2_with fail
        refine HCr.out.1.mono ?_
        rintro e w8 ⟨⟨v8, rfl⟩, c8, d8⟩
        have H8 := Hid.mk (And.intro (H7.out.1.step c8 d8) (H7.out.2.step2 c8))
        clear c8 d8
        go_wp2_with fail
        have hrd := sread_ok H8.out.1.dk 0 600 (by omega) (by rw [HCr.out.2.len]; omega) HCr.out.2.free.dead
        have htl := HCr.out.2.tells
        generalize readS (winS (DW.1.crash kp).now 0 600) = r at *
        refine hrd.mono ?_
        rintro e w9 ⟨hi9, c9⟩
        obtain ⟨A9, c9', rfl, r9⟩ := hi9.uni
        have hx9 : (snOr r).pts.length ≤ 30 := by
          cases r with
          | none => show (0 : Nat) ≤ 30; omega
          | some x => exact H5.out.2.2.2.2.2.2 x (htl x rfl)
        have H9 := Hid.mk (And.intro (H8.out.1.nil c9) (And.intro (H8.out.2.nil c9) (And.intro r9 (And.intro htl hx9))))
        clear hi9 c9 r9 htl hrd hx9
        go_wp2_with fail
        have hbx := Bk.new w9 29 #[.int .u64 ((snOr r).gen : Int), .int .u64 ((snOr r).u : Int), .slice A9 (snOr r).pts.length c9']
        have hcx : Chg Nil w9 (w9.alloc (.cells #[.int .u64 ((snOr r).gen : Int), .int .u64 ((snOr r).u : Int), .slice A9 (snOr r).pts.length c9'] 29)) := (Chg.refl _ _).alloc _
        have H10 := Hid.mk (And.intro (H9.out.1.nil hcx) (And.intro (H9.out.2.1.nil hcx) (And.intro (Rds.keep H9.out.2.2.1 hcx (fun _ _ h => h)) hbx)))
        clear hbx hcx
        generalize w9.alloc (.cells #[.int .u64 ((snOr r).gen : Int), .int .u64 ((snOr r).u : Int), .slice A9 (snOr r).pts.length c9'] 29) = wq at *
        obtain ⟨wo, hwo⟩ : ∃ wo, wo = wr := ⟨_, rfl⟩
        subst hwo
        go_loopw [15, 16] (fun f j wi => ∃ (j' : Nat) (b : Bool), j' ≤ k + 1 ∧ j = .int .i64 (j' : Int) ∧ f = .bool b ∧ Hid (Chg Nil wq wi) ∧ Hid (b = true ∨ ∃ x, r = some x ∧ ∀ t, t < j' → L'[t]? ≠ some x)) (fun _ j _ => k + 1 - (intOf j).toNat)
        case atStart =>
          refine ⟨0, r.isNone, Nat.zero_le _, rfl, rfl, Hid.mk (Chg.refl _ _), Hid.mk ?_⟩
          cases r with
          | none => exact .inl rfl
          | some x => exact .inr ⟨x, rfl, fun t ht => absurd ht (by omega)⟩
        case round =>
          obtain ⟨j, b, hj, rfl, rfl, hcq, hb⟩ := hrel
          by_cases hjl : j < k + 1
          · cases b with
            | true =>
              have hdj : decide (j < k + 1) = true := decide_eq_true hjl
              go_wp2_with fail
              go_quiet (fail)
              go_wp2_with fail
              go_roundw
              case rel => exact ⟨j + 1, true, by omega, by go_num, rfl, Hid.mk (hcq.out.drewN _), Hid.mk (.inl rfl)⟩
              case measure => simp [intOf]; omega
            | false =>
              obtain ⟨ga, oa, Aj, cj, t, hAj, htj, rj, cl0, cl1, cl2⟩ := H10.out.2.1.at_ H5.out.2.2.2.2.2.1 hjl
              subst hAj
              obtain ⟨x, hrx, hnx⟩ : ∃ x, r = some x ∧ ∀ t, t < j → L'[t]? ≠ some x := by
                rcases hb.out with h | h
                · cases h
                · exact h
              subst hrx
              have htl30 : t.pts.length ≤ 30 := H5.out.2.2.2.2.2.2 t (List.mem_of_getElem? htj)
              have hxl30 : x.pts.length ≤ 30 := H9.out.2.2.2.2
              have hwq : ∀ z : After wr, Chg Nil wq z.world := fun z => hcq.out.trans z.chg (fun _ _ h => h)
              have hnext : ∀ b', (b' = true ↔ x = t) → (b' = true ∨ ∃ x', some x = some x' ∧ ∀ t, t < j + 1 → L'[t]? ≠ some x') := fun b' hb' => by
                by_cases hxt : x = t
                · exact .inl (hb'.2 hxt)
                · refine .inr ⟨x, rfl, fun m hm hm2 => ?_⟩
                  rcases Nat.lt_or_ge m j with h | h
                  · exact hnx m h hm2
                  · obtain rfl : m = j := by omega
                    rw [htj] at hm2
                    injection hm2 with hm2
                    exact hxt hm2.symm
              have hiff : eqB (x = t) = true ↔ x = t := by
                by_cases hxt : x = t
                · exact ⟨fun _ => hxt, fun _ => eqB_true hxt⟩
                · exact ⟨fun h => absurd (eqB_false hxt) (by rw [h]; decide), fun h => absurd h hxt⟩
              have hne2 := hnext (eqB (x = t)) hiff
              have hrec := fun z : After wr => (same14_any x.gen x.u t.gen t.u A9 Aj x.pts.length t.pts.length c9' cj x.pts t.pts _ _ z.world (Rds.keep H10.out.2.2.1 (hwq z) (fun _ _ h => h)) (Rds.keep rj (hwq z) (fun _ _ h => h)) (by omega) (by omega)).mono fun e w' ⟨h1, h2⟩ => And.intro h1 (After.chgN z h2)
              have cx0 : ∀ z : After wr, z.world.cell? ⟨w9.heap.size, 0, none⟩ = some (.int .u64 (x.gen : Int)) := fun z => (hwq z).cell (H10.out.2.2.2.cell 0 rfl) (fun h => h)
              have cx1 : ∀ z : After wr, z.world.cell? ⟨w9.heap.size, 1, none⟩ = some (.int .u64 (x.u : Int)) := fun z => (hwq z).cell (H10.out.2.2.2.cell 1 rfl) (fun h => h)
              have cx2 : ∀ z : After wr, z.world.cell? ⟨w9.heap.size, 2, none⟩ = some (.slice A9 x.pts.length c9') := fun z => (hwq z).cell (H10.out.2.2.2.cell 2 rfl) (fun h => h)
              have cy0 : ∀ z : After wr, z.world.cell? ⟨ga, oa + j * 3, none⟩ = some (.int .u64 (t.gen : Int)) := fun z => (hwq z).cell cl0 (fun h => h)
              have cy1 : ∀ z : After wr, z.world.cell? ⟨ga, oa + j * 3 + 1, none⟩ = some (.int .u64 (t.u : Int)) := fun z => (hwq z).cell cl1 (fun h => h)
              have cy2 : ∀ z : After wr, z.world.cell? ⟨ga, oa + j * 3 + 2, none⟩ = some (.slice Aj t.pts.length cj) := fun z => (hwq z).cell cl2 (fun h => h)
              have hHid := Hid.mk (And.intro hrec hne2)
              clear hrec hne2 hnext hiff hnx hb cl0 cl1 cl2 rj htj
              generalize eqB (x = t) = bb at *
              have hdj : decide (j < k + 1) = true := decide_eq_true hjl
              have hne := After.some wr
              go_upto_region 25 with fail
              refine wp_region_after (by kernel_rfl) (by kernel_rfl) ?_
              repeat (go_big_quiet_step (exact hHid.out.1 _))
              refine wpQuiet_nil ?_
              rintro _ ⟨z, rfl⟩
              have HZ := Hid.mk (hwq z)
              clear hwq cx0 cx1 cx2 cy0 cy1 cy2
              go_wp2_with fail
              go_roundw
              case rel => exact ⟨j + 1, bb, by omega, by go_num, rfl, Hid.mk HZ.out, Hid.mk hHid.out.2⟩
              case measure => simp [intOf]; omega
          · obtain rfl : j = k + 1 := by omega
            have hbt : b = true := by
              rcases hb.out with h | ⟨x, hx, hn⟩
              · exact h
              · have hm := H9.out.2.2.2.1 x hx
                obtain ⟨m, hml, hme⟩ := List.mem_iff_getElem.1 hm
                have hLl := H5.out.2.2.2.2.2.1
                exact absurd (by rw [List.getElem?_eq_getElem hml, hme]) (hn m (by omega))
            subst hbt
            have hdj : decide (k + 1 < k + 1) = false := decide_eq_false (by omega)
            clear hb
            go_wp2_with fail
            go_roundw
            case rel => exact ⟨k + 1, A4, c4, M6, R6, _, L', by omega, by omega, by omega, by go_num, rfl, Hid.mk ⟨H10.out.1.nil hcq.out, HCr.out.2, H10.out.2.1.nil hcq.out, H5.out.2.2.2.2.2.1, H5.out.2.2.2.2.2.2⟩⟩
            case measure => simp [intOf]; omega
    · have hex : (decide (k < n0) = false) ∨ (decide (k < n0) = true ∧ decide (k < n1) = false) ∨ (decide (k < n0) = true ∧ decide (k < n1) = true ∧ decide ((k : Int) < 8) = false) := by
        by_cases h0 : k < n0
        · by_cases h1 : k < n1
          · exact .inr (.inr ⟨decide_eq_true h0, decide_eq_true h1, decide_eq_false (by omega)⟩)
          · exact .inr (.inl ⟨decide_eq_true h0, decide_eq_false h1⟩)
        · exact .inl (decide_eq_false h0)
      have hok : Sn.ok ⟨99, 5, [⟨4, 0, 0, 9⟩]⟩ = true := by decide
      have hbl : (Sn.bytes ⟨99, 5, [⟨4, 0, 0, 9⟩]⟩).length = 36 := by rw [Sn.len]; rfl
      obtain ⟨f1, f2, f3, f4⟩ := slot_free_all HK.out.2.1.clean HK.out.2.1.free 0 (Sn.bytes ⟨99, 5, [⟨4, 0, 0, 9⟩]⟩) (by rw [hbl, HK.out.2.1.len]; omega)
      have hlw : (slotW D 0 (Sn.bytes ⟨99, 5, [⟨4, 0, 0, 9⟩]⟩)).1.now.length = 600 := by rw [slotW_len (by rw [hbl, HK.out.2.1.len]; omega), HK.out.2.1.len]
      have hrd : readS (winS ((slotW D 0 (Sn.bytes ⟨99, 5, [⟨4, 0, 0, 9⟩]⟩)).1.crash 0).now 0 600) = some ⟨99, 5, [⟨4, 0, 0, 9⟩]⟩ := by
        rw [clean_crash_now f3, f4]
        exact new_read hok (by rw [HK.out.2.1.len]; omega) (by rw [hbl]; omega)
      have hlc : ((slotW D 0 (Sn.bytes ⟨99, 5, [⟨4, 0, 0, 9⟩]⟩)).1.crash 0).now.length = 600 := by rw [clean_crash_now f3, hlw]
      have hwr := fun (W : World) (A : Option Addr) (c : Nat) (S : Nat → Prop) (hD : Dk W g M R D) (hr : RdP W S A 1 [⟨4, 0, 0, 9⟩]) => swrite_go hD 0 600 99 5 A 1 c [⟨4, 0, 0, 9⟩] S hr (by omega) (by rw [HK.out.2.1.len]; omega) hok (by rw [hbl]; omega) (by rw [HK.out.2.1.clean.waits]; show (0 : Nat) ≤ _; omega)
      rw [f1] at hwr
      have hwl : (slotW D 0 (Sn.bytes ⟨99, 5, [⟨4, 0, 0, 9⟩]⟩)).1.waits.length ≤ 1000000 := by rw [f3.waits]; show (0 : Nat) ≤ _; omega
      generalize (slotW D 0 (Sn.bytes ⟨99, 5, [⟨4, 0, 0, 9⟩]⟩)).1 = D1 at *
      have HF := Hid.mk (And.intro hwr (And.intro hwl (And.intro hrd hlc)))
      have HL := Hid.mk HK.out.1
      have hp1 := rdp_one wr ⟨4, 0, 0, 9⟩
      have HP1 := Hid.mk hp1
      clear hwr hwl hrd hlc hlw f1 f2 f3 f4 hok hbl hgo hp1 HK
      rcases hex with e1 | ⟨e1, e2⟩ | ⟨e1, e2, e3⟩
      all_goals
        go_wp2_with fail
        have hrow : RdP (wr.alloc (.cells #[.int .i64 4, .int .i64 0, .int .i64 0, .int .i64 9] 42)) (fun k => k = wr.heap.size) (some ⟨wr.heap.size, 0, none⟩) 1 [⟨4, 0, 0, 9⟩] := HP1.out
        have hL2 := HL.out.nil ((Chg.refl Nil wr).alloc (.cells #[.int .i64 4, .int .i64 0, .int .i64 0, .int .i64 9] 42))
        have hsz2 : (wr.alloc (.cells #[.int .i64 4, .int .i64 0, .int .i64 0, .int .i64 9] 42)).heap.size = wr.heap.size + 1 := by simp
        generalize wr.alloc (.cells #[.int .i64 4, .int .i64 0, .int .i64 0, .int .i64 9] 42) = w2 at *
        have hMw : ∀ j, M j ∨ R j → j < wr.heap.size := fun j hj => HL.out.dk.lt j hj
        have hV3 := Var.new hL2.dk 29 #[.int .u64 99, .int .u64 5, .slice (some ⟨wr.heap.size, 0, none⟩) 1 1]
        rw [hsz2] at hV3
        have hc3 : Chg Nil w2 (w2.alloc (.cells #[.int .u64 99, .int .u64 5, .slice (some ⟨wr.heap.size, 0, none⟩) 1 1] 29)) := (Chg.refl _ _).alloc _
        have hK3 : Kept (w2.alloc (.cells #[.int .u64 99, .int .u64 5, .slice (some ⟨wr.heap.size, 0, none⟩) 1 1] 29)) M (some ⟨wr.heap.size, 0, none⟩) 1 [⟨4, 0, 0, 9⟩] := ⟨⟨_, Rds.keep hrow hc3 (fun _ _ h => h), fun k hk => ⟨by have h1 : k = wr.heap.size := hk; simp; omega, fun hm => by have h1 : k = wr.heap.size := hk; have := hMw k (.inl hm); omega⟩⟩⟩
        have H3 := Hid.mk (And.intro (hL2.nil hc3) (And.intro hV3 hK3))
        clear hL2 hV3 hc3 hK3 hMw hrow
        refine (HF.out.1 _ _ _ _ H3.out.1.dk H3.out.2.2.rd).mono ?_
        rintro e w4 ⟨M4, R4, rfl, ww4, d4⟩
        have H4 := Hid.mk (And.intro (H3.out.1.went ww4 d4) (And.intro (H3.out.2.1.went ww4) (H3.out.2.2.went ww4)))
        clear ww4 d4
        go_wp2_with fail
        refine (dcrash_any H4.out.1.dk 0 (by omega) (by omega) HF.out.2.1).mono ?_
        rintro e w5 ⟨⟨v5, rfl⟩, c5, d5⟩
        have H5 := Hid.mk (And.intro (H4.out.1.step c5 d5) (And.intro (H4.out.2.1.step c5) (H4.out.2.2.step c5)))
        clear c5 d5
        go_wp2_with fail
        have hrd := sread_ok H5.out.1.dk 0 600 (by omega) (by rw [HF.out.2.2.2]; omega) rfl
        rw [HF.out.2.2.1] at hrd
        refine hrd.mono ?_
        rintro e w6 ⟨⟨A6, c6', rfl, o6⟩, c6⟩
        have hMw : ∀ j, M4 j → j < w5.heap.size := fun j hj => H5.out.1.dk.lt j (.inl hj)
        have hK6 : Kept w6 M4 A6 1 [⟨4, 0, 0, 9⟩] := Kept.new ((Rds.of_own o6).wider (fun k _ hk => own_ge o6 k hk) (by omega)) hMw
        have H6 := Hid.mk (And.intro (H5.out.1.nil c6) (And.intro (H5.out.2.1.nil c6) (And.intro (H5.out.2.2.nil c6) hK6)))
        obtain ⟨y0, y1, y2⟩ := H6.out.2.1.c3
        have ylt := H6.out.2.1.bk.lt
        clear c6 o6 hMw hK6 hrd
        go_wp2_with fail
        have hS := same_self (W := w6.alloc (.cells #[.int .u64 99, .int .u64 5, .slice A6 1 c6'] 29)) ⟨99, 5, [⟨4, 0, 0, 9⟩]⟩ A6 (some ⟨wr.heap.size, 0, none⟩) c6' 1 H6.out.2.2.2 H6.out.2.2.1 ((Chg.refl _ _).alloc _) (by show (1 : Nat) ≤ _; omega)
        refine hS.mono ?_
        rintro e w7 ⟨rfl, c7⟩
        have H7 := Hid.mk ((H6.out.1.chg.alloc _).trans c7 (fun _ _ h => h))
        clear c7 hS
        go_wp2_with fail
        refine (HA.out _).mono ?_
        rintro e w8 ⟨rfl, c8⟩
        have H8 := Hid.mk (H7.out.trans c8 (fun _ _ h => h))
        clear c8
        go_wp2_with fail
        go_ret
        exact ⟨rfl, H8.out.below_nil⟩

end Go.Proofs.Ytomlmedfiajfkaa
