/- The contracts of the document's Unnumber, RecMay and Scan. -/
import Derived.Test.YtmbmfhpdajdpfaaText
namespace Go.Proofs.Ytmbmfhpdajdpfaa
open Go.RowKit

theorem str_at {l : List UInt8} {j : Nat} (h : j < l.length) : (ByteArray.mk l.toArray)[j]'(by simpa [ByteArray.size] using h) = l[j] := by
  simp [ByteArray.getElem_eq_getElem_data]

set_option maxHeartbeats 400000 in
set_option maxRecDepth 100000 in
theorem unnumber_any (l : List UInt8) (w : World) (hl : l.length ≤ 8) :
    Calls Try.prog 38 #[.string ⟨l.toArray⟩] w fun e w' => e = .returned (.int .u64 (unB l : Nat)) ∧ w = w' := by
  have hsz : (ByteArray.mk l.toArray).size = l.length := by simp [ByteArray.size]
  go_enter Try.func38, Try.ntmps38
  go_wp2_with fail
  go_loop [3, 4] (fun n i => ∃ k : Nat, k ≤ l.length ∧ i = .int .i64 k ∧ n = .int .u64 (unB (l.take k) : Nat)) (fun _ i => l.length - (intOf i).toNat)
  case atStart => exact ⟨0, Nat.zero_le _, rfl, rfl⟩
  case round =>
    obtain ⟨k, hk, rfl, rfl⟩ := hrel
    by_cases hlt : k < l.length
    · have hs := unB_take l k hlt
      have hN := unB_take_lt l k (by omega)
      have h256 := l[k].toNat_lt
      have hv := shl_or_val _ _ hN h256
      have hat := str_at hlt
      generalize hb : l[k] = b at *
      generalize unB (l.take k) = N at *
      have HV := Hid.mk (And.intro hv (And.intro hs hN))
      clear hv hs hN
      go_wp2_with fail
      go_round
      case rel => exact ⟨k + 1, by omega, by go_num, by rw [HV.out.1, HV.out.2.1]⟩
      case measure => simp [intOf]; omega
    · have : k = l.length := by omega
      subst this
      go_wp2_with fail
      go_ret
      exact ⟨by simp, rfl⟩

/-- The error of Put. -/
def recMayR (gen n : Nat) : Nat := if 400000 < n then 11 else if gen < 1 ∨ 4611686018427387904 < gen then 1 else 0

set_option maxHeartbeats 400000 in
set_option maxRecDepth 100000 in
theorem recMay_any (gen n : Nat) (w : World) (hn : n ≤ 1000000) :
    Calls Try.prog 16 #[.int .u64 gen, .int .i64 n] w fun e w' => e = .returned (.int .i64 (recMayR gen n : Nat)) ∧ w = w' := by
  unfold recMayR
  by_cases h1 : 400000 < n
  · rw [if_pos h1]
    go_enter Try.func16, Try.ntmps16
    go_wp2
    go_ret
    exact ⟨rfl, rfl⟩
  · rw [if_neg h1]
    by_cases h2 : gen < 1
    · obtain rfl : gen = 0 := by omega
      rw [if_pos (by omega)]
      clear h2
      go_enter Try.func16, Try.ntmps16
      go_wp2
      go_ret
      exact ⟨rfl, rfl⟩
    · have h3 : 1 ≤ gen := by omega
      by_cases h4 : 4611686018427387904 < gen
      · rw [if_pos (Or.inr h4)]
        have h5 : decide ((4611686018427387904 : Int) < gen) = true := by simp; omega
        clear h4 h2
        go_enter Try.func16, Try.ntmps16
        go_wp2
        go_ret
        exact ⟨rfl, rfl⟩
      · rw [if_neg (by omega)]
        have h5 : decide ((4611686018427387904 : Int) < gen) = false := by simp; omega
        clear h4 h2
        go_enter Try.func16, Try.ntmps16
        go_wp2
        go_ret
        exact ⟨rfl, rfl⟩

theorem Try.infoStr : (Try.prog.info? 9).map (fun i => (i.zero, i.size, i.bytes)) = some (some (.string ⟨#[]⟩), 1, 16) := by kernel_rfl

theorem run_str_part {P : Program} (t : TypeId) (ht : P.underlying t = some .string) (l : List UInt8) (a b : Nat) (kd kd' : IntKind) (hab : a ≤ b) (hb : b ≤ l.length) (w : World) :
    (Instr.slice t (.string ⟨l.toArray⟩) (some (.int kd (a : Int))) (some (.int kd' (b : Int))) none).run P w = .ok (.string ⟨((l.drop a).take (b - a)).toArray⟩) w := by
  have hs : (ByteArray.mk l.toArray).size = l.length := by simp [ByteArray.size]
  simp [Instr.slice, Instr.sliceBounds, run_underlying ht, hs, run_bound_in w kd a b _ hab, run_bound_in w kd' b l.length _ hb]
  apply ByteArray.ext
  simp [ByteArray.data_extract, List.take_drop]

theorem scanA_stop {gen : Nat} {x : List UInt8} (h : oneR gen x = none) : scanA gen x = ([], 0) := by
  unfold scanA
  split
  · rfl
  · exact scanR_none h
theorem scanA_bad {gen : Nat} {x : List UInt8} (h : gen < 1 ∨ 4611686018427387904 < gen) : scanA gen x = ([], 0) := by
  unfold scanA
  rw [if_pos h]
theorem scanA_go {gen : Nat} {x body : List UInt8} (hg : ¬ (gen < 1 ∨ 4611686018427387904 < gen)) (h : oneR gen x = some body) :
    scanA gen x = (body :: (scanA gen (x.drop (body.length + 13))).1, body.length + 13 + (scanA gen (x.drop (body.length + 13))).2) := by
  unfold scanA
  rw [if_neg hg, if_neg hg, scanR_some h]
theorem oneR_short {gen : Nat} {x : List UInt8} (h : x.length ≤ 12) : oneR gen x = none := by
  unfold oneR
  rw [if_pos h]
theorem oneR_long {gen : Nat} {x : List UInt8} (h : 12 < x.length) : oneR gen x = if x[0]? ≠ some 165 then none else if unB ((x.drop 1).take 8) ≠ gen then none else if 400000 < unB ((x.drop 9).take 3) then none
    else if x.length - 12 ≤ unB ((x.drop 9).take 3) then none else if (x.drop 12)[unB ((x.drop 9).take 3)]? ≠ some 90 then none else some ((x.drop 12).take (unB ((x.drop 9).take 3))) := by
  unfold oneR
  rw [if_neg (by omega)]

/-- What the document's Scan answers. -/
def RScanIs (B : Nat) (r : List (List UInt8) × Nat) (e : Ending) (w' : World) : Prop :=
  ∃ v, e = .returned (.tuple #[v, .int .i64 r.2]) ∧ w'.ownsRow B 9 1 v r.1.length (r.1.map sv)

set_option maxHeartbeats 2000000 in
set_option maxRecDepth 100000 in
theorem rscan_any (gen : Nat) (bs : List UInt8) (w : World) (hgm : gen < 18446744073709551616) (hn : bs.length ≤ 1000000) :
    Calls Try.prog 18 #[.string ⟨bs.toArray⟩, .int .u64 gen] w fun e w' => RScanIs w.heap.size (scanA gen bs) e w' ∧ Below w.heap.size w w' := by
  obtain ⟨j0, hj, hy0, hy1, hy2⟩ := info_parts Try.infoStr
  have hsz : (ByteArray.mk bs.toArray).size = bs.length := by simp [ByteArray.size]
  generalize hn' : bs.length = n at *
  have HH := Hid.mk (And.intro hn' hgm)
  clear hn' hgm
  go_enter Try.func18, Try.ntmps18
  go_wp2_with fail
  go_loopw [6, 7] (fun vb ve wr => ∃ (acc : List (List UInt8)) (e : Nat), ve = .int .i64 e ∧ e ≤ n ∧
      scanA gen bs = (acc ++ (scanA gen (bs.drop e)).1, e + (scanA gen (bs.drop e)).2) ∧ acc.length ≤ e ∧ wr.ownsRow w.heap.size 9 1 vb acc.length (acc.map sv) ∧ Below w.heap.size w wr) (fun _ ve _ => n - (intOf ve).toNat)
  case atStart => exact ⟨[], 0, rfl, Nat.zero_le _, by simp, Nat.le_refl _, World.ownsRow_nil _ _ _ _, Below.refl _ _⟩
  case round =>
    obtain ⟨acc, e, rfl, he, hscan, hacc, hown, hbel⟩ := hrel
    have hxl : (bs.drop e).length = n - e := by rw [List.length_drop, HH.out.1]
    by_cases h13 : n - e ≤ 12
    · have hsc : scanA gen bs = (acc, e) := by rw [hscan, scanA_stop (oneR_short (by rw [hxl]; exact h13))]; simp
      have HR := Hid.mk (And.intro hsc (And.intro hown hbel))
      clear hscan hown hbel hxl
      go_wp2_with fail
      go_ret2
      try rw [HR.out.1]
      exact ⟨⟨u6, rfl, HR.out.2.1⟩, HR.out.2.2⟩
    · have hone := oneR_long (gen := gen) (x := bs.drop e) (by omega)
      have hbe : e < bs.length := by rw [HH.out.1]; omega
      have hx0 : (bs.drop e)[0]? = some bs[e] := by rw [List.getElem?_drop, Nat.add_zero, List.getElem?_eq_getElem hbe]
      have hat := str_at hbe
      rw [hx0] at hone
      by_cases h165 : bs[e].toNat = 165
      · have h165' : bs[e] = 165 := UInt8.toNat_inj.1 h165
        have hce : ((bs[e].toNat : Int) == 165) = true := by rw [h165]; rfl
        have hb165 : bs[e] = 165 := UInt8.toNat_inj.1 h165
        rw [if_neg (by rw [hb165]; simp)] at hone
        have h256 := bs[e].toNat_lt
        have hlen := HH.out.1
        generalize bs[e] = b at *
        have hst1 := fun W => run_str_part (P := Try.prog) 9 Try.underlying9 bs (e + 1) (e + 9) .i64 .i64 (by omega) (by omega) W
        have hst2 := fun W => run_str_part (P := Try.prog) 9 Try.underlying9 bs (e + 9) (e + 12) .i64 .i64 (by omega) (by omega) W
        rw [show e + 9 - (e + 1) = 8 by omega, show ((e + 1 : Nat) : Int) = (e : Int) + 1 by omega, show ((e + 9 : Nat) : Int) = (e : Int) + 9 by omega] at hst1
        rw [show e + 12 - (e + 9) = 3 by omega, show ((e + 12 : Nat) : Int) = (e : Int) + 12 by omega, show ((e + 9 : Nat) : Int) = (e : Int) + 9 by omega] at hst2
        have e1 : ((bs.drop e).drop 1).take 8 = (bs.drop (e + 1)).take 8 := by rw [List.drop_drop]
        have e2 : ((bs.drop e).drop 9).take 3 = (bs.drop (e + 9)).take 3 := by rw [List.drop_drop]
        have e3 : (bs.drop e).drop 12 = bs.drop (e + 12) := by rw [List.drop_drop]
        rw [e1, e2, e3, hxl] at hone
        have l8 : ((bs.drop (e + 1)).take 8).length ≤ 8 := by rw [List.length_take]; omega
        have l3 : ((bs.drop (e + 9)).take 3).length ≤ 3 := by rw [List.length_take]; omega
        have hL : unB ((bs.drop (e + 9)).take 3) < 16777216 := Nat.lt_of_lt_of_le (unB_lt _) (Nat.pow_le_pow_right (by omega) l3 : 256 ^ _ ≤ 256 ^ 3)
        generalize hs8 : (bs.drop (e + 1)).take 8 = s8 at *
        generalize hs3 : (bs.drop (e + 9)).take 3 = s3 at *
        generalize hG : unB s8 = G at *
        generalize hLe : unB s3 = L at *
        have HR := Hid.mk (And.intro hscan (And.intro hown (And.intro hbel (And.intro hG (And.intro hLe (And.intro hone hlen))))))
        clear hscan hown hbel hone hx0 h165 h165' hb165 hG hLe e1 e2 e3 hs8 hs3 hlen hxl
        go_wp2_with fail
        refine (unnumber_any s8 wr l8).mono ?_
        rintro er w1 ⟨her, rfl⟩
        rw [HR.out.2.2.2.1] at her
        subst her
        by_cases hGg : G = gen
        · have hGb : ((G : Int) == gen) = true := by simp; omega
          go_wp2_with fail
          have hrm : Calls Try.prog 16 #[.int .u64 gen, .int .i64 0] wr fun e w' => e = .returned (.int .i64 (recMayR gen 0 : Nat)) ∧ wr = w' := recMay_any gen 0 wr (by omega)
          refine hrm.mono ?_
          rintro er w1 ⟨her, rfl⟩
          clear hrm
          by_cases hbad : gen < 1 ∨ 4611686018427387904 < gen
          · have hr1 : recMayR gen 0 = 1 := by unfold recMayR; rw [if_neg (by omega), if_pos hbad]
            rw [hr1] at her
            have her' : er = .returned (.int .i64 1) := her
            subst her'
            have HS := Hid.mk (show scanA gen bs = (acc, e) by rw [HR.out.1, scanA_bad hbad]; simp)
            clear hbad her hr1
            go_wp2_with fail
            go_ret2
            try rw [HS.out]
            exact ⟨⟨u6, rfl, HR.out.2.1⟩, HR.out.2.2.1⟩
          · have hr0 : recMayR gen 0 = 0 := by unfold recMayR; rw [if_neg (by omega), if_neg hbad]
            rw [hr0] at her
            have her' : er = .returned (.int .i64 0) := her
            subst her'
            clear her hr0
            have HB := Hid.mk hbad
            clear hbad
            have hone := HR.out.2.2.2.2.2.1
            rw [if_neg (by simpa using hGg)] at hone
            go_wp2_with fail
            refine (unnumber_any s3 wr (by omega)).mono ?_
            rintro er w1 ⟨her, rfl⟩
            rw [HR.out.2.2.2.2.1] at her
            subst her
            by_cases h4 : 400000 < L
            · rw [if_pos h4] at hone
              have HS := Hid.mk (show scanA gen bs = (acc, e) by rw [HR.out.1, scanA_stop hone]; simp)
              clear hone
              go_wp2_with fail
              go_ret2
              try rw [HS.out]
              exact ⟨⟨u6, rfl, HR.out.2.1⟩, HR.out.2.2.1⟩
            · rw [if_neg h4] at hone
              by_cases h5 : n - e - 12 ≤ L
              · rw [if_pos h5] at hone
                have HS := Hid.mk (show scanA gen bs = (acc, e) by rw [HR.out.1, scanA_stop hone]; simp)
                clear hone
                go_wp2_with fail
                go_ret2
                try rw [HS.out]
                exact ⟨⟨u6, rfl, HR.out.2.1⟩, HR.out.2.2.1⟩
              · rw [if_neg h5] at hone
                have hbL : e + 12 + L < bs.length := by rw [HR.out.2.2.2.2.2.2]; omega
                have hatL := str_at hbL
                have hgL : (bs.drop (e + 12))[L]? = some bs[e + 12 + L] := by rw [List.getElem?_drop, List.getElem?_eq_getElem hbL]
                rw [hgL] at hone
                by_cases h90 : bs[e + 12 + L].toNat = 90
                · have h9 : bs[e + 12 + L] = 90 := UInt8.toNat_inj.1 h90
                  rw [if_neg (by rw [h9]; simp)] at hone
                  have hb9 : ((bs[e + 12 + L].toNat : Int) != 90) = false := by rw [h90]; rfl
                  have h256' := bs[e + 12 + L].toNat_lt
                  generalize bs[e + 12 + L] = b9 at *
                  have hst3 := fun W => run_str_part (P := Try.prog) 9 Try.underlying9 bs (e + 12) (e + 12 + L) .i64 .i64 (by omega) (by omega) W
                  rw [show e + 12 + L - (e + 12) = L by omega, show ((e + 12 + L : Nat) : Int) = (e : Int) + 12 + (L : Int) by omega, show ((e + 12 : Nat) : Int) = (e : Int) + 12 by omega] at hst3
                  have hbl : ((bs.drop (e + 12)).take L).length = L := by rw [List.length_take, List.length_drop, HR.out.2.2.2.2.2.2]; omega
                  have hgo : scanA gen bs = ((acc ++ [(bs.drop (e + 12)).take L]) ++ (scanA gen (bs.drop (e + 13 + L))).1, e + 13 + L + (scanA gen (bs.drop (e + 13 + L))).2) := by
                    rw [HR.out.1, scanA_go HB.out hone, hbl, List.drop_drop, show e + (L + 13) = e + 13 + L by omega]
                    simp
                    omega
                  generalize (bs.drop (e + 12)).take L = body at *
                  have HS := Hid.mk (And.intro hgo hbl)
                  clear hgo hbl hone hgL h9 h90 hst1 hst2
                  go_wp2_with (at_builtin; refine wpl_append rfl (.tmp 64) (.tmp 73) 37 rfl w.heap.size 9 j0 _ 1 16 Try.underlying37 hj hy0 hy1 hy2 rfl (by omega) _ _ _ rfl (HR.out.2.1.alloc _) _ _ 1 1 _ rfl (rds_one _ _ _) (by intro u hu; simp at hu; subst hu; rfl) (by simp only [maxLen]; omega) (by omega) (by have := HR.out.2.2.1.size; simp; omega) ?_; intro v2 w2 o2 g2; have H2 := Hid.mk (And.intro o2 g2); clear o2 g2)
                  go_roundw
                  case rel =>
                    refine ⟨acc ++ [body], e + 13 + L, by go_num, by omega, HS.out.1, by simp; omega, by simpa [sv] using H2.out.1, ?_⟩
                    exact H2.out.2.alloc_left.chg.below HR.out.2.2.1 HR.out.2.2.1.size (fun i _ hi => own_ge HR.out.2.1 i hi)
                  case measure => simp [intOf]; omega
                · have h9 : bs[e + 12 + L] ≠ 90 := fun h => h90 (by rw [h]; rfl)
                  rw [if_pos (by simpa using h9)] at hone
                  have HS := Hid.mk (show scanA gen bs = (acc, e) by rw [HR.out.1, scanA_stop hone]; simp)
                  have hb9 : ((bs[e + 12 + L].toNat : Int) != 90) = true := by simp; omega
                  have h256' := bs[e + 12 + L].toNat_lt
                  generalize bs[e + 12 + L] = b9 at *
                  clear hone h9 h90 hgL
                  go_wp2_with fail
                  go_ret2
                  try rw [HS.out]
                  exact ⟨⟨u6, rfl, HR.out.2.1⟩, HR.out.2.2.1⟩
        · have hone := HR.out.2.2.2.2.2.1
          rw [if_pos hGg] at hone
          have HS := Hid.mk (show scanA gen bs = (acc, e) by rw [HR.out.1, scanA_stop hone]; simp)
          have hGb : ((G : Int) == gen) = false := by simp; omega
          clear hone hGg
          go_wp2_with fail
          go_ret2
          try rw [HS.out]
          exact ⟨⟨u6, rfl, HR.out.2.1⟩, HR.out.2.2.1⟩
      · have h165' : bs[e] ≠ 165 := fun h => h165 (by rw [h]; rfl)
        rw [if_pos (by simpa using h165')] at hone
        have hsc : scanA gen bs = (acc, e) := by rw [hscan, scanA_stop hone]; simp
        generalize bs[e] = b at *
        have HR := Hid.mk (And.intro hsc (And.intro hown hbel))
        clear hscan hown hbel hxl hone hx0
        have hb : ((b.toNat : Int) == 165) = false := by simp; omega
        have h256 := b.toNat_lt
        clear h165 h165'
        go_wp2_with fail
        go_ret2
        try rw [HR.out.1]
        exact ⟨⟨u6, rfl, HR.out.2.1⟩, HR.out.2.2⟩
end Go.Proofs.Ytmbmfhpdajdpfaa
