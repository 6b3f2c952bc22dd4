/- Joined for this seat from: XSHostile. -/
import Derived.Deep.RegionHeld3
import Derived.Deep.CutRange
import Derived.Test.YtanipieeegeheaaTf
namespace Go.Proofs.Ytanipieeegeheaa
open Go.RowKit

theorem unB_inj : ∀ (n : Nat) (a b : List UInt8), a.length = n → b.length = n → unB a = unB b → a = b := by
  intro n
  induction n with
  | zero => intro a b ha hb _; rw [List.eq_nil_of_length_eq_zero ha, List.eq_nil_of_length_eq_zero hb]
  | succ n ih =>
    intro a b ha hb h
    have na : a ≠ [] := fun h0 => by rw [h0] at ha; cases ha
    have nb : b ≠ [] := fun h0 => by rw [h0] at hb; cases hb
    have ea := List.dropLast_concat_getLast na
    have eb := List.dropLast_concat_getLast nb
    rw [← ea, ← eb] at h ⊢
    rw [unB_snoc, unB_snoc] at h
    have ca := (a.getLast na).toNat_lt
    have cb := (b.getLast nb).toNat_lt
    have h1 : unB a.dropLast = unB b.dropLast := by omega
    have h2 : (a.getLast na).toNat = (b.getLast nb).toNat := by omega
    rw [ih a.dropLast b.dropLast (by rw [List.length_dropLast]; omega) (by rw [List.length_dropLast]; omega) h1, UInt8.toNat_inj.1 h2]
theorem numB_unB (xs : List UInt8) : numB (unB xs) xs.length = xs :=
  unB_inj xs.length _ _ (numB_len _ _) rfl (by rw [unB_numB, Nat.mod_eq_of_lt (unB_lt xs)])
theorem oneR_sound {g : Nat} {bs body : List UInt8} (h : oneR g bs = some body) : bs = recB g body ++ bs.drop (body.length + 13) := by
  unfold oneR at h
  split at h
  · cases h
  · rename_i h0
    split at h
    · cases h
    · rename_i h1
      split at h
      · cases h
      · rename_i h2
        split at h
        · cases h
        · rename_i h3
          split at h
          · cases h
          · rename_i h4
            split at h
            · cases h
            · rename_i h5
              injection h with h
              have h1 := Decidable.of_not_not h1
              have h2 := Decidable.of_not_not h2
              have h5 := Decidable.of_not_not h5
              have hbl : body.length = unB ((bs.drop 9).take 3) := by rw [← h, List.length_take, List.length_drop]; omega
              have l8 : ((bs.drop 1).take 8).length = 8 := by rw [List.length_take, List.length_drop]; omega
              have l3 : ((bs.drop 9).take 3).length = 3 := by rw [List.length_take, List.length_drop]; omega
              have n8 : numB g 8 = (bs.drop 1).take 8 := by have := numB_unB ((bs.drop 1).take 8); rw [l8, h2] at this; exact this
              have n3 : numB body.length 3 = (bs.drop 9).take 3 := by have := numB_unB ((bs.drop 9).take 3); rw [l3, ← hbl] at this; exact this
              rw [← hbl] at h h5 h4
              have d0 : bs = 165 :: bs.drop 1 := by
                cases bs with
                | nil => cases h1
                | cons c t =>
                  have : c = 165 := by simpa using h1
                  rw [this]; rfl
              have d1 : bs.drop 1 = (bs.drop 1).take 8 ++ bs.drop 9 := by
                have := (List.take_append_drop 8 (bs.drop 1)).symm
                rwa [List.drop_drop] at this
              have d2 : bs.drop 9 = (bs.drop 9).take 3 ++ bs.drop 12 := by
                have := (List.take_append_drop 3 (bs.drop 9)).symm
                rwa [List.drop_drop] at this
              have d3 : bs.drop 12 = body ++ bs.drop (12 + body.length) := by
                have := (List.take_append_drop body.length (bs.drop 12)).symm
                rwa [List.drop_drop, h] at this
              have h5' : bs[12 + body.length]? = some 90 := by rw [List.getElem?_drop] at h5; exact h5
              have d4 : bs.drop (12 + body.length) = 90 :: bs.drop (body.length + 13) := by
                have hlt : 12 + body.length < bs.length := by omega
                rw [List.drop_eq_getElem_cons hlt]
                rw [List.getElem?_eq_getElem hlt] at h5'
                injection h5' with h5'
                rw [h5', show 12 + body.length + 1 = body.length + 13 by omega]
              unfold recB
              rw [n8, n3]
              rw [List.cons_append, List.append_assoc, List.append_assoc, List.append_assoc, List.singleton_append, ← d4, ← d3, ← d2, ← d1]
              exact d0
theorem scanR_sound (g : Nat) : ∀ (k : Nat) (bs : List UInt8), ∃ t, bs = recsB g (scanR g k bs).1 ++ t := by
  intro k
  induction k with
  | zero => intro bs; exact ⟨bs, by simp [scanR, recsB]⟩
  | succ k ih =>
    intro bs
    simp only [scanR]
    cases h : oneR g bs with
    | none => exact ⟨bs, by simp [recsB]⟩
    | some body =>
      obtain ⟨t, ht⟩ := ih (bs.drop (body.length + 13))
      refine ⟨t, ?_⟩
      have h1 := oneR_sound h
      show bs = recsB g (body :: (scanR g k (bs.drop (body.length + 13))).1) ++ t
      have e : ∀ r, recsB g (body :: r) = recB g body ++ recsB g r := fun r => by simp [recsB]
      rw [e, List.append_assoc, ← ht]
      exact h1
theorem scanA_sound (g : Nat) (bs : List UInt8) : ∃ t, bs = recsB g (scanA g bs).1 ++ t := by
  unfold scanA
  split
  · exact ⟨bs, by simp [recsB]⟩
  · exact scanR_sound g _ bs
/-- Whatever the bytes: they open to a store. -/
theorem img_any (m : List UInt8) (slots log : Nat) (h1 : 21 ≤ slots) (h2 : 2 * slots + log ≤ m.length) : ∃ β σ bo, Img m β σ bo ∧ σ.slots = slots ∧ σ.log = log := by
  obtain ⟨β, hβ⟩ : ∃ β, β = pick2 slots log (readS (winS m 0 slots)) (readS (winS m slots slots)) := ⟨_, rfl⟩
  have hok : BaseOk β := by rw [hβ]; exact pick2_ok
  obtain ⟨hs, hl⟩ : β.slots = slots ∧ β.log = log := by rw [hβ]; exact pick2_dims _ _ _ _
  obtain ⟨t0, ht0⟩ := scanA_sound β.gen (winS m (2 * slots) log)
  have hfit := (scanA_fits β.gen (winS m (2 * slots) log)).2
  have hag : (scanA β.gen (winS m (2 * slots) log)).1 = (scanA β.gen (winS m (2 * slots) log)).1 := rfl
  generalize hall : (scanA β.gen (winS m (2 * slots) log)).1 = all at *
  obtain ⟨a, b, hab, hrun, hrest⟩ := replay_split all β
  have hr := runB_runs _ _ _ hrun
  generalize replayP β all = σ at *
  have hss : σ.slots = slots := by rw [hr.slots, hs]
  have hsl : σ.log = log := by rw [hr.log, hl]
  refine ⟨β, σ, a, ⟨by rw [hss, hsl]; exact hβ, hrun, fun x hx => hfit x (by rw [hab]; exact List.mem_append_left _ hx), ?_, by rw [hss, hsl]; exact h2, by rw [hss]; exact h1⟩, hss, hsl⟩
  rw [hss, hsl, hr.gen]
  refine ⟨recsB β.gen b ++ t0, ?_, ?_⟩
  · rw [ht0, hab, recsB_cat, List.append_assoc]
  · have h3 := scanA_recs β.gen a (recsB β.gen b ++ t0) ⟨hok.gen1, hok.gen2⟩ (fun x hx => hfit x (by rw [hab]; exact List.mem_append_left _ hx))
    rw [← List.append_assoc, ← recsB_cat, ← hab, ← ht0, hall, hab] at h3
    have h4 := List.append_cancel_left h3
    rw [← h4]
    exact hrest
/-- The plain law. -/
theorem hostile_plain (ys : List UInt8) (s l : Nat) (hs : 21 ≤ s) (hN : 2 * s + l ≤ 1000000) (hy : ys.length ≤ 2 * s + l) :
    ∃ σ D6, Gd s l σ D6 ∧ openS ((Dp.new (2 * s + l : Nat)).write 0 ys).sync s l = σ ∧ openD ((Dp.new (2 * s + l : Nat)).write 0 ys).sync s l = (D6, 0) ∧ openS D6 s l = σ ∧ openD D6 s l = (D6, 0) ∧
      ((Dp.new (2 * s + l : Nat)).write 0 ys).now.length = 2 * s + l ∧ σ.used ≤ l ∧ 2 * s + l ≤ D6.now.length ∧ (D6.now.drop (2 * s + l - (l - σ.used))).take (l - σ.used) = zeros (l - σ.used) := by
  have hnl : (Dp.new (2 * s + l : Nat)).now.length = 2 * s + l := new_len hN
  have hwl : ((Dp.new (2 * s + l : Nat)).write 0 ys).now.length = 2 * s + l := by
    rw [Dp.write_now, splice_len _ _ _ (by rw [hnl]; omega), hnl]
  generalize hD : (Dp.new (2 * s + l : Nat)).write 0 ys = D at *
  have hf : D.sync.free := by rw [← hD]; exact Dp.free_sync (Dp.free_write (Dp.free_new _) _ _)
  have hc : D.sync.clean := Dp.sync_clean D
  have hn : D.sync.now.length = 2 * s + l := by rw [Dp.sync_now]; exact hwl
  obtain ⟨β, σ, bo, hi, s1, s2⟩ := img_any D.sync.now s l hs (by omega)
  have o := opened_free hc hf hi
  have q1 := o.openS
  have q2 := o.res
  have q3 := Gd.of o
  have q4 := openD_again o.inv o.free.dead
  have q5 := o.inv.img.opens
  have q7 := o.inv.log
  have q8 := o.inv.used_le
  have q9 := o.inv.used_len
  rw [s1, s2] at q1 q2 q3 q4 q5 q7
  rw [s2] at q8
  have q10 := o.inv.room
  rw [s1, s2] at q10
  refine ⟨σ, _, q3, q1, Prod.ext rfl q2, q5, q4, hwl, q8, q10, ?_⟩
  have e1 : (winS (openD D.sync s l).1.now (2 * s) l).drop σ.used = zeros (l - σ.used) := by rw [q7, q9, List.drop_left]
  unfold winS at e1
  rw [List.drop_take, List.drop_drop] at e1
  rw [show 2 * s + l - (l - σ.used) = 2 * s + σ.used by omega]
  exact e1
set_option maxHeartbeats 4000000 in
set_option maxRecDepth 100000 in
theorem storeHostile_walk (A : Option Addr) (n c : Nat) (bs : List UInt8) (slots log : Int) (w : World) (hr : RdB w (fun k => k < w.heap.size) A n bs) (hnc : n ≤ c) (hcm : c ≤ maxLen) :
    Calls Try.prog 5 #[.slice A n c, .int .i64 slots, .int .i64 log] w fun e w' => e = .returned (.bool true) ∧ Chg Nil w w' := by
  have hc' : c ≤ 9223372036854775807 := by have h := hcm; unfold maxLen at h; omega
  obtain ⟨C1, hC1, hC1b⟩ := i64_and_mask slots 255 8 rfl (by omega)
  obtain ⟨l, hC2, hl⟩ := i64_and_mask log 511 9 rfl (by omega)
  obtain ⟨s, hs⟩ : ∃ s, s = C1 + 21 := ⟨_, rfl⟩
  have hs21 : 21 ≤ s := by omega
  have hs300 : s ≤ 300 := by omega
  have hC1' : bits .and .i64 slots 255 = (C1 : Int) := hC1
  have hC2' : bits .and .i64 log 511 = (l : Int) := hC2
  have hsi : (C1 : Int) + 21 = (s : Int) := by omega
  have HS := Hid.mk hsi
  obtain ⟨N, hN⟩ : ∃ N, N = 2 * s + l := ⟨_, rfl⟩
  have hNi : 2 * (s : Int) + (l : Int) = (N : Int) := by omega
  have HN := Hid.mk (And.intro hNi hN)
  have hN12 : N ≤ 1200 := by omega
  have HR := Hid.mk hr
  clear hC1 hC2 hsi hNi hN hr hs
  go_enter Try.func5, Try.ntmps5
  go_upto_region 2 with fail
  rw [HS.out]
  go_wp2_with fail
  rw [HN.out.1]
  refine (dnew_any (N : Int) w).mono ?_
  rintro e w1 ⟨gd, M, R, rfl, c1, d1, low1⟩
  have H1 := Hid.mk (Live.mk c1 d1 low1)
  clear c1 d1 low1
  by_cases hbig : 1200 < n
  · go_wp2_with fail
    refine (awake15_any w1).mono ?_
    rintro e w2 ⟨rfl, c2⟩
    have H2 := Hid.mk (H1.out.chg.trans c2 (fun _ _ h => h))
    clear c2
    go_wp2_with fail
    go_ret
    exact ⟨rfl, H2.out⟩
  · have hnl : (Dp.new (N : Nat)).now.length = N := new_len (by omega)
    have hNi := HN.out.1
    have hRB := HR.out
    have hbl := hRB.len
    clear hRB
    by_cases hnN : n ≤ N
    · go_wp2_with fail
      have hwr := dwrite_ok H1.out.dk 0 A n c (bs.take n) ((HR.out.front (by omega)).keep H1.out.chg (fun _ _ h => h)) (fun k hk hm => by have := H1.out.low k (.inl hm); omega) (by rw [hnl]; omega) rfl (Nat.zero_le _)
      have hy : (bs.take n).length ≤ 2 * s + l := by rw [List.length_take]; have := HN.out.2; omega
      obtain ⟨σ, D6, p1, p2, p3, p4, p5, p6, p7, p8, p9⟩ := hostile_plain (bs.take n) s l hs21 (by omega) hy
      rw [← HN.out.2] at p2 p3 p6 p8
      have hfr : ((Dp.new (N : Nat)).write 0 (bs.take n)).free := Dp.free_write (Dp.free_new _) _ _
      generalize (Dp.new (N : Nat)).write 0 (bs.take n) = D2 at *
      refine hwr.mono ?_
      rintro e w2 ⟨M2, R2, rfl, hw2, d2⟩
      have H2 := Hid.mk (H1.out.went hw2 d2)
      have HP := Hid.mk (And.intro p1 (And.intro p2 (And.intro p3 (And.intro p4 (And.intro p5 (And.intro p6 (And.intro p7 (And.intro p8 (And.intro p9 hfr)))))))))
      clear hwr hy p1 p2 p3 p4 p5 p6 p7 p8 p9 hfr hw2 d2
      go_wp2_with fail
      refine (dsync_ok H2.out.dk HP.out.2.2.2.2.2.2.2.2.2.dead).mono ?_
      rintro e w3 ⟨rfl, c3, d3⟩
      have H3 := Hid.mk (H2.out.step c3 d3)
      clear c3 d3
      have hop := open_any H3.out.dk s l hs21 (by rw [Dp.sync_now, HP.out.2.2.2.2.2.1]; have := HN.out.2; omega) (by show (0 : Nat) ≤ _; omega)
      rw [HP.out.2.1, HP.out.2.2.1] at hop
      go_wp2_with fail
      refine hop.mono ?_
      rintro e w4 ho
      rcases H3.out.opened ho with ⟨_, gs, M4, R4, rfl, r4⟩ | ⟨h9, _⟩
      rotate_left
      · exact absurd h9 (by simp)
      have H4 := Hid.mk r4
      clear r4 ho hop
      go_wp2_with fail
      refine H4.out.pointsC.mono ?_
      rintro e w5 ⟨A5, k5, rfl, _, q5, c5⟩
      have hpm := pointsMay_any A5 _ k5 σ.pts _ w5 q5 (by have := H4.out.st.ok.len; omega)
      have hm0 : ((mayP σ.pts : Nat) : Int) = 0 := by rw [H4.out.st.ok.may]; rfl
      rw [hm0] at hpm
      have H5 := Hid.mk (H4.out.nil c5)
      clear q5 c5 hm0
      go_wp2_with fail
      refine hpm.mono ?_
      rintro e w6 ⟨rfl, c6⟩
      have H6 := Hid.mk (H5.out.nil c6)
      clear c6 hpm
      have hg1 := H6.out.st.ok.gen1
      have hg2 := H6.out.st.ok.gen2
      obtain ⟨G, hG⟩ : ∃ G, G = σ.gen := ⟨_, rfl⟩
      obtain ⟨Rm, hRm⟩ : ∃ Rm, Rm = l - σ.used := ⟨_, rfl⟩
      have hRl : Rm ≤ l := by omega
      have hrz : (D6.now.drop (2 * s + l - Rm)).take Rm = zeros Rm := by rw [hRm]; exact HP.out.2.2.2.2.2.2.2.2.1
      have hgi : (σ.gen : Int) = (G : Int) := by rw [hG]
      have hri : ((σ.log - σ.used : Nat) : Int) = (Rm : Int) := by rw [HP.out.1.log, ← hRm]
      rw [← hG] at hg1 hg2
      have HG := Hid.mk (And.intro hgi (And.intro hri hrz))
      clear hgi hri hrz hG hRm
      go_wp2_with fail
      refine (H6.out.genIs HG.out.1).mono ?_
      rintro e w7 ⟨rfl, he⟩
      have he' := he.symm
      subst he'
      clear he
      go_wp2_with fail
      refine (H6.out.genIs HG.out.1).mono ?_
      rintro e w7 ⟨rfl, he⟩
      have he' := he.symm
      subst he'
      clear he
      go_wp2_with fail
      refine (H6.out.roomIs HG.out.2.1).mono ?_
      rintro e w7 ⟨rfl, c7⟩
      have H7 := Hid.mk (H6.out.nil c7)
      clear c7
      go_wp2_with fail
      refine (H7.out.roomIs HG.out.2.1).mono ?_
      rintro e w8 ⟨rfl, c8⟩
      have H8 := Hid.mk (H7.out.nil c8)
      clear c8
      go_wp2_with fail
      refine (H8.out.roomIs HG.out.2.1).mono ?_
      rintro e w9 ⟨rfl, c9⟩
      have H9 := Hid.mk (H8.out.nil c9)
      clear c9
      go_wp2_with fail
      refine (H9.out.roomIs HG.out.2.1).mono ?_
      rintro e w10 ⟨rfl, c10⟩
      have H10 := Hid.mk (H9.out.nil c10)
      clear c10
      obtain ⟨P, hP⟩ : ∃ P, P = N - Rm := ⟨_, rfl⟩
      have hPi : (N : Int) - (Rm : Int) = (P : Int) := by have := HN.out.2; omega
      have hPz : 2 * s + l - Rm = P := by have := HN.out.2; omega
      have hrd := dread_ok H10.out.st.dk P Rm (by have := HP.out.2.2.2.2.2.2.2.1; have := HN.out.2; omega) HP.out.1.free.dead
      have hrz := HG.out.2.2
      rw [hPz] at hrz
      rw [hrz] at hrd
      have HPi := Hid.mk hPi
      clear hPi hPz hrz hP
      go_wp2_with fail
      rw [HPi.out]
      refine hrd.mono ?_
      rintro e w11 ⟨v11, rfl, o11, c11⟩
      obtain ⟨A11, k11, rfl, _, _⟩ := own_form o11
      have H11 := Hid.mk (And.intro (H10.out.nil c11) (Rds.of_own o11))
      clear o11 c11 hrd
      go_wp2_with fail
      go_loopw [13] (fun vi wr => ∃ k : Nat, k ≤ Rm ∧ vi = .int .i64 (k : Int) ∧ Hid (Chg Nil w11 wr)) (fun vi _ => Rm - (intOf vi).toNat)
      case atStart => exact ⟨0, Nat.zero_le _, rfl, Hid.mk (Chg.refl _ _)⟩
      case round =>
        obtain ⟨k, hk, rfl, HC⟩ := hrel
        by_cases hkl : k < Rm
        · obtain ⟨b, off, rfl, _, _, hcell⟩ := Rds.plain H11.out.2 (by omega) (by omega)
          have q0 : wr.cell? ⟨b, off + k, none⟩ = some (.int .u8 0) := by
            have h1 := hcell k (bv 0) (by rw [List.getElem?_map, zeros_get, if_pos hkl]; rfl)
            exact HC.out.cell h1 (fun h => h)
          clear hcell
          go_wp2_with fail
          go_roundw
          case rel => exact ⟨k + 1, by omega, by go_num, HC⟩
          case measure => simp [intOf]; omega
        · obtain rfl : k = Rm := by omega
          have H12 := Hid.mk (H11.out.1.nil HC.out)
          clear HC
          have hop := open_any H12.out.st.dk s l hs21 (by have := HP.out.2.2.2.2.2.2.2.1; have := HN.out.2; omega) (HP.out.1.few H12.out.st.dk.ok)
          rw [HP.out.2.2.2.1, HP.out.2.2.2.2.1] at hop
          go_wp2_with fail
          refine hop.mono ?_
          rintro e w13 ho
          obtain ⟨gb, M13, R13, rfl, ra, rb, _⟩ := H12.out.again ho
          have H13 := Hid.mk (And.intro ra rb)
          clear ra rb ho hop
          go_wp2_with fail
          refine H13.out.1.pointsC.mono ?_
          rintro e w14 ⟨A14, k14, rfl, _, q14, c14⟩
          have H14 := Hid.mk (And.intro (H13.out.1.nil c14) (And.intro (H13.out.2.nil c14) q14))
          clear c14 q14
          go_wp2_with fail
          refine H14.out.2.1.pointsC.mono ?_
          rintro e w15 ⟨A15, k15, rfl, _, q15, c15⟩
          have hsp := samePts_eqB A14 A15 _ _ k14 k15 σ.pts σ.pts _ _ w15 (H14.out.2.2.keep c15 (fun _ _ h => h)) q15 (by have := H14.out.1.st.ok.len; omega) (by have := H14.out.1.st.ok.len; omega)
          rw [eqB_true rfl] at hsp
          have H15 := Hid.mk (And.intro (H14.out.1.nil c15) (H14.out.2.1.nil c15))
          clear c15 q15
          go_wp2_with fail
          refine hsp.mono ?_
          rintro e w16 ⟨rfl, c16⟩
          have H16 := Hid.mk (And.intro (H15.out.1.nil c16) (H15.out.2.nil c16))
          clear c16 hsp
          go_wp2_with fail
          refine H16.out.1.uC.mono ?_
          rintro e w17 ⟨rfl, he⟩
          have he' := he.symm
          subst he'
          clear he
          go_wp2_with fail
          refine H16.out.2.uC.mono ?_
          rintro e w17 ⟨rfl, he⟩
          have he' := he.symm
          subst he'
          clear he
          go_wp2_with fail
          refine (H16.out.1.genIs HG.out.1).mono ?_
          rintro e w17 ⟨rfl, he⟩
          have he' := he.symm
          subst he'
          clear he
          go_wp2_with fail
          refine (H16.out.2.genIs HG.out.1).mono ?_
          rintro e w17 ⟨rfl, he⟩
          have he' := he.symm
          subst he'
          clear he
          go_wp2_with fail
          refine (awake15_any _).mono ?_
          rintro e w18 ⟨rfl, c18⟩
          have H18 := Hid.mk (H16.out.1.chg.trans c18 (fun _ _ h => h))
          clear c18
          go_wp2_with fail
          go_ret
          exact ⟨rfl, H18.out⟩
    · go_wp2_with fail
      have hwr := dwrite_ok H1.out.dk 0 A N c (bs.take N) ((HR.out.front (by omega)).keep H1.out.chg (fun _ _ h => h)) (fun k hk hm => by have := H1.out.low k (.inl hm); omega) (by rw [hnl]; omega) rfl (Nat.zero_le _)
      have hy : (bs.take N).length ≤ 2 * s + l := by rw [List.length_take]; have := HN.out.2; omega
      obtain ⟨σ, D6, p1, p2, p3, p4, p5, p6, p7, p8, p9⟩ := hostile_plain (bs.take N) s l hs21 (by omega) hy
      rw [← HN.out.2] at p2 p3 p6 p8
      have hfr : ((Dp.new (N : Nat)).write 0 (bs.take N)).free := Dp.free_write (Dp.free_new _) _ _
      generalize (Dp.new (N : Nat)).write 0 (bs.take N) = D2 at *
      refine hwr.mono ?_
      rintro e w2 ⟨M2, R2, rfl, hw2, d2⟩
      have H2 := Hid.mk (H1.out.went hw2 d2)
      have HP := Hid.mk (And.intro p1 (And.intro p2 (And.intro p3 (And.intro p4 (And.intro p5 (And.intro p6 (And.intro p7 (And.intro p8 (And.intro p9 hfr)))))))))
      clear hwr hy p1 p2 p3 p4 p5 p6 p7 p8 p9 hfr hw2 d2
      go_wp2_with fail
      refine (dsync_ok H2.out.dk HP.out.2.2.2.2.2.2.2.2.2.dead).mono ?_
      rintro e w3 ⟨rfl, c3, d3⟩
      have H3 := Hid.mk (H2.out.step c3 d3)
      clear c3 d3
      have hop := open_any H3.out.dk s l hs21 (by rw [Dp.sync_now, HP.out.2.2.2.2.2.1]; have := HN.out.2; omega) (by show (0 : Nat) ≤ _; omega)
      rw [HP.out.2.1, HP.out.2.2.1] at hop
      go_wp2_with fail
      refine hop.mono ?_
      rintro e w4 ho
      rcases H3.out.opened ho with ⟨_, gs, M4, R4, rfl, r4⟩ | ⟨h9, _⟩
      rotate_left
      · exact absurd h9 (by simp)
      have H4 := Hid.mk r4
      clear r4 ho hop
      go_wp2_with fail
      refine H4.out.pointsC.mono ?_
      rintro e w5 ⟨A5, k5, rfl, _, q5, c5⟩
      have hpm := pointsMay_any A5 _ k5 σ.pts _ w5 q5 (by have := H4.out.st.ok.len; omega)
      have hm0 : ((mayP σ.pts : Nat) : Int) = 0 := by rw [H4.out.st.ok.may]; rfl
      rw [hm0] at hpm
      have H5 := Hid.mk (H4.out.nil c5)
      clear q5 c5 hm0
      go_wp2_with fail
      refine hpm.mono ?_
      rintro e w6 ⟨rfl, c6⟩
      have H6 := Hid.mk (H5.out.nil c6)
      clear c6 hpm
      have hg1 := H6.out.st.ok.gen1
      have hg2 := H6.out.st.ok.gen2
      obtain ⟨G, hG⟩ : ∃ G, G = σ.gen := ⟨_, rfl⟩
      obtain ⟨Rm, hRm⟩ : ∃ Rm, Rm = l - σ.used := ⟨_, rfl⟩
      have hRl : Rm ≤ l := by omega
      have hrz : (D6.now.drop (2 * s + l - Rm)).take Rm = zeros Rm := by rw [hRm]; exact HP.out.2.2.2.2.2.2.2.2.1
      have hgi : (σ.gen : Int) = (G : Int) := by rw [hG]
      have hri : ((σ.log - σ.used : Nat) : Int) = (Rm : Int) := by rw [HP.out.1.log, ← hRm]
      rw [← hG] at hg1 hg2
      have HG := Hid.mk (And.intro hgi (And.intro hri hrz))
      clear hgi hri hrz hG hRm
      go_wp2_with fail
      refine (H6.out.genIs HG.out.1).mono ?_
      rintro e w7 ⟨rfl, he⟩
      have he' := he.symm
      subst he'
      clear he
      go_wp2_with fail
      refine (H6.out.genIs HG.out.1).mono ?_
      rintro e w7 ⟨rfl, he⟩
      have he' := he.symm
      subst he'
      clear he
      go_wp2_with fail
      refine (H6.out.roomIs HG.out.2.1).mono ?_
      rintro e w7 ⟨rfl, c7⟩
      have H7 := Hid.mk (H6.out.nil c7)
      clear c7
      go_wp2_with fail
      refine (H7.out.roomIs HG.out.2.1).mono ?_
      rintro e w8 ⟨rfl, c8⟩
      have H8 := Hid.mk (H7.out.nil c8)
      clear c8
      go_wp2_with fail
      refine (H8.out.roomIs HG.out.2.1).mono ?_
      rintro e w9 ⟨rfl, c9⟩
      have H9 := Hid.mk (H8.out.nil c9)
      clear c9
      go_wp2_with fail
      refine (H9.out.roomIs HG.out.2.1).mono ?_
      rintro e w10 ⟨rfl, c10⟩
      have H10 := Hid.mk (H9.out.nil c10)
      clear c10
      obtain ⟨P, hP⟩ : ∃ P, P = N - Rm := ⟨_, rfl⟩
      have hPi : (N : Int) - (Rm : Int) = (P : Int) := by have := HN.out.2; omega
      have hPz : 2 * s + l - Rm = P := by have := HN.out.2; omega
      have hrd := dread_ok H10.out.st.dk P Rm (by have := HP.out.2.2.2.2.2.2.2.1; have := HN.out.2; omega) HP.out.1.free.dead
      have hrz := HG.out.2.2
      rw [hPz] at hrz
      rw [hrz] at hrd
      have HPi := Hid.mk hPi
      clear hPi hPz hrz hP
      go_wp2_with fail
      rw [HPi.out]
      refine hrd.mono ?_
      rintro e w11 ⟨v11, rfl, o11, c11⟩
      obtain ⟨A11, k11, rfl, _, _⟩ := own_form o11
      have H11 := Hid.mk (And.intro (H10.out.nil c11) (Rds.of_own o11))
      clear o11 c11 hrd
      go_wp2_with fail
      go_loopw [13] (fun vi wr => ∃ k : Nat, k ≤ Rm ∧ vi = .int .i64 (k : Int) ∧ Hid (Chg Nil w11 wr)) (fun vi _ => Rm - (intOf vi).toNat)
      case atStart => exact ⟨0, Nat.zero_le _, rfl, Hid.mk (Chg.refl _ _)⟩
      case round =>
        obtain ⟨k, hk, rfl, HC⟩ := hrel
        by_cases hkl : k < Rm
        · obtain ⟨b, off, rfl, _, _, hcell⟩ := Rds.plain H11.out.2 (by omega) (by omega)
          have q0 : wr.cell? ⟨b, off + k, none⟩ = some (.int .u8 0) := by
            have h1 := hcell k (bv 0) (by rw [List.getElem?_map, zeros_get, if_pos hkl]; rfl)
            exact HC.out.cell h1 (fun h => h)
          clear hcell
          go_wp2_with fail
          go_roundw
          case rel => exact ⟨k + 1, by omega, by go_num, HC⟩
          case measure => simp [intOf]; omega
        · obtain rfl : k = Rm := by omega
          have H12 := Hid.mk (H11.out.1.nil HC.out)
          clear HC
          have hop := open_any H12.out.st.dk s l hs21 (by have := HP.out.2.2.2.2.2.2.2.1; have := HN.out.2; omega) (HP.out.1.few H12.out.st.dk.ok)
          rw [HP.out.2.2.2.1, HP.out.2.2.2.2.1] at hop
          go_wp2_with fail
          refine hop.mono ?_
          rintro e w13 ho
          obtain ⟨gb, M13, R13, rfl, ra, rb, _⟩ := H12.out.again ho
          have H13 := Hid.mk (And.intro ra rb)
          clear ra rb ho hop
          go_wp2_with fail
          refine H13.out.1.pointsC.mono ?_
          rintro e w14 ⟨A14, k14, rfl, _, q14, c14⟩
          have H14 := Hid.mk (And.intro (H13.out.1.nil c14) (And.intro (H13.out.2.nil c14) q14))
          clear c14 q14
          go_wp2_with fail
          refine H14.out.2.1.pointsC.mono ?_
          rintro e w15 ⟨A15, k15, rfl, _, q15, c15⟩
          have hsp := samePts_eqB A14 A15 _ _ k14 k15 σ.pts σ.pts _ _ w15 (H14.out.2.2.keep c15 (fun _ _ h => h)) q15 (by have := H14.out.1.st.ok.len; omega) (by have := H14.out.1.st.ok.len; omega)
          rw [eqB_true rfl] at hsp
          have H15 := Hid.mk (And.intro (H14.out.1.nil c15) (H14.out.2.1.nil c15))
          clear c15 q15
          go_wp2_with fail
          refine hsp.mono ?_
          rintro e w16 ⟨rfl, c16⟩
          have H16 := Hid.mk (And.intro (H15.out.1.nil c16) (H15.out.2.nil c16))
          clear c16 hsp
          go_wp2_with fail
          refine H16.out.1.uC.mono ?_
          rintro e w17 ⟨rfl, he⟩
          have he' := he.symm
          subst he'
          clear he
          go_wp2_with fail
          refine H16.out.2.uC.mono ?_
          rintro e w17 ⟨rfl, he⟩
          have he' := he.symm
          subst he'
          clear he
          go_wp2_with fail
          refine (H16.out.1.genIs HG.out.1).mono ?_
          rintro e w17 ⟨rfl, he⟩
          have he' := he.symm
          subst he'
          clear he
          go_wp2_with fail
          refine (H16.out.2.genIs HG.out.1).mono ?_
          rintro e w17 ⟨rfl, he⟩
          have he' := he.symm
          subst he'
          clear he
          go_wp2_with fail
          refine (awake15_any _).mono ?_
          rintro e w18 ⟨rfl, c18⟩
          have H18 := Hid.mk (H16.out.1.chg.trans c18 (fun _ _ h => h))
          clear c18
          go_wp2_with fail
          go_ret
          exact ⟨rfl, H18.out⟩

end Go.Proofs.Ytanipieeegeheaa
