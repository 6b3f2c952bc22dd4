/- Joined for this seat from: XStD. -/
import Derived.Test.YtanipieeegeheaaSv
namespace Go.Proofs.Ytanipieeegeheaa
open Go.RowKit

theorem scan_fits (g : Nat) : ∀ (k : Nat) (bs : List UInt8), (recsB g (scanR g k bs).1).length ≤ bs.length ∧ ∀ b ∈ (scanR g k bs).1, b.length ≤ 400000 := by
  intro k
  induction k with
  | zero => intro bs; exact ⟨by simp [scanR, recsB], by simp [scanR]⟩
  | succ k ih =>
    intro bs
    simp only [scanR]
    cases h : oneR g bs with
    | none => exact ⟨by simp [recsB], by simp⟩
    | some body =>
      have h1 := oneR_len h
      have h2 := ih (bs.drop (body.length + 13))
      rw [List.length_drop] at h2
      refine ⟨?_, ?_⟩
      · show (recsB g (body :: _)).length ≤ _
        rw [recsB_len_cons]; omega
      · intro b hb
        rcases List.mem_cons.1 hb with rfl | hb
        · exact h1.2
        · exact h2.2 b hb
theorem scanA_fits (g : Nat) (bs : List UInt8) : (recsB g (scanA g bs).1).length ≤ bs.length ∧ ∀ b ∈ (scanA g bs).1, b.length ≤ 400000 := by
  unfold scanA
  split
  · exact ⟨by simp [recsB], by simp⟩
  · exact scan_fits g _ bs
/-- What the loop knows. -/
structure RpAt (w wr : World) (gs gd : Nat) (M R N : Nat → Prop) (σ σr : Sp) (d : Dp) (rest all : List (List UInt8)) : Prop where
  chg : Chg (· = gs) w wr
  st : ∃ A c, StAt wr gs gd M R N A c σr d
  same : replayP σ all = replayP σr rest
  room : σr.used + (recsB 0 rest).length ≤ σr.log
  u : σr.u + (recsB 0 rest).length ≤ 9223372036854775807
section
variable {w : World} {gs gd : Nat} {M R N : Nat → Prop} {A : Option Addr} {c : Nat} {σ : Sp} {d : Dp}
theorem recsB_len_any (g g' : Nat) (l : List (List UInt8)) : (recsB g l).length = (recsB g' l).length := by
  induction l with
  | nil => simp [recsB]
  | cons b r ih => rw [recsB_len_cons, recsB_len_cons, ih]
set_option maxHeartbeats 2000000 in
set_option maxRecDepth 100000 in
theorem replay_any (h : StAt w gs gd M R N A c σ d) (B : Option Addr) (n cb : Nat) (bs : List UInt8) (S : Nat → Prop) (hr : RdB w S B n bs) (hcb : n ≤ cb) (hcm : cb ≤ maxLen) (hroom : σ.used + n ≤ σ.log) (hu : σ.u + n ≤ 9223372036854775807) :
    Calls Try.prog 43 #[.pointer (some ⟨gs, 0, none⟩), .slice B n cb] w fun e w' => (∃ v, e = .returned v) ∧ Chg (· = gs) w w' ∧ ∃ A' c', StAt w' gs gd M R N A' c' (replayP σ (scanA σ.gen bs).1) d := by
  have h4 := h.cells.2.2.2.2.1
  have hsm := h.ok.small h.dk.ok
  have hsc := scan_any σ.gen B cb n bs S w hr hcb hcm (by omega)
  have hfit := scanA_fits σ.gen bs
  rw [hr.len] at hfit
  have hlt := h.bk.lt
  generalize (scanA σ.gen bs) = res at *
  obtain ⟨all, en⟩ := res
  have H := Hid.mk (And.intro h (And.intro hfit (And.intro hroom hu)))
  have hn6 : n ≤ 1000000 := by omega
  clear h hfit hroom hu hr hsm
  go_enter Try.func43, Try.ntmps43
  go_wp2_with fail
  refine hsc.mono ?_
  rintro e w1 ⟨⟨v, vs, rfl, o1, rl1⟩, b1⟩
  obtain ⟨A1, k1, rfl, hk1, hm1⟩ := own_form o1
  have hsz := b1.size
  have hall : (recsB 0 all).length ≤ n := by rw [recsB_len_any 0 σ.gen]; exact H.out.2.1.1
  have R0 : RpAt w w1 gs gd M R N σ σ d all all := ⟨(Chg.of_below' b1).wider (fun _ _ h => h.elim), ⟨_, _, H.out.1.nil (Chg.of_below' b1)⟩, rfl, by have := H.out.2.2.1; omega, by have := H.out.2.2.2; omega⟩
  have R1 := Hid.mk (And.intro R0 (And.intro o1 rl1))
  have hlens := H.out.2.1.2
  have hmany : all.length ≤ n := by have := recsB_many 0 all; omega
  have HL := Hid.mk hlens
  clear o1 rl1 b1 R0 hall hlens hsc
  generalize hna : all.length = na at *
  have HN := Hid.mk hna
  clear hna
  go_wp2_with fail
  go_loopw [21] (fun i wr => ∃ k : Nat, k ≤ na ∧ i = .int .i64 (k : Int) ∧ Hid (∃ σr, RpAt w wr gs gd M R N σ σr d (all.drop k) all ∧ wr.ownsRow w.heap.size 46 1 (.slice A1 na k1) na vs ∧ RdL wr (fun k => w.heap.size ≤ k) vs all)) (fun i _ => na - (intOf i).toNat)
  case atStart => exact ⟨0, Nat.zero_le _, rfl, Hid.mk ⟨σ, R1.out.1, R1.out.2.1, R1.out.2.2⟩⟩
  case round =>
    obtain ⟨k, hk, rfl, HR⟩ := hrel
    obtain ⟨σr, rp, orow, rl⟩ := HR.out
    by_cases hlt : k < na
    · have hka : k < all.length := by rw [HN.out]; exact hlt
      have hgk : all[k]? = some all[k] := List.getElem?_eq_getElem hka
      obtain ⟨Ak, ck, hvk, hck, hcmk, hrk⟩ := rl.2 k _ hgk
      obtain ⟨gb, off, hA1, _, _, hx⟩ := (Rds.of_own orow).plain (by omega) (by omega)
      subst hA1
      have hcell := hx k _ hvk
      have hd : all.drop k = all[k] :: all.drop (k + 1) := List.drop_eq_getElem_cons hka
      have hbl := HL.out _ (List.getElem_mem hka)
      obtain ⟨bk, hbk⟩ : ∃ bk, bk = all[k] := ⟨_, rfl⟩
      rw [← hbk] at hrk hcell hd hbl hck
      have hro := recops_any Ak ck bk.length bk _ wr hrk hck hcmk
      obtain ⟨nk, hnk⟩ : ∃ nk, nk = bk.length := ⟨_, rfl⟩
      rw [← hnk] at hro hcell hbl
      have HK := Hid.mk (And.intro rp (And.intro orow (And.intro rl (And.intro hd hnk))))
      clear rp orow rl hd hvk hrk hx hgk hbk hck hcmk hnk hka
      cases hob : opsD bk with
      | none =>
        rw [hob] at hro
        have HRO := Hid.mk hro
        clear hro
        go_wp2_with fail
        refine HRO.out.mono ?_
        rintro e w2 ⟨rfl, c2⟩
        have hfin : replayP σ all = σr := by rw [HK.out.1.same, HK.out.2.2.2.1]; simp only [replayP, hob]
        have H2 := Hid.mk (And.intro c2 hfin)
        clear c2 hfin hob
        go_wp2_with fail
        refine bodyPost_ret (results_none rfl _ _ _) rfl ?_
        obtain ⟨A', c', hst⟩ := HK.out.1.st
        exact ⟨⟨_, rfl⟩, HK.out.1.chg.trans H2.out.1 (fun _ _ h => h.elim), A', c', by rw [H2.out.2]; exact hst.nil H2.out.1⟩
      | some ops =>
        rw [hob] at hro
        have HRO := Hid.mk (And.intro hro hob)
        clear hro hob
        go_wp2_with fail
        refine HRO.out.1.mono ?_
        rintro e w2 ⟨⟨v2, rfl, o2⟩, c2⟩
        obtain ⟨A2, k2, rfl, _, _⟩ := own_form o2
        obtain ⟨A', c', hst⟩ := HK.out.1.st
        have hlc := recsB_len_cons 0 bk (all.drop (k + 1))
        rw [← HK.out.2.2.2.1] at hlc
        have hro := HK.out.1.room
        have huu := HK.out.1.u
        have hdone := done_any (hst.nil c2) A2 ops.length k2 nk ops _ (Rds.of_own o2) (opsD_ok HRO.out.2) hbl (by rw [HK.out.2.2.2.2]; omega) (by omega)
        have H2 := Hid.mk (And.intro c2 (And.intro hst (And.intro hlc hdone)))
        clear c2 hst o2 hdone hlc hro huu
        generalize hol : ops.length = ol at *
        go_wp2_with fail
        refine H2.out.2.2.2.mono ?_
        rintro e w3 (⟨hno, rfl, c3⟩ | ⟨σ', A'', c'', hyes, rfl, c3, st3⟩)
        · have hfin : replayP σ all = σr := by rw [HK.out.1.same, HK.out.2.2.2.1]; simp only [replayP, HRO.out.2, ← HK.out.2.2.2.2, hno]
          have H3 := Hid.mk (And.intro c3 hfin)
          clear c3 hfin hno
          go_wp2_with fail
          refine bodyPost_ret (results_none rfl _ _ _) rfl ?_
          exact ⟨⟨_, rfl⟩, (HK.out.1.chg.trans H2.out.1 (fun _ _ h => h.elim)).trans H3.out.1 (fun _ _ h => h.elim), A', c', by rw [H3.out.2]; exact (H2.out.2.1.nil H2.out.1).nil H3.out.1⟩
        · have H3 := Hid.mk (And.intro c3 (And.intro st3 hyes))
          clear c3 st3 hyes
          go_wp2_with fail
          go_roundw
          case rel =>
            obtain ⟨_, hs'⟩ := doneP_some H3.out.2.2
            have hc13 : Chg (· = gs) wr w3 := (H2.out.1.wider (fun _ _ h => h.elim)).trans H3.out.1 (fun _ _ h => h)
            refine ⟨k + 1, by omega, by go_num, Hid.mk ⟨σ', ⟨HK.out.1.chg.trans hc13 (fun _ _ h => h), ⟨A'', c'', H3.out.2.1⟩, ?_, ?_, ?_⟩, own_keep HK.out.2.1 hc13 (fun k hk hh => ?_), HK.out.2.2.1.keep hc13 (fun k hk hh => ?_)⟩⟩
            · rw [HK.out.1.same, HK.out.2.2.2.1]; exact replay_step HRO.out.2 (by rw [← HK.out.2.2.2.2]; exact H3.out.2.2)
            · have := H2.out.2.2.1; have := HK.out.1.room; have := HK.out.2.2.2.2
              rw [hs']; simp only; omega
            · have := H2.out.2.2.1; have := HK.out.1.u
              rw [hs']; simp only; omega
            · have := own_ge HK.out.2.1 k hk; omega
            · omega
          case measure => simp [intOf]; omega
    · have hke : k = na := by omega
      subst hke
      have hfin : replayP σ all = σr := by rw [rp.same, List.drop_of_length_le (by rw [HN.out]; omega)]; rfl
      have HK := Hid.mk (And.intro rp hfin)
      clear rp hfin orow rl
      go_wp2_with fail
      go_end0
      obtain ⟨A', c', hst⟩ := HK.out.1.st
      exact ⟨⟨_, rfl⟩, HK.out.1.chg, A', c', by rw [HK.out.2]; exact hst⟩
end

end Go.Proofs.Ytanipieeegeheaa
