/- The contract of rec.Scan: the records at the front, each body in new memory, and where they end. -/
import Derived.Test.YtmbmfhpdajdpfaaOne
import Derived.Test.YtmbmfhpdajdpfaaCut
namespace Go.Proofs.Ytmbmfhpdajdpfaa
open Go.RowKit

theorem Try.infoBytes : (Try.prog.info? 30).map (fun i => (i.zero, i.size, i.bytes)) = some (some (.slice none 0 0), 1, 24) := by kernel_rfl

/-- What 'Scan' answers: the bodies in new memory, the place. -/
def ScanIs (B : Nat) (r : List (List UInt8) × Nat) (e : Ending) (w' : World) : Prop :=
  ∃ v vs, e = .returned (.tuple #[v, .int .i64 r.2]) ∧ w'.ownsRow B 30 1 v r.1.length vs ∧ RdL w' (fun k => B ≤ k) vs r.1

set_option maxHeartbeats 1000000 in
set_option maxRecDepth 100000 in
theorem scan_any (gen : Nat) (A : Option Addr) (c n : Nat) (bs : List UInt8) (S : Nat → Prop) (w : World) (hr : RdB w S A n bs) (hc : n ≤ c) (hcm : c ≤ maxLen) (hn : n ≤ 1000000) :
    Calls Try.prog 14 #[.slice A n c, .int .u64 gen] w fun e w' => ScanIs w.heap.size (scanA gen bs) e w' ∧ Below w.heap.size w w' := by
  have hlen := hr.len
  by_cases hg1 : gen < 1
  · obtain rfl : gen = 0 := by omega
    have hs : scanA 0 bs = ([], 0) := by simp [scanA]
    rw [hs]
    clear hr hlen hg1 hs
    go_enter Try.func14, Try.ntmps14
    go_wp2
    go_ret2
    exact ⟨⟨.slice none 0 0, [], rfl, World.ownsRow_nil _ _ _ _, RdL.nil⟩, Below.refl _ _⟩
  · by_cases hg2 : 4611686018427387904 < gen
    · have h2 : decide ((4611686018427387904 : Int) < gen) = true := by simp; omega
      have hs : scanA gen bs = ([], 0) := by simp [scanA, hg2]
      rw [hs]
      have h1 : 1 ≤ gen := by omega
      clear hr hlen hg1 hs hg2
      go_enter Try.func14, Try.ntmps14
      go_wp2
      go_ret2
      exact ⟨⟨.slice none 0 0, [], rfl, World.ownsRow_nil _ _ _ _, RdL.nil⟩, Below.refl _ _⟩
    · have h2 : decide ((4611686018427387904 : Int) < gen) = false := by simp; omega
      have hg1 : 1 ≤ gen := by omega
      have hs : scanA gen bs = scanR gen n bs := by simp [scanA, hg2, ← hlen]; omega
      rw [hs]
      have HH := Hid.mk (And.intro hr.here hlen)
      clear hr hlen hg2 hs
      obtain ⟨i0, hi, hz0, hz1, hz2⟩ := info_parts Try.infoByte
      obtain ⟨j0, hj, hy0, hy1, hy2⟩ := info_parts Try.infoBytes
      go_enter Try.func14, Try.ntmps14
      go_wp2_with fail
      go_loopw [4, 5] (fun vb ve wr => ∃ (acc : List (List UInt8)) (e : Nat) (vs : List Value) (F : Nat → Prop), ve = .int .i64 e ∧ e ≤ n ∧
          scanR gen n bs = (acc ++ (scanR gen (n - e) (bs.drop e)).1, e + (scanR gen (n - e) (bs.drop e)).2) ∧ acc.length ≤ e ∧ wr.ownsRow w.heap.size 30 1 vb acc.length vs ∧ RdL wr F vs acc ∧
          (∀ k, F k → w.heap.size ≤ k ∧ k < wr.heap.size) ∧ (∀ k, F k → Own vb k → False) ∧ Below w.heap.size w wr) (fun _ ve _ => n - (intOf ve).toNat)
      case atStart => exact ⟨[], 0, [], fun _ => False, rfl, Nat.zero_le _, by simp, Nat.le_refl _, World.ownsRow_nil _ _ _ _, RdL.nil, fun _ h => h.elim, fun _ h => h.elim, Below.refl _ _⟩
      case round =>
        obtain ⟨acc, e, vs, F, rfl, he, hscan, hacc, hown, hrl, hF, hFo, hbel⟩ := hrel
        have hbsz := hbel.size
        have hlen : (bs.drop e).length = n - e := by rw [List.length_drop, HH.out.2]
        have hrd : RdB wr (fun k => S k ∧ k < w.heap.size) (cutA 1 A c e) (n - e) (bs.drop e) := (cutA_rdb_all HH.out.1 he hc).below hbel (fun k h => h.2)
        have hsl := fun W => run_cut_from (P := Try.prog) 30 5 i0 1 Try.underlying30 hi hz1 A n c e .i64 he W
        have hltu := own_lt hown
        cases hone : oneR gen (bs.drop e) with
        | none =>
          have hsc : scanR gen n bs = (acc, e) := by
            rw [hscan]
            have := scanR_none hone
            rw [hlen] at this
            simp [this]
          have HR := Hid.mk (And.intro hsc (And.intro hown (And.intro hrl (And.intro hF (And.intro hbel (And.intro hrd hone))))))
          clear hscan hown hrl hF hFo hbel hrd hone hsc hlen hltu
          go_wp2_with (go_at_call 35; refine (one_any gen (cutA 1 A c e) (c - e) (n - e) (bs.drop e) _ wr HR.out.2.2.2.2.2.1 (by omega) (by omega)).mono ?_; rintro er w2 ⟨h1, hb2⟩; rw [HR.out.2.2.2.2.2.2] at h1; have h1' : er = .returned (.tuple #[.slice none 0 0, .bool false]) := h1; subst h1'; have HB2 := Hid.mk hb2; clear hb2 h1)
          go_ret2
          rw [HR.out.1]
          refine ⟨⟨u4, vs, rfl, own_keep HR.out.2.1 (Chg.of_below' HB2.out) (fun _ _ h => h), (HR.out.2.2.1.keep (Chg.of_below' HB2.out) (fun _ _ h => h)).wider (fun k _ hk => (HR.out.2.2.2.1 k hk).1)⟩, HR.out.2.2.2.2.1.trans (HB2.out.mono hbsz)⟩
        | some body =>
          have hol := oneR_len hone
          rw [hlen] at hol
          have hsc : scanR gen n bs = ((acc ++ [body]) ++ (scanR gen (n - (e + (12 + body.length + 1))) (bs.drop (e + (12 + body.length + 1)))).1, e + (12 + body.length + 1) + (scanR gen (n - (e + (12 + body.length + 1))) (bs.drop (e + (12 + body.length + 1)))).2) := by
            rw [hscan]
            have h := scanR_some hone
            rw [hlen, List.drop_drop, List.length_drop, HH.out.2] at h
            rw [h, show e + (body.length + 13) = e + (12 + body.length + 1) by omega]
            simp
            omega
          have HR := Hid.mk (And.intro hsc (And.intro hown (And.intro hrl (And.intro hF (And.intro hbel (And.intro hrd (And.intro hone (And.intro hFo hltu))))))))
          clear hscan hown hrl hF hFo hbel hrd hone hsc hlen hltu
          obtain ⟨hb1, hb2⟩ := hol
          go_wp2_with (first
            | (go_at_call 35; refine (one_any gen (cutA 1 A c e) (c - e) (n - e) (bs.drop e) _ wr HR.out.2.2.2.2.2.1 (by omega) (by omega)).mono ?_; rintro er w2 ⟨h1, hbb⟩; rw [HR.out.2.2.2.2.2.2.1] at h1; obtain ⟨Ab, cb, rfl, hcb, hmb, hrb⟩ := h1; have HB2 := Hid.mk (And.intro hbb hrb); clear hbb hrb)
            | (at_builtin; refine wpl_append rfl (.tmp 27) (.tmp 28) 30 rfl w.heap.size 5 i0 _ 1 1 Try.underlying30 hi hz0 hz1 hz2 rfl (by omega) _ 0 [] rfl (World.ownsRow_lit w2 #[] 0 (by have := HB2.out.1.size; omega) (Nat.zero_le _) rfl) _ Ab body.length cb _ rfl (HB2.out.2.keep ((Chg.refl Nil w2).alloc _) (fun _ _ h => h)) (bv_one _) (by simp only [maxLen]; omega) (by omega) (by have := HB2.out.1.size; simp; omega) ?_; intro v3 w3 o3 g3; obtain ⟨A3, c3, hv3, hc3, hm3⟩ := own_form o3; simp only [Nat.zero_add, List.nil_append] at o3 hv3 hc3; subst hv3; have H3 := Hid.mk (And.intro o3 (And.intro g3.fresh (And.intro hc3 hm3))); clear o3 g3 hc3 hm3)
            | (at_builtin; refine wpl_append rfl (.tmp 26) (.tmp 30) 23 rfl w.heap.size 30 j0 _ 1 24 Try.underlying23 hj hy0 hy1 hy2 rfl (by omega) _ _ _ rfl ((own_keep (own_keep HR.out.2.1 (Chg.of_below' HB2.out.1) (fun _ _ h => h)) H3.out.2.1.1 (fun _ _ h => h)).alloc _) _ _ _ _ _ rfl (rds_one _ _ _) (by intro u hu; simp at hu; subst hu; rfl) (by simp only [maxLen]; omega) (by omega) (by have := HB2.out.1.size; have := H3.out.2.1.1.size; simp; omega) ?_; intro v4 w4 o4 g4; have H4 := Hid.mk (And.intro o4 g4); clear o4 g4))
          have hB3 : wr.heap.size ≤ w2.heap.size := HB2.out.1.size
          have c3w : Chg Nil wr w3 := (Chg.of_below' HB2.out.1).trans H3.out.2.1.1 (fun _ _ h => h)
          obtain ⟨F', h41, h42, h43, h44⟩ := rows_step HR.out.2.2.1 HR.out.2.2.2.1 HR.out.2.2.2.2.2.2.2.1 HR.out.2.2.2.2.2.2.2.2 hbsz c3w H3.out.1 (fun k hk => Nat.le_trans hB3 (H3.out.2.1.2 k hk)) H3.out.2.2.1 H3.out.2.2.2 H4.out.1 H4.out.2
          have hbel4 : Below w.heap.size w w4 := (H4.out.2.alloc_left.chg).below (c3w.below HR.out.2.2.2.2.1 hbsz (fun _ _ h => h.elim)) (by have := c3w.size; omega) (fun k _ hk => own_ge HR.out.2.1 k hk)
          have HF := Hid.mk (And.intro h41 (And.intro h42 (And.intro h43 (And.intro h44 hbel4))))
          clear h41 h42 h43 h44 hbel4 c3w
          go_wp2
          go_roundw
          case rel => exact ⟨acc ++ [body], e + (12 + body.length + 1), _, F', by go_num, by omega, HR.out.1, by simp; omega, HF.out.1, HF.out.2.1, HF.out.2.2.1, HF.out.2.2.2.1, HF.out.2.2.2.2⟩
          case measure => simp [intOf]; omega
end Go.Proofs.Ytmbmfhpdajdpfaa
