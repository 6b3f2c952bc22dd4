/- rec.Read and the document's Unpoints. -/
import Derived.Test.YtmbmfhpdajdpfaaPoints
import Derived.Test.YtmbmfhpdajdpfaaRecOps
namespace Go.Proofs.Ytmbmfhpdajdpfaa
open Go.RowKit

/-- So many points of bytes. -/
def ptsOf : Nat → List UInt8 → List Pt
  | 0, _ => []
  | k + 1, b => unPt b :: ptsOf k (b.drop 16)
theorem ptsOf_len : ∀ (m : Nat) (b : List UInt8), (ptsOf m b).length = m
  | 0, _ => rfl
  | m + 1, b => by rw [ptsOf, List.length_cons, ptsOf_len m]
theorem ptsOf_get : ∀ (m k : Nat) (b : List UInt8), k < m → (ptsOf m b)[k]? = some (unPt (b.drop (16 * k)))
  | m + 1, 0, b, _ => rfl
  | m + 1, k + 1, b, h => by
    rw [ptsOf, List.getElem?_cons_succ, ptsOf_get m k _ (by omega), List.drop_drop, show 16 + 16 * k = 16 * (k + 1) by omega]
theorem ptsOf_take (m k : Nat) (b : List UInt8) (h : k < m) : (ptsOf m b).take (k + 1) = (ptsOf m b).take k ++ [unPt (b.drop (16 * k))] := by
  rw [List.take_add_one, ptsOf_get m k b h]
  rfl
def readP (b : List UInt8) : Option (List Pt) := if b.length % 16 ≠ 0 then none else if mayP (ptsOf (b.length / 16) b) = 0 then some (ptsOf (b.length / 16) b) else none
theorem pt_back (p : Pt) (t : List UInt8) (h : p.ok = true) : unPt (p.bytes ++ t) = p := by
  simp only [Pt.ok, keyOk, inOk, Bool.and_eq_true, decide_eq_true_eq] at h
  obtain ⟨k, x, y, v⟩ := p
  simp only at h
  have hu := pt_parts ⟨k, x, y, v⟩ t
  simp only at hu
  rw [un_small k (by omega) (by omega), un_small x (by omega) (by omega), un_small y (by omega) (by omega), un_neg v (by omega) (by omega)] at hu
  exact hu
theorem ptsOf_back : ∀ (l : List Pt), (∀ p ∈ l, p.ok = true) → ptsOf l.length (ptsB l) = l
  | [], _ => rfl
  | p :: l, h => by
    have hb : ptsB (p :: l) = p.bytes ++ ptsB l := rfl
    rw [List.length_cons, hb, ptsOf, pt_back p _ (h p (by simp)), drop_len_append _ _ _ (pt_len16 p), ptsOf_back l (fun q hq => h q (by simp [hq]))]
theorem mayP_zero {l : List Pt} (h : mayP l = 0) : l.length ≤ 20000 ∧ risesP l = true := by
  unfold mayP at h
  split at h
  · cases h
  · split at h
    · exact ⟨by omega, ‹_›⟩
    · cases h
theorem risesP_ok {l : List Pt} (h : risesP l = true) : ∀ p ∈ l, p.ok = true := by
  intro p hp
  obtain ⟨k, hk, he⟩ := List.mem_iff_getElem.1 hp
  have := risesP_at h hk
  unfold okAt at this
  rw [List.getElem?_eq_getElem hk, he] at this
  simp only [Bool.and_eq_true] at this
  exact this.1
theorem readP_back (l : List Pt) (h : mayP l = 0) : readP (ptsB l) = some l := by
  have hl := ptsB_len l
  have hb := ptsOf_back l (risesP_ok (mayP_zero h).2)
  unfold readP
  rw [hl, if_neg (by omega), show 16 * l.length / 16 = l.length by omega, hb, if_pos h]
/-- What Read answers. -/
def PtsIs (B : Nat) (r : Option (List Pt)) (e : Ending) (w' : World) : Prop :=
  match r with
  | some l => ∃ v, e = .returned (.tuple #[v, .int .i64 0]) ∧ w'.ownsRow B 44 4 v l.length (l.flatMap Pt.cs)
  | none => e = .returned (.tuple #[.slice none 0 0, .int .i64 10])
theorem pts_row {S : Nat → Prop} {w wr W w2 : World} {u v2 : Value} {X : List Pt} {o : Pt} {ob : Obj} {T : TypeId} (hown : wr.ownsRow w.heap.size T 4 u X.length (X.flatMap Pt.cs)) (hc : Chg S w wr) (hW : Chg S wr W)
    (o2 : w2.ownsRow w.heap.size T 4 v2 (X.length + 1) (X.flatMap Pt.cs ++ o.cs)) (g2 : Grew (W.alloc ob) u w2 v2) :
    w2.ownsRow w.heap.size T 4 v2 (X ++ [o]).length ((X ++ [o]).flatMap Pt.cs) ∧ Chg S w w2 := by
  refine ⟨by simpa using o2, ((hc.trans hW (fun _ _ h => h)).trans ((Chg.refl S W).alloc ob) (fun _ _ h => h)).trans g2.chg (fun i hi hm => ?_)⟩
  have := own_ge hown i hm
  omega

set_option maxHeartbeats 2000000 in
set_option maxRecDepth 100000 in
theorem unpoints_any (bs : List UInt8) (w : World) (hn : bs.length ≤ 1000000) :
    Calls Try.prog 34 #[.string ⟨bs.toArray⟩] w fun e w' => PtsIs w.heap.size (readP bs) e w' ∧ Chg Nil w w' := by
  obtain ⟨i0, hi, hz0, hz1, hz2⟩ := info_parts Try.infoPt
  have hsz : (ByteArray.mk bs.toArray).size = bs.length := by simp [ByteArray.size]
  by_cases h16 : bs.length % 16 = 0
  rotate_left
  · have hr : readP bs = none := by unfold readP; rw [if_pos h16]
    rw [hr]
    generalize bs.length = n at *
    have hd : (((n : Int) % 16) == 0) = false := by rw [beq_eq_false_iff_ne]; omega
    clear hr
    go_enter Try.func34, Try.ntmps34
    go_wp2_with fail
    go_ret2
    exact ⟨rfl, Chg.refl _ _⟩
  have hr : readP bs = if mayP (ptsOf (bs.length / 16) bs) = 0 then some (ptsOf (bs.length / 16) bs) else none := by unfold readP; rw [if_neg (by omega)]
  obtain ⟨m, hm⟩ : ∃ m, bs.length / 16 = m := ⟨_, rfl⟩
  rw [hm] at hr
  have hnm : bs.length = 16 * m := by omega
  rw [hnm] at hsz
  have hd : (((16 * m : Nat) : Int) % 16 == 0) = true := by rw [beq_iff_eq]; omega
  have HL := Hid.mk (And.intro hnm hr)
  clear hr hm h16
  have hm' : m ≤ 62500 := by omega
  clear hn hnm
  go_enter Try.func34, Try.ntmps34
  go_wp2_with fail
  go_loopw [4, 5] (fun out e wr => ∃ k : Nat, k ≤ m ∧ e = .int .i64 ((16 * k : Nat) : Int) ∧ wr.ownsRow w.heap.size 44 4 out k (((ptsOf m bs).take k).flatMap Pt.cs) ∧ Chg Nil w wr) (fun _ e _ => 16 * m - (intOf e).toNat)
  case atStart => exact ⟨0, Nat.zero_le _, rfl, ⟨rfl, .inl ⟨rfl, rfl⟩⟩, Chg.refl _ _⟩
  case round =>
    obtain ⟨k, hk, rfl, hown, hch⟩ := hrel
    have hXl : ((ptsOf m bs).take k).length = k := by rw [List.length_take, ptsOf_len]; omega
    by_cases hlt : k < m
    · have hU := fun W => unpoint_any ((bs.drop (16 * k)).take 16) W (by rw [List.length_take, List.length_drop, HL.out.1]; omega)
      rw [unPt_take, str_cut] at hU
      have hstep := ptsOf_take m k bs hlt
      generalize unPt (bs.drop (16 * k)) = q at *
      generalize (ptsOf m bs).take k = X at *
      obtain ⟨ky, x, y, v⟩ := q
      simp only [Pt.cs] at hU
      have hlt' : decide (((16 * k : Nat) : Int) < ((16 * m : Nat) : Int)) = true := decide_eq_true (by omega)
      have HU := Hid.mk hU
      subst hXl
      have HK := Hid.mk (And.intro hstep (And.intro hch hown))
      clear hU hstep hch hown
      go_wp2_with fail
      refine (HU.out _).mono ?_
      rintro e w1 ⟨rfl, hc1⟩
      have HW := Hid.mk hc1
      have HRo := Hid.mk (rdp_one w1 ⟨ky, x, y, v⟩)
      clear hc1
      go_wp2_with (at_builtin; refine wpl_append rfl (.tmp 16) (.tmp 23) 59 rfl w.heap.size 44 i0 _ 4 32 Try.underlying59 hi hz0 hz1 hz2 rfl (by omega) _ X.length _ rfl (own_keep HK.out.2.2 (HW.out.alloc _) (fun _ _ h => h)) _ (some ⟨w1.heap.size, 0, none⟩) 1 1 _ rfl HRo.out (pts_one _) (by simp only [maxLen]; omega) (by omega) (by have := HK.out.2.1.size; have := HW.out.size; simp; omega) ?_; intro v2 w2 o2 g2; have H2 := Hid.mk (pts_row (o := ⟨ky, x, y, v⟩) HK.out.2.2 HK.out.2.1 HW.out (by simpa using o2) g2); clear o2 g2)
      go_roundw
      case rel => exact ⟨X.length + 1, by omega, by go_num, by rw [HK.out.1]; simpa using H2.out.1, H2.out.2⟩
      case measure => simp [intOf]; omega
    · obtain rfl : k = m := by omega
      rw [List.take_of_length_le (by rw [ptsOf_len]; exact Nat.le_refl _)] at hown hXl
      obtain ⟨A, cp, rfl, _, _⟩ := own_form hown
      have hM := pointsMay_any A k cp (ptsOf k bs) _ wr (Rds.of_own hown) (by omega)
      have HM := Hid.mk hM
      have HK := Hid.mk (And.intro HL.out.2 (And.intro hch hown))
      clear hM hch hown
      go_wp2_with fail
      refine HM.out.mono ?_
      rintro e w1 ⟨rfl, hc1⟩
      have H1 := Hid.mk (And.intro (HK.out.2.1.trans hc1 (fun _ _ h => h)) (own_keep HK.out.2.2 hc1 (fun _ _ h => h)))
      clear hc1
      by_cases h0 : mayP (ptsOf k bs) = 0
      · have hr : readP bs = some (ptsOf k bs) := by rw [HK.out.1, if_pos h0]
        have HR := Hid.mk (And.intro hr hXl)
        rw [h0]
        clear hr h0 hXl
        go_wp2_with fail
        go_ret2
        rw [HR.out.1]
        exact ⟨⟨_, rfl, by rw [HR.out.2]; exact H1.out.2⟩, H1.out.1⟩
      · have hr : readP bs = none := by rw [HK.out.1, if_neg h0]
        have HR := Hid.mk hr
        generalize mayP (ptsOf k bs) = E at *
        have hE : ((E : Int) == 0) = false := by rw [beq_eq_false_iff_ne]; omega
        clear hr hXl
        go_wp2_with fail
        go_ret2
        rw [HR.out]
        exact ⟨rfl, H1.out.1⟩
set_option maxHeartbeats 2000000 in
set_option maxRecDepth 100000 in
theorem readpts_any (A : Option Addr) (c n : Nat) (bs : List UInt8) (S : Nat → Prop) (w : World) (hr : RdB w S A n bs) (hc : n ≤ c) (hcm : c ≤ maxLen) :
    Calls Try.prog 31 #[.slice A n c] w fun e w' => PtsIs w.heap.size (readP bs) e w' ∧ Chg Nil w w' := by
  obtain ⟨i0, hi, hz0, hz1, hz2⟩ := info_parts Try.infoPt
  have hnl := hr.len
  by_cases h16 : n % 16 = 0
  rotate_left
  · have hr' : readP bs = none := by unfold readP; rw [hnl, if_pos h16]
    rw [hr']
    have hd : (((n : Int) % 16) == 0) = false := by rw [beq_eq_false_iff_ne]; omega
    clear hr'
    go_enter Try.func31, Try.ntmps31
    go_wp2_with fail
    go_ret2
    exact ⟨rfl, Chg.refl _ _⟩
  have hd : (((n : Int) % 16) == 0) = true := by rw [beq_iff_eq]; omega
  obtain ⟨m, hm⟩ : ∃ m, n / 16 = m := ⟨_, rfl⟩
  have hrd : readP bs = if mayP (ptsOf m bs) = 0 then some (ptsOf m bs) else none := by unfold readP; rw [hnl, if_neg (by omega), hm]
  by_cases hbig : 320000 < n
  · have hr' : readP bs = none := by
      rw [hrd, if_neg]
      unfold mayP
      rw [ptsOf_len, if_pos (by omega)]
      omega
    rw [hr']
    clear hr' hrd
    go_enter Try.func31, Try.ntmps31
    go_wp2_with fail
    go_ret2
    exact ⟨rfl, Chg.refl _ _⟩
  have hm' : m ≤ 20000 := by omega
  have hr' := hr.here
  go_enter Try.func31, Try.ntmps31
  have HD := Hid.mk hrd
  clear hrd
  go_upto_region 5 with fail
  have hp0 := Bk.new w 83 #[.slice A n c, .bool false]
  have hs0 : (w.alloc (.cells #[.slice A n c, .bool false] 83)).heap.size = w.heap.size + 1 := by simp
  have hA : Chg Nil w (w.alloc (.cells #[.slice A n c, .bool false] 83)) := (Chg.refl _ _).alloc _
  generalize w.alloc (.cells #[.slice A n c, .bool false] 83) = wb at *
  have H0 := Hid.mk (And.intro hA (And.intro hs0 (And.intro hp0 (hr'.keep hA (fun _ _ h => h)))))
  clear hp0 hA hr hr'
  have HN := Hid.mk (show n = 16 * m by omega)
  go_loopw [5] (fun out wr => ∃ k : Nat, k ≤ m ∧ (∃ A' c', Bk wr w.heap.size 83 #[.slice A' (n - 16 * k) c', .bool false] ∧ RdB wr (fun k => S k ∧ k < w.heap.size) A' (n - 16 * k) (bs.drop (16 * k)) ∧ n - 16 * k ≤ c' ∧ c' ≤ maxLen) ∧
      wr.ownsRow wb.heap.size 44 4 out k (((ptsOf m bs).take k).flatMap Pt.cs) ∧ Chg (· = w.heap.size) wb wr) (fun out _ => m - sliceLen out)
  case atStart => exact ⟨0, Nat.zero_le _, ⟨A, c, H0.out.2.2.1, H0.out.2.2.2, hc, hcm⟩, ⟨rfl, .inl ⟨rfl, rfl⟩⟩, Chg.refl _ _⟩
  case round =>
    obtain ⟨k, hk, ⟨A', c', hp, hrd', hc', hm2⟩, hown, hch⟩ := hrel
    obtain ⟨G, gc, rfl, hgc, hgm⟩ := own_form hown
    have hXl : ((ptsOf m bs).take k).length = k := by rw [List.length_take, ptsOf_len]; omega
    have x0 := hp.cell 0 rfl
    have hsz := hch.size
    by_cases hlt : k < m
    · have h16n : 16 ≤ n - 16 * k := by have := HN.out; omega
      have hlt' : decide ((0 : Int) < ((n - 16 * k : Nat) : Int)) = true := decide_eq_true (by omega)
      have hstep := ptsOf_take m k bs hlt
      have HT := Hid.mk (takePt_ok w.heap.size A' c' (n - 16 * k) (bs.drop (16 * k)) false (fun k => S k ∧ k < w.heap.size) wr hp hrd' (fun h => Nat.lt_irrefl _ h.2) (fun k h => by have := h.2; omega) (by omega) hc' hm2)
      generalize unPt (bs.drop (16 * k)) = q at *
      generalize (ptsOf m bs).take k = X at *
      obtain ⟨ky, x, y, v⟩ := q
      simp only [Pt.cs] at HT
      subst hXl
      have HK := Hid.mk (And.intro hstep (And.intro hch hown))
      clear hstep hch hown hp hrd'
      go_wp2_with fail
      refine HT.out.mono ?_
      rintro e w1 ⟨rfl, hc1, A2, hp2, hr2⟩
      have HW := Hid.mk (And.intro hc1 (And.intro hp2 hr2))
      have HRo := Hid.mk (rdp_one w1 ⟨ky, x, y, v⟩)
      clear hc1 hp2 hr2
      go_wp2_with (at_builtin; refine wpl_append rfl (.tmp 24) (.tmp 27) 59 rfl wb.heap.size 44 i0 _ 4 32 Try.underlying59 hi hz0 hz1 hz2 rfl (by omega) _ X.length _ rfl (own_keep HK.out.2.2 (HW.out.1.alloc _) (fun k hk h => by have := own_ge HK.out.2.2 k hk; omega)) _ (some ⟨w1.heap.size, 0, none⟩) 1 1 _ rfl HRo.out (pts_one _) (by simp only [maxLen]; omega) (by omega) (by have := HK.out.2.1.size; have := HW.out.1.size; simp; omega) ?_; intro v2 w2 o2 g2; have H2 := Hid.mk (And.intro (pts_row (o := ⟨ky, x, y, v⟩) HK.out.2.2 HK.out.2.1 HW.out.1 (by simpa using o2) g2) (((Chg.refl (fun j => w.heap.size < j) w1).alloc _).trans g2.chg (fun i _ hm => by have := own_ge HK.out.2.2 i hm; show w.heap.size < i; omega))); obtain ⟨A9, c9, hv9, _, _⟩ := own_form o2; subst hv9; clear o2 g2)
      go_roundw
      case rel =>
        refine ⟨X.length + 1, by omega, ⟨A2, c' - 16, ?_, ?_, by omega, by omega⟩, by rw [HK.out.1]; simpa using H2.out.1.1, H2.out.1.2⟩
        · have h := HW.out.2.1.keep H2.out.2 (fun h => absurd h (Nat.lt_irrefl _))
          rw [show n - 16 * (X.length + 1) = n - 16 * X.length - 16 by omega]
          exact h
        · have h := HW.out.2.2.keep H2.out.2 (fun k hk hj => by have := hk.2; have hj' : w.heap.size < k := hj; omega)
          rw [List.drop_drop, show 16 * X.length + 16 = 16 * (X.length + 1) by omega] at h
          rw [show n - 16 * (X.length + 1) = n - 16 * X.length - 16 by omega]
          exact h
      case measure => simp [sliceLen]; omega
    · obtain rfl : k = m := by omega
      rw [List.take_of_length_le (by rw [ptsOf_len]; exact Nat.le_refl _)] at hown hXl
      rw [show n - 16 * k = 0 by have := HN.out; omega] at x0
      have hM := rises_any G k gc (ptsOf k bs) _ wr (Rds.of_own hown) (by omega)
      have hmay : mayP (ptsOf k bs) = if risesP (ptsOf k bs) then 0 else 1 := by unfold mayP; rw [if_neg (by rw [hXl]; omega)]
      have HM := Hid.mk hM
      have HK := Hid.mk (And.intro hmay (And.intro (H0.out.1.trans hch (fun i hi h => by omega)) hown))
      have hs1 := H0.out.2.1
      clear hM hch hown hmay hp hrd'
      go_wp2_with fail
      refine HM.out.mono ?_
      rintro e w1 ⟨rfl, hc1⟩
      have H1 := Hid.mk (And.intro (HK.out.2.1.trans hc1 (fun _ _ h => h)) (own_keep HK.out.2.2 hc1 (fun _ _ h => h)))
      clear hc1
      cases h0 : risesP (ptsOf k bs) with
      | true =>
        have hr : readP bs = some (ptsOf k bs) := by rw [HD.out, HK.out.1, h0]; rfl
        have HR := Hid.mk (And.intro hr hXl)
        clear hr h0 hXl
        go_wp2_with fail
        go_ret2
        rw [HR.out.1]
        exact ⟨⟨_, rfl, by rw [HR.out.2]; exact own_base H1.out.2 (fun k hk => by have := own_ge H1.out.2 k hk; omega)⟩, H1.out.1⟩
      | false =>
        have hr : readP bs = none := by rw [HD.out, HK.out.1, h0]; rfl
        have HR := Hid.mk hr
        clear hr hXl h0
        go_wp2_with fail
        go_ret2
        rw [HR.out]
        exact ⟨rfl, H1.out.1⟩
end Go.Proofs.Ytmbmfhpdajdpfaa
