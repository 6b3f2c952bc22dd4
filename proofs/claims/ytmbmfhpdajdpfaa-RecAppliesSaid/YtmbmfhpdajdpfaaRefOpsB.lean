/- The document's Ops. -/
import Derived.Test.YtmbmfhpdajdpfaaRefDec
namespace Go.Proofs.Ytmbmfhpdajdpfaa
open Go.RowKit

/-- What Ops answers: ops in new memory, or nothing. -/
def OpsIs (B : Nat) (r : Option (List Oq)) (e : Ending) (w' : World) : Prop :=
  match r with
  | some l => ∃ v, e = .returned (.tuple #[v, .int .i64 0]) ∧ w'.ownsRow B 46 5 v l.length (l.flatMap Oq.cs)
  | none => e = .returned (.tuple #[.slice none 0 0, .int .i64 10])

theorem ops_row {S : Nat → Prop} {w wr W w2 : World} {u v2 : Value} {X : List Oq} {o : Oq} {ob : Obj} {T : TypeId} (hown : wr.ownsRow w.heap.size T 5 u X.length (X.flatMap Oq.cs)) (hc : Chg S w wr) (hW : Chg S wr W)
    (o2 : w2.ownsRow w.heap.size T 5 v2 (X.length + 1) (X.flatMap Oq.cs ++ o.cs)) (g2 : Grew (W.alloc ob) u w2 v2) :
    w2.ownsRow w.heap.size T 5 v2 (X ++ [o]).length ((X ++ [o]).flatMap Oq.cs) ∧ Chg S w w2 := by
  refine ⟨by simpa using o2, ((hc.trans hW (fun _ _ h => h)).trans ((Chg.refl S W).alloc ob) (fun _ _ h => h)).trans g2.chg (fun i hi hm => ?_)⟩
  have := own_ge hown i hm
  omega
theorem no_old {S : Nat → Prop} {n : Nat} : n < n → S n := fun h => absurd h (Nat.lt_irrefl _)
theorem str_cut (l : List UInt8) (a n : Nat) : (⟨((l.drop a).take n).toArray⟩ : ByteArray) = (ByteArray.mk l.toArray).extract a (a + n) := by
  apply ByteArray.ext
  simp [ByteArray.data_extract, List.take_drop]
theorem unPt_take (t : List UInt8) : unPt (t.take 16) = unPt t := by
  simp [unPt, List.take_take, List.drop_take]

set_option maxHeartbeats 2000000 in
set_option maxRecDepth 100000 in
theorem rops_any (bs : List UInt8) (w : World) (hn : bs.length ≤ 1000000) :
    Calls Try.prog 26 #[.string ⟨bs.toArray⟩] w fun e w' => OpsIs w.heap.size (opsD bs) e w' ∧ Chg Nil w w' := by
  obtain ⟨i0, hi, hz0, hz1, hz2⟩ := info_parts Try.infoOp5
  have hsz : (ByteArray.mk bs.toArray).size = bs.length := by simp [ByteArray.size]
  generalize hn' : bs.length = n at *
  have HL := Hid.mk hn'
  clear hn'
  go_enter Try.func26, Try.ntmps26
  go_wp2_with fail
  go_loopw [4, 5, 6] (fun out e o wr => ∃ (X : List Oq) (at_ : Nat), e = .int .i64 (at_ : Int) ∧ at_ ≤ n ∧ X.length ≤ at_ ∧ Dec bs (bs.drop at_) X ∧ wr.ownsRow w.heap.size 46 5 out X.length (X.flatMap Oq.cs) ∧ Chg Nil w wr) (fun _ e _ _ => n - (intOf e).toNat)
  case atStart => exact ⟨[], 0, rfl, Nat.zero_le _, Nat.le_refl _, Dec.start _, ⟨rfl, .inl ⟨rfl, rfl⟩⟩, Chg.refl _ _⟩
  case round =>
    obtain ⟨X, at_, rfl, hat, hX, hdec, hown, hch⟩ := hrel
    by_cases hlt : at_ < n
    · have hbe : at_ < bs.length := by rw [HL.out]; exact hlt
      have hcat := str_at hbe
      have hdr : bs.drop at_ = bs[at_] :: bs.drop (at_ + 1) := List.drop_eq_getElem_cons hbe
      have h256 := bs[at_].toNat_lt
      have htl : (bs.drop (at_ + 1)).length = n - (at_ + 1) := by rw [List.length_drop, HL.out]
      rw [hdr] at hdec
      generalize bs[at_] = c at *
      by_cases h1 : c = 1
      · subst h1
        have hc1 : ((1 : UInt8).toNat : Int) = 1 := rfl
        have ht1 : (1 : UInt8).toNat = 1 := rfl
        have h16 : opLen 1 = 16 := rfl
        by_cases hs : 16 ≤ n - (at_ + 1)
        · have hstep := hdec.step (by rw [h16, htl]; exact hs)
          rw [h16, List.drop_drop, show at_ + 1 + 16 = at_ + 17 by omega] at hstep
          have hop : opAt 1 (bs.drop (at_ + 1)) = ⟨1, unPt (bs.drop (at_ + 1))⟩ := rfl
          rw [hop] at hstep
          have hU := fun W => unpoint_any ((bs.drop (at_ + 1)).take 16) W (by rw [List.length_take, htl]; omega)
          rw [unPt_take, str_cut] at hU
          generalize unPt (bs.drop (at_ + 1)) = q at *
          obtain ⟨k, x, y, v⟩ := q
          simp only [Pt.cs] at hU
          have HU := Hid.mk hU
          have HK := Hid.mk (And.intro hstep (And.intro hch hown))
          clear hU hstep hop hch hown hdec hdr htl
          go_wp2_with fail
          refine (HU.out _).mono ?_
          rintro e w1 ⟨rfl, hc1'⟩
          have hcw : Chg Nil wr w1 := ((Chg.refl Nil wr).alloc _).trans hc1' (fun _ _ h => h)
          have hB : Bk w1 wr.heap.size 46 #[.int .i64 1, .int .i64 0, .int .i64 0, .int .i64 0, .int .i64 0] := (Bk.new wr _ _).keep hc1' (fun h => h)
          have f1 := hB.free 1
          have f2 := hB.free 2
          have f3 := hB.free 3
          have f4 := hB.free 4
          have c0 := hB.cell 0 rfl
          have c1 := hB.cell 1 rfl
          have c2 := hB.cell 2 rfl
          have c3 := hB.cell 3 rfl
          have c4 := hB.cell 4 rfl
          have HW := Hid.mk (And.intro hcw hB)
          clear hcw hB hc1'
          have HC : Hid (∀ W, W = (((w1.setCell ⟨wr.heap.size, 1, none⟩ (.int .i64 k)).setCell ⟨wr.heap.size, 2, none⟩ (.int .i64 x)).setCell ⟨wr.heap.size, 3, none⟩ (.int .i64 y)).setCell ⟨wr.heap.size, 4, none⟩ (.int .i64 v) →
              Chg Nil wr W ∧ RdO (W.alloc (.cells #[.int .i64 1, .int .i64 k, .int .i64 x, .int .i64 y, .int .i64 v] 46)) (fun j => j = w1.heap.size) (some ⟨w1.heap.size, 0, none⟩) 1 [⟨1, ⟨k, x, y, v⟩⟩]) := Hid.mk (fun W hW => by
            have hs1 : W.heap.size = w1.heap.size := by rw [hW]; simp
            have h2 := rdo_one W ⟨1, ⟨k, x, y, v⟩⟩
            rw [hs1] at h2
            refine ⟨?_, h2⟩
            rw [hW]
            exact (((HW.out.1.setCell no_old _).setCell no_old _).setCell no_old _).setCell no_old _)
          go_wp2_with (at_builtin; obtain ⟨W, hW⟩ : ∃ W, W = (((w1.setCell ⟨wr.heap.size, 1, none⟩ (.int .i64 k)).setCell ⟨wr.heap.size, 2, none⟩ (.int .i64 x)).setCell ⟨wr.heap.size, 3, none⟩ (.int .i64 y)).setCell ⟨wr.heap.size, 4, none⟩ (.int .i64 v) := ⟨_, rfl⟩; rw [← hW]; have HD := Hid.mk (HC.out W hW); clear hW; refine wpl_append rfl (.tmp 60) (.tmp 62) 42 rfl w.heap.size 46 i0 _ 5 40 Try.underlying42 hi hz0 hz1 hz2 rfl (by omega) _ X.length _ rfl (own_keep HK.out.2.2 (HD.out.1.alloc _) (fun _ _ h => h)) _ (some ⟨w1.heap.size, 0, none⟩) 1 1 _ rfl HD.out.2 (ops_one _) (by simp only [maxLen]; omega) (by omega) (by have := HK.out.2.1.size; have := HD.out.1.size; simp; omega) ?_; intro v2 w2 o2 g2; have H2 := Hid.mk (ops_row (o := ⟨1, ⟨k, x, y, v⟩⟩) HK.out.2.2 HK.out.2.1 HD.out.1 (by simpa using o2) g2); clear o2 g2)
          go_roundw
          case rel => exact ⟨_, at_ + 17, by go_num, by omega, by simp; omega, HK.out.1, H2.out.1, H2.out.2⟩
          case measure => simp [intOf]; omega
        · have hn1 : opsD bs = none := hdec.short (by rw [h16, htl]; omega)
          have HK := Hid.mk (And.intro hn1 hch)
          clear hn1 hch hdec hdr htl hown
          go_wp2_with fail
          go_ret2
          rw [HK.out.1]
          exact ⟨rfl, HK.out.2.alloc _⟩
      · have e1 : ((c.toNat : Int) == 1) = false := by
          rw [beq_eq_false_iff_ne]
          exact fun h => h1 (UInt8.toNat_inj.1 (by show c.toNat = 1; omega))
        by_cases h2 : c = 2
        · subst h2
          have hc1 : ((2 : UInt8).toNat : Int) = 2 := rfl
          have ht1 : (2 : UInt8).toNat = 2 := rfl
          have h4 : opLen 2 = 4 := rfl
          by_cases hs : 4 ≤ n - (at_ + 1)
          · have hstep := hdec.step (by rw [h4, htl]; exact hs)
            rw [h4, List.drop_drop, show at_ + 1 + 4 = at_ + 5 by omega] at hstep
            have hop : opAt 2 (bs.drop (at_ + 1)) = ⟨2, ⟨(unB ((bs.drop (at_ + 1)).take 4) : Nat), 0, 0, 0⟩⟩ := rfl
            rw [hop] at hstep
            have b4 := unB4 (bs.drop (at_ + 1))
            have hU := fun W => unn_any ((bs.drop (at_ + 1)).take 4) (by rw [List.length_take]; omega) W
            rw [str_cut] at hU
            generalize unB ((bs.drop (at_ + 1)).take 4) = N at *
            have HU := Hid.mk hU
            have HK := Hid.mk (And.intro hstep (And.intro hch hown))
            clear hU hstep hop hch hown hdec hdr htl h1
            go_wp2_with fail
            refine (HU.out _).mono ?_
            rintro e w1 ⟨rfl, rfl⟩
            have HC : Hid (∀ W, W = wr.alloc (.cells #[.int .i64 2, .int .i64 N, .int .i64 0, .int .i64 0, .int .i64 0] 46) →
                Chg Nil wr W ∧ RdO (W.alloc (.cells #[.int .i64 2, .int .i64 N, .int .i64 0, .int .i64 0, .int .i64 0] 46)) (fun j => j = wr.heap.size + 1) (some ⟨wr.heap.size + 1, 0, none⟩) 1 [⟨2, ⟨N, 0, 0, 0⟩⟩]) := Hid.mk (fun W hW => by
              have hs1 : W.heap.size = wr.heap.size + 1 := by rw [hW]; simp
              have h2 := rdo_one W ⟨2, ⟨N, 0, 0, 0⟩⟩
              rw [hs1] at h2
              refine ⟨?_, h2⟩
              rw [hW]
              exact (Chg.refl Nil wr).alloc _)
            go_wp2_with (at_builtin; obtain ⟨W, hW⟩ : ∃ W, W = wr.alloc (.cells #[.int .i64 2, .int .i64 N, .int .i64 0, .int .i64 0, .int .i64 0] 46) := ⟨_, rfl⟩; rw [← hW]; have HD := Hid.mk (HC.out W hW); clear hW; refine wpl_append rfl (.tmp 60) (.tmp 62) 42 rfl w.heap.size 46 i0 _ 5 40 Try.underlying42 hi hz0 hz1 hz2 rfl (by omega) _ X.length _ rfl (own_keep HK.out.2.2 (HD.out.1.alloc _) (fun _ _ h => h)) _ (some ⟨wr.heap.size + 1, 0, none⟩) 1 1 _ rfl HD.out.2 (ops_one _) (by simp only [maxLen]; omega) (by omega) (by have := HK.out.2.1.size; have := HD.out.1.size; simp; omega) ?_; intro v2 w2 o2 g2; have H2 := Hid.mk (ops_row (o := ⟨2, ⟨N, 0, 0, 0⟩⟩) HK.out.2.2 HK.out.2.1 HD.out.1 (by simpa using o2) g2); clear o2 g2)
            go_roundw
            case rel => exact ⟨_, at_ + 5, by go_num, by omega, by simp; omega, HK.out.1, H2.out.1, H2.out.2⟩
            case measure => simp [intOf]; omega
          · have hn1 : opsD bs = none := hdec.short (by rw [h4, htl]; omega)
            have HK := Hid.mk (And.intro hn1 hch)
            clear hn1 hch hdec hdr htl hown h1
            go_wp2_with fail
            go_ret2
            rw [HK.out.1]
            exact ⟨rfl, HK.out.2.alloc _⟩
        · have e2 : ((c.toNat : Int) == 2) = false := by
            rw [beq_eq_false_iff_ne]
            exact fun h => h2 (UInt8.toNat_inj.1 (by show c.toNat = 2; omega))
          have hn1 : opsD bs = none := hdec.kind h1 h2
          have HK := Hid.mk (And.intro hn1 hch)
          clear hn1 hch hdec hdr htl hown h1 h2
          go_wp2_with fail
          go_ret2
          rw [HK.out.1]
          exact ⟨rfl, HK.out.2.alloc _⟩
    · have hkn : at_ = n := by omega
      subst hkn
      rw [List.drop_of_length_le (by rw [HL.out]; exact Nat.le_refl _)] at hdec
      have hd := hdec.done
      obtain ⟨A, cp, rfl, _, _⟩ := own_form hown
      have hm := rmay_any A X.length cp X _ wr (Rds.of_own hown) (by omega)
      have HM := Hid.mk hm
      have HK := Hid.mk (And.intro hd (And.intro hch hown))
      clear hd hdec hch hown hm
      go_wp2_with fail
      refine HM.out.mono ?_
      rintro e w1 ⟨rfl, hc1⟩
      have H1 := Hid.mk (And.intro (HK.out.2.1.trans hc1 (fun _ _ h => h)) (own_keep HK.out.2.2 hc1 (fun _ _ h => h)))
      clear hc1
      by_cases h0 : batE X = 0
      · have hr : opsD bs = some X := by rw [HK.out.1, if_pos h0]
        have HR := Hid.mk hr
        rw [h0]
        clear hr h0
        go_wp2_with fail
        go_ret2
        rw [HR.out]
        exact ⟨⟨_, rfl, H1.out.2⟩, H1.out.1⟩
      · have hr : opsD bs = none := by rw [HK.out.1, if_neg h0]
        have HR := Hid.mk hr
        generalize batE X = E at *
        have hE : ((E : Int) == 0) = false := by rw [beq_eq_false_iff_ne]; omega
        clear hr
        go_wp2_with fail
        go_ret2
        rw [HR.out]
        exact ⟨rfl, H1.out.1⟩
end Go.Proofs.Ytmbmfhpdajdpfaa
