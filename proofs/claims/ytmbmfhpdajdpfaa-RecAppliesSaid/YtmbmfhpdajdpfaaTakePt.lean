/- The contract of rec.take: a point off the front. -/
import Derived.Test.YtmbmfhpdajdpfaaDec
import Derived.Test.YtmbmfhpdajdpfaaCells
namespace Go.Proofs.Ytmbmfhpdajdpfaa
open Go.RowKit

theorem unB4 (l : List UInt8) : unB (l.take 4) < 4294967296 :=
  Nat.lt_of_lt_of_le (unB_lt _) (Nat.le_trans (Nat.pow_le_pow_right (by omega) (by rw [List.length_take]; omega : (l.take 4).length ≤ 4)) (by decide))

theorem w3264 (n : Int) : wrap64 (wrap32 n) = IntKind.i32.wrap n := by
  have h : -2147483648 ≤ wrap32 n ∧ wrap32 n ≤ 2147483647 := by unfold wrap32; omega
  generalize hm : wrap32 n = m at *
  rw [wrapI32]
  unfold wrap32 at hm
  rw [hm]
  unfold wrap64
  omega

set_option maxHeartbeats 2000000 in
set_option maxRecDepth 100000 in
theorem takePt_ok (p : Nat) (A : Option Addr) (c n : Nat) (bs : List UInt8) (bad : Bool) (S : Nat → Prop) (w : World)
    (hp : Bk w p 83 #[.slice A n c, .bool bad]) (hr : RdB w S A n bs) (hS : ¬ S p) (hSw : ∀ k, S k → k < w.heap.size) (hle : 16 ≤ n) (hc : n ≤ c) (hcm : c ≤ maxLen) :
    Calls Try.prog 46 #[.pointer (some ⟨p, 0, none⟩)] w fun e w' => e = .returned (.agg (unPt bs).cs.toArray) ∧
      Chg (· = p) w w' ∧ ∃ A', Bk w' p 83 #[.slice A' (n - 16) (c - 16), .bool bad] ∧ RdB w' S A' (n - 16) (bs.drop 16) := by
  have hlt := hp.lt
  have hlen := hr.len
  have b1 := unB4 bs
  have b2 := unB4 (bs.drop 4)
  have b3 := unB4 (bs.drop 8)
  have b4 := unB4 (bs.drop 12)
  have hB := Bk.new w 44 #[.int .i64 0, .int .i64 0, .int .i64 0, .int .i64 0]
  have hA : Chg Nil w (w.alloc (.cells #[.int .i64 0, .int .i64 0, .int .i64 0, .int .i64 0] 44)) := (Chg.refl _ _).alloc _
  have HH := Hid.mk (And.intro (hp.alloc (.cells #[.int .i64 0, .int .i64 0, .int .i64 0, .int .i64 0] 44)) (And.intro (hr.keep hA (fun _ _ h => h)) (And.intro hS (And.intro hB hSw))))
  clear hp hr hS hB hA hSw
  simp only [unPt, Pt.cs]
  generalize g1 : unB (bs.take 4) = N1 at *
  generalize g2 : unB ((bs.drop 4).take 4) = N2 at *
  generalize g3 : unB ((bs.drop 8).take 4) = N3 at *
  generalize g4 : unB ((bs.drop 12).take 4) = N4 at *
  have hw4 := w3264 (N4 : Int)
  generalize IntKind.i32.wrap (N4 : Int) = V4 at *
  have G := Hid.mk (And.intro g1 (And.intro g2 (And.intro g3 g4)))
  clear g1 g2 g3 g4
  go_enter Try.func46, Try.ntmps46
  go_wp2_with fail
  refine (take_any p A c n bs bad S 4 _ HH.out.1 HH.out.2.1 HH.out.2.2.1 (by omega) (by omega) (by omega) hc hcm).mono ?_
  rintro e w1 ⟨rfl, hc1, A1, hp1, hr1⟩
  rw [G.out.1]
  have H1 := Hid.mk (And.intro hc1 (And.intro hp1 hr1))
  clear hc1 hp1 hr1
  go_wp2_with fail
  refine (take_any p A1 (c - 4) (n - 4) (bs.drop 4) bad S 4 _ H1.out.2.1 H1.out.2.2 HH.out.2.2.1 (by omega) (by omega) (by omega) (by omega) (by omega)).mono ?_
  rintro e w2 ⟨rfl, hc2, A2, hp2, hr2⟩
  rw [G.out.2.1]
  have H2 := Hid.mk (And.intro (H1.out.1.trans hc2 (fun _ _ h => h)) (And.intro hp2 hr2))
  clear hc2 hp2 hr2
  go_wp2_with fail
  refine (take_any p A2 (c - 4 - 4) (n - 4 - 4) ((bs.drop 4).drop 4) bad S 4 _ H2.out.2.1 H2.out.2.2 HH.out.2.2.1 (by omega) (by omega) (by omega) (by omega) (by omega)).mono ?_
  rintro e w3 ⟨rfl, hc3, A3, hp3, hr3⟩
  rw [show ((bs.drop 4).drop 4) = bs.drop 8 by rw [List.drop_drop], G.out.2.2.1]
  have H3 := Hid.mk (And.intro (H2.out.1.trans hc3 (fun _ _ h => h)) (And.intro hp3 hr3))
  clear hc3 hp3 hr3
  go_wp2_with fail
  refine (take_any p A3 (c - 4 - 4 - 4) (n - 4 - 4 - 4) (((bs.drop 4).drop 4).drop 4) bad S 4 _ H3.out.2.1 H3.out.2.2 HH.out.2.2.1 (by omega) (by omega) (by omega) (by omega) (by omega)).mono ?_
  rintro e w4 ⟨rfl, hc4, A4, hp4, hr4⟩
  rw [show (((bs.drop 4).drop 4).drop 4) = bs.drop 12 by rw [List.drop_drop, List.drop_drop], G.out.2.2.2]
  have hch := H3.out.1.trans hc4 (fun _ _ h => h)
  have hB : Bk w4 w.heap.size 44 #[.int .i64 0, .int .i64 0, .int .i64 0, .int .i64 0] := HH.out.2.2.2.1.keep hch (by omega)
  have f0 := hB.free 0
  have f1 := hB.free 1
  have f2 := hB.free 2
  have f3 := hB.free 3
  have c0 := hB.cell 0 rfl
  have c1 := hB.cell 1 rfl
  have c2 := hB.cell 2 rfl
  have c3 := hB.cell 3 rfl
  have H4 := Hid.mk (And.intro hch (And.intro hp4 (And.intro hr4 hB)))
  clear hch hp4 hr4 hc4 hB
  go_wp2_with fail
  have hE : Bk ((((w4.setCell ⟨w.heap.size, 0, none⟩ (.int .i64 N1)).setCell ⟨w.heap.size, 1, none⟩ (.int .i64 N2)).setCell ⟨w.heap.size, 2, none⟩ (.int .i64 N3)).setCell ⟨w.heap.size, 3, none⟩ (.int .i64 V4)) w.heap.size 44 #[.int .i64 N1, .int .i64 N2, .int .i64 N3, .int .i64 V4] := (((H4.out.2.2.2.set 0 _).set 1 _).set 2 _).set 3 _
  have hne : p ≠ w.heap.size := by omega
  have hch : Chg (· = p) w ((((w4.setCell ⟨w.heap.size, 0, none⟩ (.int .i64 N1)).setCell ⟨w.heap.size, 1, none⟩ (.int .i64 N2)).setCell ⟨w.heap.size, 2, none⟩ (.int .i64 N3)).setCell ⟨w.heap.size, 3, none⟩ (.int .i64 V4)) :=
    (((((Chg.refl _ _).alloc _).trans H4.out.1 (fun _ _ h => h)).setCell (fun h => absurd h (Nat.lt_irrefl _)) _).setCell (fun h => absurd h (Nat.lt_irrefl _)) _ |>.setCell (fun h => absurd h (Nat.lt_irrefl _)) _).setCell (fun h => absurd h (Nat.lt_irrefl _)) _
  have hP : Bk ((((w4.setCell ⟨w.heap.size, 0, none⟩ (.int .i64 N1)).setCell ⟨w.heap.size, 1, none⟩ (.int .i64 N2)).setCell ⟨w.heap.size, 2, none⟩ (.int .i64 N3)).setCell ⟨w.heap.size, 3, none⟩ (.int .i64 V4)) p 83 #[.slice A4 (n - 16) (c - 16), .bool bad] := by
    have h := (((H4.out.2.1.far (p := ⟨w.heap.size, 0, none⟩) hne (.int .i64 N1)).far (p := ⟨w.heap.size, 1, none⟩) hne (.int .i64 N2)).far (p := ⟨w.heap.size, 2, none⟩) hne (.int .i64 N3)).far (p := ⟨w.heap.size, 3, none⟩) hne (.int .i64 V4)
    rw [show n - 4 - 4 - 4 - 4 = n - 16 by omega, show c - 4 - 4 - 4 - 4 = c - 16 by omega] at h
    exact h
  have hR : RdB ((((w4.setCell ⟨w.heap.size, 0, none⟩ (.int .i64 N1)).setCell ⟨w.heap.size, 1, none⟩ (.int .i64 N2)).setCell ⟨w.heap.size, 2, none⟩ (.int .i64 N3)).setCell ⟨w.heap.size, 3, none⟩ (.int .i64 V4)) S A4 (n - 16) (bs.drop 16) := by
    have h := H4.out.2.2.1.keep (T := (· = w.heap.size)) (((((Chg.refl (· = w.heap.size) w4).setCell (p := ⟨w.heap.size, 0, none⟩) (fun _ => rfl) (.int .i64 N1)).setCell (p := ⟨w.heap.size, 1, none⟩) (fun _ => rfl) (.int .i64 N2)).setCell (p := ⟨w.heap.size, 2, none⟩) (fun _ => rfl) (.int .i64 N3)).setCell (p := ⟨w.heap.size, 3, none⟩) (fun _ => rfl) (.int .i64 V4)) (fun k hs hk => by
      have := HH.out.2.2.2.2 k hs
      omega)
    rw [show n - 4 - 4 - 4 - 4 = n - 16 by omega, List.drop_drop, List.drop_drop, List.drop_drop] at h
    exact h
  exact bodyPost_ret (results_cell_row rfl _ _ w.heap.size 44 _ (0, 0) _ rfl hE Try.underlying44 rfl (by kernel_rfl)) rfl ⟨rfl, hch, A4, hP, hR⟩
/-- Four bytes off the front, if they are there or not. -/
theorem take_either (p : Nat) (A : Option Addr) (c n : Nat) (bs : List UInt8) (bad : Bool) (S : Nat → Prop) (w : World)
    (hp : Bk w p 83 #[.slice A n c, .bool bad]) (hr : RdB w S A n bs) (hS : ¬ S p) (hc : n ≤ c) (hcm : c ≤ maxLen) :
    Calls Try.prog 45 #[.pointer (some ⟨p, 0, none⟩), .int .i64 4] w fun e w' => ∃ (N : Nat) (A' : Option Addr) (c' n' : Nat) (bs' : List UInt8) (bad' : Bool), e = .returned (.int .u64 N) ∧ N < 4294967296 ∧
      Chg (· = p) w w' ∧ Bk w' p 83 #[.slice A' n' c', .bool bad'] ∧ RdB w' S A' n' bs' ∧ n' ≤ n - 4 ∧ n' ≤ c' ∧ c' ≤ maxLen := by
  by_cases h4 : n < 4
  · refine (take_short p A c n bad 4 w hp h4).mono ?_
    rintro e w1 ⟨rfl, hc1, hp1⟩
    exact ⟨0, none, 0, 0, [], true, rfl, by omega, hc1, hp1, RdB.nil, by omega, Nat.le_refl _, by simp [maxLen]⟩
  · refine (take_any p A c n bs bad S 4 w hp hr hS (by omega) (by omega) (by omega) hc hcm).mono ?_
    rintro e w1 ⟨rfl, hc1, A1, hp1, hr1⟩
    exact ⟨_, A1, c - 4, n - 4, _, bad, rfl, unB4 bs, hc1, hp1, hr1, Nat.le_refl _, by omega, by omega⟩

set_option maxHeartbeats 2000000 in
set_option maxRecDepth 100000 in
theorem takePt_short (p : Nat) (A : Option Addr) (c n : Nat) (bs : List UInt8) (bad : Bool) (S : Nat → Prop) (w : World)
    (hp : Bk w p 83 #[.slice A n c, .bool bad]) (hr : RdB w S A n bs) (hS : ¬ S p) (hle : n < 16) (hc : n ≤ c) (hcm : c ≤ maxLen) :
    Calls Try.prog 46 #[.pointer (some ⟨p, 0, none⟩)] w fun e w' => (∃ q : Pt, e = .returned (.agg q.cs.toArray)) ∧
      Chg (· = p) w w' ∧ Bk w' p 83 #[.slice none 0 0, .bool true] := by
  have hlt := hp.lt
  have hB := Bk.new w 44 #[.int .i64 0, .int .i64 0, .int .i64 0, .int .i64 0]
  have hA : Chg Nil w (w.alloc (.cells #[.int .i64 0, .int .i64 0, .int .i64 0, .int .i64 0] 44)) := (Chg.refl _ _).alloc _
  have HH := Hid.mk (And.intro (hp.alloc (.cells #[.int .i64 0, .int .i64 0, .int .i64 0, .int .i64 0] 44)) (And.intro (hr.keep hA (fun _ _ h => h)) (And.intro hS hB)))
  clear hp hr hS hB hA
  go_enter Try.func46, Try.ntmps46
  go_wp2_with fail
  refine (take_either p A c n bs bad S _ HH.out.1 HH.out.2.1 HH.out.2.2.1 hc hcm).mono ?_
  rintro e w1 ⟨N1, A1, m1, n1, s1, d1, rfl, q1, hc1, hp1, hr1, hn1, hk1, hm1⟩
  have H1 := Hid.mk (And.intro hc1 (And.intro hp1 hr1))
  clear hc1 hp1 hr1
  go_wp2_with fail
  refine (take_either p A1 m1 n1 s1 d1 S _ H1.out.2.1 H1.out.2.2 HH.out.2.2.1 hk1 hm1).mono ?_
  rintro e w2 ⟨N2, A2, m2, n2, s2, d2, rfl, q2, hc2, hp2, hr2, hn2, hk2, hm2⟩
  have H2 := Hid.mk (And.intro (H1.out.1.trans hc2 (fun _ _ h => h)) (And.intro hp2 hr2))
  clear hc2 hp2 hr2
  go_wp2_with fail
  refine (take_either p A2 m2 n2 s2 d2 S _ H2.out.2.1 H2.out.2.2 HH.out.2.2.1 hk2 hm2).mono ?_
  rintro e w3 ⟨N3, A3, m3, n3, s3, d3, rfl, q3, hc3, hp3, hr3, hn3, hk3, hm3⟩
  have H3 := Hid.mk (And.intro (H2.out.1.trans hc3 (fun _ _ h => h)) (And.intro hp3 hr3))
  clear hc3 hp3 hr3
  go_wp2_with fail
  refine (take_short p A3 m3 n3 d3 4 _ H3.out.2.1 (by omega)).mono ?_
  rintro e w4 ⟨rfl, hc4, hp4⟩
  have hch := H3.out.1.trans hc4 (fun _ _ h => h)
  have hB : Bk w4 w.heap.size 44 #[.int .i64 0, .int .i64 0, .int .i64 0, .int .i64 0] := HH.out.2.2.2.keep hch (by omega)
  have f0 := hB.free 0
  have f1 := hB.free 1
  have f2 := hB.free 2
  have f3 := hB.free 3
  have c0 := hB.cell 0 rfl
  have c1 := hB.cell 1 rfl
  have c2 := hB.cell 2 rfl
  have c3 := hB.cell 3 rfl
  have H4 := Hid.mk (And.intro hch (And.intro hp4 hB))
  clear hch hp4 hc4 hB
  go_wp2_with fail
  have hE : Bk ((((w4.setCell ⟨w.heap.size, 0, none⟩ (.int .i64 N1)).setCell ⟨w.heap.size, 1, none⟩ (.int .i64 N2)).setCell ⟨w.heap.size, 2, none⟩ (.int .i64 N3)).setCell ⟨w.heap.size, 3, none⟩ (.int .i64 0)) w.heap.size 44 #[.int .i64 N1, .int .i64 N2, .int .i64 N3, .int .i64 0] := (((H4.out.2.2.set 0 _).set 1 _).set 2 _).set 3 _
  have hne : p ≠ w.heap.size := by omega
  have hch : Chg (· = p) w ((((w4.setCell ⟨w.heap.size, 0, none⟩ (.int .i64 N1)).setCell ⟨w.heap.size, 1, none⟩ (.int .i64 N2)).setCell ⟨w.heap.size, 2, none⟩ (.int .i64 N3)).setCell ⟨w.heap.size, 3, none⟩ (.int .i64 0)) :=
    (((((Chg.refl _ _).alloc _).trans H4.out.1 (fun _ _ h => h)).setCell (fun h => absurd h (Nat.lt_irrefl _)) _).setCell (fun h => absurd h (Nat.lt_irrefl _)) _ |>.setCell (fun h => absurd h (Nat.lt_irrefl _)) _).setCell (fun h => absurd h (Nat.lt_irrefl _)) _
  have hP : Bk ((((w4.setCell ⟨w.heap.size, 0, none⟩ (.int .i64 N1)).setCell ⟨w.heap.size, 1, none⟩ (.int .i64 N2)).setCell ⟨w.heap.size, 2, none⟩ (.int .i64 N3)).setCell ⟨w.heap.size, 3, none⟩ (.int .i64 0)) p 83 #[.slice none 0 0, .bool true] :=
    (((H4.out.2.1.far (p := ⟨w.heap.size, 0, none⟩) hne (.int .i64 N1)).far (p := ⟨w.heap.size, 1, none⟩) hne (.int .i64 N2)).far (p := ⟨w.heap.size, 2, none⟩) hne (.int .i64 N3)).far (p := ⟨w.heap.size, 3, none⟩) hne (.int .i64 0)
  exact bodyPost_ret (results_cell_row rfl _ _ w.heap.size 44 _ (0, 0) _ rfl hE Try.underlying44 rfl (by kernel_rfl)) rfl ⟨⟨⟨N1, N2, N3, 0⟩, rfl⟩, hch, hP⟩
end Go.Proofs.Ytmbmfhpdajdpfaa
