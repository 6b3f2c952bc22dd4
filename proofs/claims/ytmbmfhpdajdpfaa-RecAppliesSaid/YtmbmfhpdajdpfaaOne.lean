/- The contract of rec.one: the record at the front, or none. -/
import Derived.Test.YtmbmfhpdajdpfaaTake
namespace Go.Proofs.Ytmbmfhpdajdpfaa
open Go.RowKit

/-- What 'one' answers. -/
def OneIs (S : Nat → Prop) (o : Option (List UInt8)) (e : Ending) (w' : World) : Prop :=
  match o with
  | none => e = .returned (.tuple #[.slice none 0 0, .bool false])
  | some body => ∃ A c, e = .returned (.tuple #[.slice A body.length c, .bool true]) ∧ body.length ≤ c ∧ c ≤ maxLen ∧ RdB w' S A body.length body

set_option maxHeartbeats 1000000 in
set_option maxRecDepth 100000 in
theorem one_any (gen : Nat) (A : Option Addr) (c n : Nat) (bs : List UInt8) (S : Nat → Prop) (w : World) (hr : RdB w S A n bs) (hc : n ≤ c) (hcm : c ≤ maxLen) :
    Calls Try.prog 35 #[.slice A n c, .int .u64 gen] w fun e w' => OneIs S (oneR gen bs) e w' ∧ Below w.heap.size w w' := by
  have hn := hr.len
  by_cases h12 : n ≤ 12
  · have ho : oneR gen bs = none := by simp [oneR, hn, h12]
    rw [ho]
    clear hr ho hn
    go_enter Try.func35, Try.ntmps35
    go_wp2
    go_ret2
    exact ⟨rfl, Below.refl _ _⟩
  · unfold maxLen at hcm
    obtain ⟨b, off, rfl, hb, hlt, hx0⟩ := hr.plain (by omega)
    have hcell : w.cell? ⟨b, off, none⟩ = some (.int .u8 (bs[0].toNat : Int)) := RdB.byte hx0 (j := 0) (by omega)
    have h256 := bs[0].toNat_lt
    have hx := Hid.mk hx0
    clear hx0
    have hb0 : bs[0]? = some bs[0] := List.getElem?_eq_getElem (by omega)
    by_cases hd : bs[0].toNat = 165
    · have hce : w.cell? ⟨b, off, none⟩ = some (.int .u8 165) := by rw [hcell, hd]; rfl
      have h165 : bs[0]? = some 165 := by rw [hb0]; exact congrArg some (UInt8.toNat_inj.1 hd)
      have hone : oneR gen bs = if unB ((bs.drop 1).take 8) ≠ gen then none else if 400000 < unB ((bs.drop 9).take 3) then none else if n - 12 ≤ unB ((bs.drop 9).take 3) then none
          else if (bs.drop 12)[unB ((bs.drop 9).take 3)]? ≠ some 90 then none else some ((bs.drop 12).take (unB ((bs.drop 9).take 3))) := by
        unfold oneR
        rw [hn, if_neg h12, if_neg (by simp [h165])]
      have e1 : (bs.drop 1).drop 8 = bs.drop 9 := by rw [List.drop_drop]
      have e2 : (bs.drop 9).drop 3 = bs.drop 12 := by rw [List.drop_drop]
      have hlr : (bs.drop 12).length = n - 12 := by simp [hn]
      have rd1 : RdB w (fun k => S k ∧ k < w.heap.size) (some ⟨b, off + 1, none⟩) (n - 1) (bs.drop 1) := RdB.of_cells (by simp [hn]) ⟨hb, hlt⟩ (RdB.shift 1 hx.out)
      have hL : unB ((bs.drop 9).take 3) < 16777216 := Nat.lt_of_lt_of_le (unB_lt _) (Nat.pow_le_pow_right (by omega) (by rw [List.length_take]; omega) : 256 ^ _ ≤ 256 ^ 3)
      generalize hG : unB ((bs.drop 1).take 8) = G at *
      generalize hLe : unB ((bs.drop 9).take 3) = L at *
      generalize oneR gen bs = o at *
      generalize bs.drop 1 = b1 at *
      generalize bs.drop 9 = b9 at *
      generalize bs.drop 12 = rest at *
      have HB := Hid.mk (And.intro e1 (And.intro e2 (And.intro hlr (And.intro hG (And.intro hLe (And.intro hone rd1))))))
      clear hcell hb0 hd h256 hr hone e1 e2 hlr rd1 hG hLe h165 hx hn
      go_enter Try.func35, Try.ntmps35
      go_wp2_with fail
      have hw1 : Below w.heap.size w (w.alloc (.cells #[.slice (some ⟨b, off + 1, none⟩) (n - 1) (c - 1), .bool false] 83)) := (Below.refl _ _).alloc (Nat.le_refl _) _
      refine (take_any w.heap.size (some ⟨b, off + 1, none⟩) (c - 1) (n - 1) b1 false (fun k => S k ∧ k < w.heap.size) 8 _ (Bk.new w _ _) (HB.out.2.2.2.2.2.2.keep (Chg.of_below hw1 (S := Nil)) (fun _ _ h => h)) (fun h => by omega) (by omega) (by omega) (by omega) (by omega) (by unfold maxLen; omega)).mono ?_
      rintro e w2 ⟨he, ch2, A2, bk2, rd2⟩
      rw [HB.out.2.2.2.1] at he
      subst he
      have hbel2 : Below w.heap.size w w2 := ch2.below hw1 (by simp) (fun i _ h => by omega)
      have H2 := Hid.mk (And.intro hbel2 (And.intro bk2 rd2))
      clear ch2 bk2 rd2 hw1 hbel2
      go_wp2_with fail
      refine (take_any w.heap.size A2 (c - 1 - 8) (n - 1 - 8) (b1.drop 8) false (fun k => S k ∧ k < w.heap.size) 3 w2 H2.out.2.1 H2.out.2.2 (fun h => by omega) (by omega) (by omega) (by omega) (by omega) (by unfold maxLen; omega)).mono ?_
      rintro e w3 ⟨he, ch3, A3, bk3, rd3⟩
      rw [HB.out.1, HB.out.2.2.2.2.1] at he
      subst he
      rw [HB.out.1, HB.out.2.1] at rd3
      have hbel : Below w.heap.size w w3 := ch3.below H2.out.1 H2.out.1.size (fun i _ h => by omega)
      have hcp : w3.cell? ⟨w.heap.size, 0, none⟩ = some (.slice A3 (n - 1 - 8 - 3) (c - 1 - 8 - 3)) := bk3.cell 0 rfl
      have H3 := Hid.mk (And.intro rd3 (And.intro hbel bk3))
      clear hbel rd3 ch3 bk3
      have hone := HB.out.2.2.2.2.2.1
      by_cases hG : G = gen
      · subst hG
        rw [if_neg (by simp)] at hone
        by_cases h4 : 400000 < L
        · rw [if_pos h4] at hone
          have HO := Hid.mk hone
          clear hone
          go_wp2_with fail
          go_ret2
          rw [HO.out]
          exact ⟨rfl, H3.out.2.1⟩
        · rw [if_neg h4] at hone
          by_cases h5 : n - 12 ≤ L
          · rw [if_pos h5] at hone
            have HO := Hid.mk hone
            clear hone
            go_wp2_with fail
            go_ret2
            rw [HO.out]
            exact ⟨rfl, H3.out.2.1⟩
          · rw [if_neg h5] at hone
            have hLr : L < rest.length := by have := HB.out.2.2.1; omega
            obtain ⟨b3, off3, rfl, _, _, hx3⟩ := H3.out.1.plain (by omega)
            have hcL : w3.cell? ⟨b3, off3 + L, none⟩ = some (.int .u8 (rest[L].toNat : Int)) := RdB.byte hx3 hLr
            have hrl := H3.out.1.len
            rw [List.getElem?_eq_getElem hLr] at hone
            by_cases h90 : rest[L].toNat = 90
            · have h9 : rest[L] = 90 := UInt8.toNat_inj.1 h90
              rw [if_neg (by simp [h9])] at hone
              have hc9 : w3.cell? ⟨b3, off3 + L, none⟩ = some (.int .u8 90) := by rw [hcL, h90]; rfl
              clear hcL
              have HO := Hid.mk (And.intro hone (And.intro hx3 hrl))
              clear hone h9 h90 hx3 hrl
              go_wp2_with fail
              go_ret2
              rw [HO.out.1]
              have hlt : (rest.take L).length = L := by rw [List.length_take]; omega
              refine ⟨⟨some ⟨b3, off3, none⟩, c - 1 - 8 - 3, by rw [hlt]; rfl, by rw [hlt]; omega, by unfold maxLen; omega, ?_⟩, H3.out.2.1⟩
              rw [hlt]
              exact (H3.out.1.front (by omega)).wider (fun k _ h => h.1)
            · have h9 : some rest[L] ≠ some 90 := fun e => h90 (by injection e with e; rw [e]; rfl)
              rw [if_pos h9] at hone
              have HO := Hid.mk hone
              have hb9 : ((rest[L].toNat : Int) != 90) = true := by simp; omega
              clear hone h9 h90 hx3 hrl
              generalize rest[L].toNat = d at *
              go_wp2_with fail
              go_ret2
              rw [HO.out]
              exact ⟨rfl, H3.out.2.1⟩
      · have hGb : ((G : Int) != gen) = true := by simp; omega
        rw [if_pos hG] at hone
        have HO := Hid.mk hone
        clear hG hone
        go_wp2_with fail
        go_ret2
        rw [HO.out]
        exact ⟨rfl, H3.out.2.1⟩
    · have ho : oneR gen bs = none := by
        have : bs[0] ≠ 165 := fun e => hd (by rw [e]; rfl)
        simp [oneR, hn, h12, hb0, this]
      rw [ho]
      have hdb : ((bs[0].toNat : Int) != 165) = true := by simp; omega
      clear hb0 hr ho hx
      generalize bs[0].toNat = d at *
      clear hn
      go_enter Try.func35, Try.ntmps35
      go_wp2
      go_ret2
      exact ⟨rfl, Below.refl _ _⟩
end Go.Proofs.Ytmbmfhpdajdpfaa
