/- The contract of rec.Batch where the ops may be. -/
import Derived.Test.YtmbmfhpdajdpfaaBatch
namespace Go.Proofs.Ytmbmfhpdajdpfaa
open Go.RowKit

theorem kind_of_ok {o : Oq} (h : o.ok = true) : o.kind = 1 ∨ o.kind = 2 := by
  unfold Oq.ok at h
  split at h
  · exact .inl ‹_›
  · split at h
    · exact .inr ‹_›
    · cases h
theorem batB_len (l : List Oq) : (batB l).length ≤ 17 * l.length := by
  induction l with
  | nil => simp [batB]
  | cons a t ih =>
    have : a.bytes.length ≤ 17 := by
      unfold Oq.bytes
      split
      · simp [Pt.bytes, numsB, Pt.is, numB_len]
      · simp [numB_len]
    simp only [batB, List.flatMap_cons, List.length_append, List.length_cons] at *
    omega

set_option maxHeartbeats 1000000 in
set_option maxRecDepth 100000 in
theorem batch_ok (A : Option Addr) (n c : Nat) (l : List Oq) (S : Nat → Prop) (w : World) (hr : RdO w S A n l) (hc : n ≤ c) (hcm : c ≤ maxLen) (hgood : batE l = 0) :
    Calls Try.prog 19 #[.slice A n c] w fun e w' => ∃ v', e = .returned (.tuple #[v', .int .i64 0]) ∧ Chg Nil w w' ∧ w'.ownsRow w.heap.size 5 1 v' (batB l).length ((batB l).map bv) := by
  obtain ⟨i0, hi, hz0, hz1, hz2⟩ := info_parts Try.infoByte
  obtain rfl := hr.len
  unfold batE at hgood
  have h5 : ¬ 500 < l.length := fun h => by simp [h] at hgood
  have h0 : ¬ l.length = 0 := fun h => by simp [h] at hgood
  have hany : (l.any fun o => !o.ok) = false := by
    cases h : (l.any fun o => !o.ok) with
    | false => rfl
    | true => simp [h5, h] at hgood
  have hall : ∀ o ∈ l, o.ok = true := fun o ho => by simpa using (List.any_eq_false.1 hany o ho)
  obtain ⟨b, off, rfl, hS, hlt, hcell⟩ := Rds.plain hr (by omega) (by omega)
  have H := Hid.mk (And.intro hany (And.intro (fun W hW => contains_any (some ⟨b, off, none⟩) l.length c l S W (Rds.keep hr hW fun _ _ h => h) hc hcm) (And.intro hlt (And.intro hcell hall))))
  clear hr hgood hany hall hcell hlt hS
  have hlen : decide (500 < (l.length : Int)) = false := decide_eq_false (by omega)
  have hne : ((l.length : Int) == 0) = false := by simpa using h0
  go_enter Try.func19, Try.ntmps19
  go_wp2_with fail
  refine (H.out.2.1 _ (Chg.refl Nil _)).mono ?_
  rintro e w1 ⟨rfl, hc1⟩
  rw [H.out.1]
  have HC := Hid.mk hc1
  clear hc1
  go_wp2_with fail
  go_loopw [4, 21] (fun vv i wr => ∃ m : Nat, m ≤ l.length ∧ i = .int .i64 m ∧ Hid (wr.ownsRow w.heap.size 5 1 vv (batB (l.take m)).length ((batB (l.take m)).map bv) ∧ Chg Nil w wr)) (fun _ i _ => l.length - (intOf i).toNat)
  case atStart => exact ⟨0, Nat.zero_le _, rfl, Hid.mk ⟨⟨rfl, .inl ⟨rfl, rfl⟩⟩, HC.out⟩⟩
  case round =>
    obtain ⟨m, hm, rfl, HR⟩ := hrel
    by_cases hml : m < l.length
    · obtain ⟨o, ho⟩ : ∃ o, l[m]? = some o := ⟨l[m], List.getElem?_eq_getElem hml⟩
      have hcl : ∀ j v, o.cs[j]? = some v → wr.cell? ⟨b, off + m * 5 + j, none⟩ = some v := fun j v hj => by
        have h1 := H.out.2.2.2.1 _ v (ops_get l m o ho j v hj)
        rw [Nat.add_assoc]
        have := HR.out.2.old b H.out.2.2.1 (fun h => h)
        simp only [World.cell?] at h1 ⊢
        rw [this]
        exact h1
      have q0 : wr.cell? ⟨b, off + m * 5, none⟩ = some (.int .i64 o.kind) := hcl 0 _ rfl
      have q1 : wr.cell? ⟨b, off + m * 5 + 1, none⟩ = some (.int .i64 o.pt.key) := hcl 1 _ rfl
      have q2 : wr.cell? ⟨b, off + m * 5 + 2, none⟩ = some (.int .i64 o.pt.x) := hcl 2 _ rfl
      have q3 : wr.cell? ⟨b, off + m * 5 + 3, none⟩ = some (.int .i64 o.pt.y) := hcl 3 _ rfl
      have q4 : wr.cell? ⟨b, off + m * 5 + 4, none⟩ = some (.int .i64 o.pt.v) := hcl 4 _ rfl
      have HO := Hid.mk (And.intro ho (H.out.2.2.2.2 o (List.mem_of_getElem? ho)))
      clear ho hcl
      have hR1 : ∀ o1 u, Rds ((wr.alloc o1).alloc (.cells #[u] 5)) (fun k => k = wr.heap.size + 1) 1 (some ⟨wr.heap.size + 1, 0, none⟩) 1 [u] := fun o1 u => by simpa using rds_one (wr.alloc o1) u 5
      have hL := batB_len (l.take m)
      have hL2 : (l.take m).length ≤ 500 := by rw [List.length_take]; omega
      generalize hN : (batB (l.take m)).length = N at *
      have h63 : N + 1 ≤ maxLen := by simp only [maxLen]; omega
      go_wp2_with (at_builtin; refine wpl_append rfl (.tmp 25) (.tmp 29) 30 rfl w.heap.size 5 i0 _ 1 1 Try.underlying30 hi hz0 hz1 hz2 rfl (by omega) _ N _ rfl ((HR.out.1.alloc _).alloc _) _ (some ⟨wr.heap.size + 1, 0, none⟩) 1 1 _ rfl (hR1 _ _) ?c1 ?c2 ?c3 ?c4 ?_)
      case c1 => intro u hu; simp at hu; subst hu; rfl
      case c2 => exact h63
      case c3 => omega
      case c4 => have := HR.out.2.size; simp; omega
      rintro v' w' hown' hg'
      have hbx : Bk w' wr.heap.size 46 #[.int .i64 o.kind, .int .i64 o.pt.key, .int .i64 o.pt.x, .int .i64 o.pt.y, .int .i64 o.pt.v] :=
        ((Bk.new wr _ _).alloc _).keep hg'.chg (fun h => by have := own_lt HR.out.1 _ h; omega)
      have G := Hid.mk (And.intro hown' hg')
      clear hown' hg' q0 q1 q2 q3 q4 hR1
      have c0 : w'.cell? ⟨wr.heap.size, 0, none⟩ = some (.int .i64 o.kind) := hbx.cell 0 rfl
      have c1 : w'.cell? ⟨wr.heap.size, 1, none⟩ = some (.int .i64 o.pt.key) := hbx.cell 1 rfl
      have c2 : w'.cell? ⟨wr.heap.size, 2, none⟩ = some (.int .i64 o.pt.x) := hbx.cell 2 rfl
      have c3 : w'.cell? ⟨wr.heap.size, 3, none⟩ = some (.int .i64 o.pt.y) := hbx.cell 3 rfl
      have c4 : w'.cell? ⟨wr.heap.size, 4, none⟩ = some (.int .i64 o.pt.v) := hbx.cell 4 rfl
      clear hbx
      rcases kind_of_ok HO.out.2 with hk | hk
      · rw [hk] at c0
        go_wp2_with fail
        refine (put_any w.heap.size v' (N + 1) _ o.pt w' (by omega) G.out.1 (by have := HR.out.2.size; have := G.out.2.chg.size; simp at this; omega)).mono ?_
        rintro e w2 ⟨v2, rfl, ho2, hg2⟩
        have G2 := Hid.mk (And.intro ho2 hg2)
        clear ho2 hg2 c0 c1 c2 c3 c4
        go_wp2_with fail
        go_roundw
        case rel =>
          have hb2 : batB (l.take (m + 1)) = batB (l.take m) ++ o.bytes := by
            rw [List.take_add_one, HO.out.1]
            simp [batB]
          refine ⟨m + 1, by omega, by go_num, Hid.mk ⟨?_, ?_⟩⟩
          · have h := G2.out.1
            rw [hb2, List.length_append, hN, List.map_append]
            have hby : bv (UInt8.ofNat (un 1)) = Value.int .u8 1 := by rw [bv_ofNat]; rfl
            simpa [Oq.bytes, hk, hby, Pt.bytes, numsB, Pt.is, numB_len, Nat.add_assoc] using h
          · have hg := (G.out.2.alloc_left.alloc_left.trans G2.out.2).chg
            exact HR.out.2.trans hg (fun k hk h => by have := own_ge HR.out.1 _ h; omega)
        case measure => simp [intOf]; omega
      · rw [hk] at c0
        go_wp2_with fail
        rw [un_val]
        refine (number_any w.heap.size v' (N + 1) _ (un o.pt.key) 4 w' (by omega) (un_lt _) (by omega) G.out.1 (by have := HR.out.2.size; have := G.out.2.chg.size; simp at this; omega)).mono ?_
        rintro e w2 ⟨v2, rfl, ho2, hg2⟩
        have G2 := Hid.mk (And.intro ho2 hg2)
        clear ho2 hg2 c0 c1 c2 c3 c4
        go_wp2_with fail
        go_roundw
        case rel =>
          have hb2 : batB (l.take (m + 1)) = batB (l.take m) ++ o.bytes := by
            rw [List.take_add_one, HO.out.1]
            simp [batB]
          refine ⟨m + 1, by omega, by go_num, Hid.mk ⟨?_, ?_⟩⟩
          · have h := G2.out.1
            rw [hb2, List.length_append, hN, List.map_append]
            have hby : bv (UInt8.ofNat (un 2)) = Value.int .u8 2 := by rw [bv_ofNat]; rfl
            simpa [Oq.bytes, hk, hby, Pt.bytes, numsB, Pt.is, numB_len, Nat.add_assoc] using h
          · have hg := (G.out.2.alloc_left.alloc_left.trans G2.out.2).chg
            exact HR.out.2.trans hg (fun k hk h => by have := own_ge HR.out.1 _ h; omega)
        case measure => simp [intOf]; omega
    · have : m = l.length := by omega
      subst this
      go_wp2_with fail
      all_goals (go_ret2; exact ⟨_, rfl, HR.out.2, by simpa using HR.out.1⟩)
end Go.Proofs.Ytmbmfhpdajdpfaa
