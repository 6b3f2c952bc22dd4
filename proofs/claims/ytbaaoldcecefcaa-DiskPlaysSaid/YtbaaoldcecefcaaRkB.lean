/- The contract of the document's disk: Write. -/
import Derived.Test.YtbaaoldcecefcaaRkA
import Derived.Deep.RegionLaw
namespace Go.Proofs.Ytbaaoldcecefcaa
open Go.RowKit

theorem splice_app {α : Type} (l a b : List α) (p : Nat) (h : p + a.length + b.length ≤ l.length) : splice (splice l p a) (p + a.length) b = splice l p (a ++ b) := by
  unfold splice
  have h1 : (l.take p ++ (a ++ l.drop (p + a.length))).take (p + a.length) = l.take p ++ a := by
    rw [List.take_append, List.length_take, Nat.min_eq_left (by omega), List.take_of_length_le (by rw [List.length_take]; omega), show p + a.length - p = a.length by omega, List.take_left']
    rfl
  have h2 : (l.take p ++ (a ++ l.drop (p + a.length))).drop (p + a.length + b.length) = l.drop (p + (a ++ b).length) := by
    rw [List.drop_append, List.length_take, Nat.min_eq_left (by omega), List.drop_of_length_le (by rw [List.length_take]; omega), List.nil_append, show p + a.length + b.length - p = a.length + b.length by omega, List.drop_append, List.drop_of_length_le (by omega), List.nil_append, List.drop_drop]
    rw [List.length_append]
    congr 1
    omega
  rw [h1, h2]
  simp
theorem splice_one {α : Type} (l : List α) (i : Nat) (b : α) (h : i < l.length) : splice l i [b] = l.set i b := by
  rw [splice, List.set_eq_take_append_cons_drop, if_pos h]
  rfl
theorem Row.head {w : World} {e : TypeId} {n c : Nat} {A : Option Addr} {xs : List Value} (h : Row w e 1 (.slice A n c) n xs) (hn : 0 < n) : ∃ nb, A = some ⟨nb, 0, none⟩ := by
  rcases h.2 with ⟨_, h0⟩ | ⟨g, cap, cur, lo, hi, he, _⟩
  · omega
  · injection he with hA
    exact ⟨g, hA⟩
theorem Try.infoWait : (Try.prog.info? 66).map (fun i => (i.zero, i.size, i.bytes)) = some (some (.agg #[.int .i64 0, .int .u8 0]), 2, 16) := by kernel_rfl
/-- A row of bytes, byte by byte. -/
def bytesAt : Nat → List UInt8 → List (Nat × UInt8)
  | _, [] => []
  | p, x :: r => (p, x) :: bytesAt (p + 1) r
theorem bytesAt_snoc (c : List UInt8) (x : UInt8) : ∀ p, bytesAt p (c ++ [x]) = bytesAt p c ++ [(p + c.length, x)] := by
  induction c with
  | nil => intro p; rfl
  | cons y r ih =>
    intro p
    simp only [List.cons_append, bytesAt, ih, List.length_cons]
    rw [show p + 1 + r.length = p + (r.length + 1) by omega]
theorem bytesAt_len (c : List UInt8) : ∀ p, (bytesAt p c).length = c.length := by
  induction c with
  | nil => intro p; rfl
  | cons y r ih => intro p; simp only [bytesAt, List.length_cons, ih]
theorem rCells_snoc (l : List (Nat × UInt8)) (p : Nat) (b : UInt8) : rCells (l ++ [(p, b)]) = rCells l ++ [.int .i64 (p : Int), bv b] := by simp [rCells, wCells]

/-- One byte more waits. -/
theorem RkAt.waited {w w' : World} {g : Nat} {M : Nat → Prop} {r : Rp} {nv lv wv : Value} (h : RkAt w g M r nv lv wv) {F : Option Addr} {n c' p : Nat} {b : UInt8} (hn : n = r.waits.length + 1)
    (hrow : Row w' 66 2 (.slice F n c') n (rCells r.waits ++ [.int .i64 (p : Int), bv b])) (hgr : Grew w wv w' (.slice F n c')) (hfit : p < r.now.length) :
    Chg M w (w'.setCell ⟨g, 2, none⟩ (.slice F n c')) ∧ RkAt (w'.setCell ⟨g, 2, none⟩ (.slice F n c')) g (fun k => M k ∨ Own (.slice F n c') k) { r with waits := r.waits ++ [(p, b)] } nv lv (.slice F n c') := by
  subst hn
  have hgl := h.lt g h.mg
  have hwM : ∀ k, Own wv k → M k := fun k hk => (h.mw k hk).1
  have hbk := h.bk.keep hgr.chg (fun hk => (h.mw g hk).2.1 rfl)
  have hset : Chg (· = g) w' (w'.setCell ⟨g, 2, none⟩ (.slice F (r.waits.length + 1) c')) := (Chg.refl (· = g) w').setCell (p := ⟨g, 2, none⟩) (fun _ => rfl) _
  have hall : Chg M w (w'.setCell ⟨g, 2, none⟩ (.slice F (r.waits.length + 1) c')) := (hgr.chg.wider (fun k _ hk => hwM k hk)).trans hset (fun k _ hk => hk ▸ h.mg)
  have hw' : ∀ k, Own (.slice F (r.waits.length + 1) c') k → k ≠ g ∧ ¬ Own nv k ∧ ¬ Own lv k := by
    intro k hk
    rcases Nat.lt_or_ge k w.heap.size with hlt | hge
    · obtain ⟨h1, h2, h3, h4⟩ := h.mw k (hgr.lies k hlt hk)
      exact ⟨h2, h3, h4⟩
    · refine ⟨by omega, fun hk2 => ?_, fun hk2 => ?_⟩
      · have := h.lt k (h.mn k hk2).1; omega
      · have := h.lt k (h.ml k hk2).1; omega
  have hwl : (w'.setCell ⟨g, 2, none⟩ (.slice F (r.waits.length + 1) c')).heap.size = w'.heap.size := by simp [World.setCell]
  refine ⟨hall, ?_⟩
  exact
    { bk := hbk.set 2 (.slice F (r.waits.length + 1) c')
      now := (h.now.keep hgr.chg (fun k hk hs => (h.mw k hs).2.2.1 hk)).keep hset (fun k hk hs => (h.mn k hk).2 hs)
      lasts := (h.lasts.keep hgr.chg (fun k hk hs => (h.mw k hs).2.2.2 hk)).keep hset (fun k hk hs => (h.ml k hk).2.1 hs)
      row := by
        have := hrow.keep hset (fun k hk hs => (hw' k hk).1 hs)
        rw [rCells_snoc]
        simpa using this
      mg := .inl h.mg
      mn := fun k hk => ⟨.inl (h.mn k hk).1, (h.mn k hk).2⟩
      ml := fun k hk => ⟨.inl (h.ml k hk).1, (h.ml k hk).2⟩
      mw := fun k hk => ⟨.inr hk, (hw' k hk).1, (hw' k hk).2.1, (hw' k hk).2.2⟩
      lt := fun k hk => by
        rcases hk with hk | hk
        · exact Nat.lt_of_lt_of_le (h.lt k hk) hall.size
        · rw [hwl]; exact hrow.lt k hk
      ok := ⟨h.ok.same, h.ok.most, fun q hq => by
        rcases List.mem_append.1 hq with hq | hq
        · exact h.ok.fits q hq
        · simp at hq
          subst hq
          exact hfit, h.ok.lo, h.ok.hi⟩ }

/-- What a call does to the document's disk's blocks. -/
structure WentR (w w' : World) (M M' : Nat → Prop) : Prop where
  chg : Chg M w w'
  m : ∀ k, k < w.heap.size → M' k → M k
theorem WentR.trans {a b c : World} {M M1 M2 : Nat → Prop} (h : WentR a b M M1) (k : WentR b c M1 M2) : WentR a c M M2 :=
  ⟨h.chg.trans k.chg h.m, fun i hi hm => h.m i hi (k.m i (Nat.lt_of_lt_of_le hi h.chg.size) hm)⟩
theorem WentR.of_chg {w w' : World} {M : Nat → Prop} (h : Chg M w w') : WentR w w' M M := ⟨h, fun _ _ h => h⟩

def Rp.bits (r : Rp) (p : Nat) (s : List UInt8) : Rp := { r with now := splice r.now p s, waits := r.waits ++ bytesAt p s }
def Rp.write (r : Rp) (p : Int) (s : List UInt8) : Rp := if r.opE p s.length = 0 then (r.bits p.toNat s).count else r

set_option maxHeartbeats 2000000 in
set_option maxRecDepth 100000 in
theorem rwrite_any {g : Nat} {M : Nat → Prop} {r : Rp} {w : World} (h : Rk w g M r) (p : Int) (s : List UInt8) (hlong : r.waits.length ≤ 1000000) (hs : s.length ≤ 1000000) :
    Calls Try.prog 29 #[.pointer (some ⟨g, 0, none⟩), .int .i64 p, .string ⟨s.toArray⟩] w fun e w' => ∃ M', e = .returned (.int .i64 (r.opE p s.length)) ∧ WentR w w' M M' ∧ Rk w' g M' (r.write p s) := by
  have hsz : (ByteArray.mk s.toArray).size = s.length := by simp [ByteArray.size]
  have HH := Hid.mk h
  cases ho : r.out p s.length with
  | true =>
    have he : r.opE p s.length = 1 := by simp [Rp.opE, ho]
    rw [Rp.write, he, if_neg (by omega)]
    clear h
    go_enter Try.func29, Try.ntmps29
    go_wp2_with fail
    refine (rout_any HH.out p (s.length : Int)).mono ?_
    rintro e w1 ⟨rfl, hc⟩
    have HC := Hid.mk hc
    clear hc
    rw [ho]
    go_wp2_with fail
    go_ret
    exact ⟨M, rfl, WentR.of_chg (HC.out.wider fun _ _ h => h.elim), HH.out.keep_nil HC.out⟩
  | false =>
    cases hd : r.dead with
    | true =>
      have he : r.opE p s.length = 9 := by simp [Rp.opE, ho, hd]
      rw [Rp.write, he, if_neg (by omega)]
      clear h
      go_enter Try.func29, Try.ntmps29
      go_wp2_with fail
      refine (rout_any HH.out p (s.length : Int)).mono ?_
      rintro e w1 ⟨rfl, hc⟩
      have HC := Hid.mk hc
      have hc4 : w1.cell? ⟨g, 4, none⟩ = some (.bool true) := by
        obtain ⟨nv, lv, wv, h⟩ := HH.out.keep_nil hc
        rw [← hd]
        exact h.bk.cell 4 rfl
      clear hc
      rw [ho]
      go_wp2_with fail
      go_ret
      exact ⟨M, rfl, WentR.of_chg (HC.out.wider fun _ _ h => h.elim), HH.out.keep_nil HC.out⟩
    | false =>
      have he : r.opE p s.length = 0 := by simp [Rp.opE, ho, hd]
      have hb : 0 ≤ p ∧ p + s.length ≤ r.now.length := by simp [Rp.out] at ho; omega
      obtain ⟨q, rfl⟩ := Int.eq_ofNat_of_zero_le hb.1
      have hqm : q + s.length ≤ r.now.length := by omega
      have hmost := h.ok.most
      rw [Rp.write, he, if_pos rfl, Int.toNat_natCast]
      clear h hb
      go_enter Try.func29, Try.ntmps29
      go_wp2_with fail
      refine (rout_any HH.out (q : Int) (s.length : Int)).mono ?_
      rintro e w1 ⟨rfl, hc⟩
      have hk1 := HH.out.keep_nil hc
      have hc4 : w1.cell? ⟨g, 4, none⟩ = some (.bool false) := by
        obtain ⟨nv, lv, wv, h⟩ := hk1
        rw [← hd]
        exact h.bk.cell 4 rfl
      have HC := Hid.mk (And.intro hc hk1)
      clear hc hk1
      rw [ho]
      go_wp2_with fail
      go_loopw [7] (fun i wr => ∃ (k : Nat) (M' : Nat → Prop), k ≤ s.length ∧ i = .int .i64 (k : Int) ∧ WentR w1 wr M M' ∧ Rk wr g M' (r.bits q (s.take k))) (fun i _ => s.length - (intOf i).toNat)
      case atStart => exact ⟨0, M, Nat.zero_le _, rfl, WentR.of_chg (Chg.refl _ _), by
        have hz : r.bits q (s.take 0) = r := by simp [Rp.bits, splice_nil, bytesAt]
        rw [hz]
        exact HC.out.2⟩
      case round =>
        obtain ⟨k, M', hk, rfl, hwr, nv, lv, wv, hrk⟩ := hrel
        by_cases hlt : k < s.length
        · have hnl : (r.bits q (s.take k)).now.length = r.now.length := splice_len _ _ _ (by rw [List.length_take]; omega)
          have hwlen : (r.bits q (s.take k)).waits.length = r.waits.length + k := by simp only [Rp.bits, List.length_append, bytesAt_len, List.length_take]; omega
          have hst : splice (splice r.now q (s.take k)) (q + k) [s[k]] = splice r.now q (s.take (k + 1)) := by
            have h := splice_app r.now (s.take k) [s[k]] q (by rw [List.length_take]; simp; omega)
            rw [List.length_take, Nat.min_eq_left hk] at h
            rw [h, List.take_succ_eq_append_getElem hlt]
          have hbt : r.waits ++ bytesAt q (s.take (k + 1)) = (r.bits q (s.take k)).waits ++ [(q + k, s[k])] := by
            rw [List.take_succ_eq_append_getElem hlt, bytesAt_snoc, List.length_take, Nat.min_eq_left hk, ← List.append_assoc]
            rfl
          have hnow : (r.bits q (s.take k)).now = splice r.now q (s.take k) := rfl
          have hbits : r.bits q (s.take (k + 1)) = { r.bits q (s.take k) with now := splice (r.bits q (s.take k)).now (q + k) [s[k]], waits := (r.bits q (s.take k)).waits ++ [(q + k, s[k])] } := by
            rw [← hbt, hnow, hst]
            rfl
          clear hst hbt hnow
          generalize r.bits q (s.take k) = R at *
          obtain ⟨A, c, rfl, hnc, hcm⟩ := hrk.now.form
          obtain ⟨nb, rfl⟩ := hrk.now.head (by omega)
          rw [hnl] at hnc
          have hx := s[k].toNat_lt
          have HR := Hid.mk (And.intro hrk (And.intro hwr hbits))
          go_wp2_with fail
          refine wp_region_tail 11 (by kernel_rfl) (by kernel_rfl) fun W hW => ?_
          simp only [List.take_succ_cons, List.take_zero, List.drop_succ_cons, List.drop_zero]
          have hch : Chg Nil wr W := by subst hW; exact (Chg.refl Nil wr).drew
          have hW1 := hrk.keep hch (fun _ _ h => h)
          rw [← hnl] at hnc
          have hc0 : W.cell? ⟨g, 0, none⟩ = some (.slice (some ⟨nb, 0, none⟩) R.now.length c) := hW1.bk.cell 0 rfl
          have hce := hW1.now.cellAt (j := q + k) (by omega)
          rw [List.getElem?_map, List.getElem?_eq_getElem (by omega), Option.map_some, bv] at hce
          have hfr := hW1.now.freeAt (j := q + k) (by omega)
          have HW := Hid.mk (And.intro hW1 hch)
          clear hW hrk hwr hbits hW1 hch
          rw [hnl] at hc0
          repeat (go_big_quiet_step (fail))
          refine wpQuiet_nil ?_
          go_wp2_with fail
          have hbyte : Value.int .u8 (((ByteArray.mk s.toArray)[k]'(by rw [hsz]; exact hlt)).toNat : Int) = bv s[k] := rfl
          rw [hbyte]
          have hrow3 := HW.out.1.now.stored (q + k) (bv s[k])
          rw [set_map_bv, ← splice_one _ _ _ (by omega)] at hrow3
          have hch3 : Chg (Own (.slice (some ⟨nb, 0, none⟩) R.now.length c)) W (W.setCell ⟨nb, q + k, none⟩ (bv s[k])) := (Chg.refl (Own (.slice (some ⟨nb, 0, none⟩) R.now.length c)) W).setCell (p := ⟨nb, q + k, none⟩) (fun _ => rfl) _
          have h3 := HW.out.1.nowed hrow3 hch3 (splice_len _ _ _ (by simp; omega))
          have hM3 : Chg M' wr (W.setCell ⟨nb, q + k, none⟩ (bv s[k])) := (HW.out.2.wider (T := M') (fun _ _ h => h.elim)).trans (hch3.wider (T := M') (fun i _ hi => (HW.out.1.mn i hi).1)) (fun _ _ h => h)
          clear hrow3 hch3 hce hfr hc0
          generalize W.setCell ⟨nb, q + k, none⟩ (bv s[k]) = W3 at *
          obtain ⟨F, c5, rfl, hnc5, hcm5⟩ := h3.row.form
          have hwv : W3.cell? ⟨g, 2, none⟩ = some (.slice F R.waits.length c5) := h3.bk.cell 2 rfl
          have hwf : W3.frozen? ⟨g, 2, none⟩ = false := h3.bk.free 2
          obtain ⟨iW, hiW, hzW, hz1W, hz2W⟩ := info_parts Try.infoWait
          have hgF : ¬ Own (.slice F R.waits.length c5) g := fun hk => (h3.mw g hk).2.1 rfl
          have hS5 : ∀ v' w', Grew ((W3.alloc (.cells #[.int .i64 ((q : Int) + k), bv s[k]] 66)).drew) (.slice F R.waits.length c5) w' v' →
              w'.cell? ⟨g, 2, none⟩ = some (.slice F R.waits.length c5) ∧ w'.frozen? ⟨g, 2, none⟩ = false := by
            intro v' w' hg'
            have hA : Chg Nil W3 ((W3.alloc (.cells #[.int .i64 ((q : Int) + k), bv s[k]] 66)).drew) := ((Chg.refl Nil W3).alloc _).drew
            exact ⟨hg'.chg.cell (hA.cell hwv (fun h => h)) hgF, ((h3.bk.keep hA (fun h => h)).keep hg'.chg hgF).free 2⟩
          have HS5 := Hid.mk hS5
          have H3 := Hid.mk (And.intro h3 hM3)
          have hwv5 : (W3.alloc (.cells #[.int .i64 ((q : Int) + k), bv s[k]] 66)).cell? ⟨g, 2, none⟩ = some (.slice F R.waits.length c5) := ((Chg.refl Nil W3).alloc _).cell hwv (fun h => h)
          clear hS5 h3 hM3
          have hwrap : IntKind.i64.wrap ((q : Int) + k) = (q : Int) + k := by rw [IntKind.wrap_i64]; omega
          have HLn := Hid.mk hwlen
          clear hwlen
          simp only [bv] at *
          generalize hby : ((s[k]'hlt).toNat : Int) = by8 at *
          go_region_law ((refine step_append_row (by rfl) _ _ _ (by rfl) 66 iW _ 2 16 Try.underlying49 hiW hzW hz1W hz2W (by rfl) (by omega) (.slice F R.waits.length c5) R.waits.length (rCells R.waits) (by rfl) (H3.out.1.row.keep (((Chg.refl Nil W3).alloc _).drew) (fun _ _ h => h)) (fun i => i = W3.heap.size) _ 1 1 [.int .i64 ((q : Int) + k), .int .u8 by8] (by rfl) (rds_two W3 _ _ _) (by intro u hu; simp at hu; rcases hu with rfl | rfl <;> rfl) (by have := HLn.out; simp only [maxLen]; omega) (by have := HLn.out; omega) ?_; intro v' w' hrow' hgrew'; have hfr' := (HS5.out _ _ hgrew').2; have hcl' := (HS5.out _ _ hgrew').1; obtain ⟨F', c', rfl, hx1, hx2⟩ := hrow'.form))
          all_goals
            subst hby
            rw [show (q : Int) + (k : Int) = ((q + k : Nat) : Int) by omega] at hrow'
            have hfin := H3.out.1.waited (p := q + k) (b := s[k]) rfl hrow' hgrew'.drew_left.alloc_left (by rw [splice_len _ _ _ (by simp; omega)]; omega)
            have H6 := Hid.mk (And.intro hfin hgrew'.drew_left.alloc_left)
            clear hrow' hgrew' hfin
            go_wp2_with fail
            go_roundw
            case rel =>
              refine ⟨k + 1, fun i => M' i ∨ Own (.slice F' (R.waits.length + 1) c') i, by omega, by go_num, HR.out.2.1.trans ⟨H3.out.2.trans H6.out.1.1 (fun _ _ h => h), fun i hi hm => ?_⟩, ?_⟩
              · rcases hm with hm | hm
                · exact hm
                · exact (H3.out.1.mw i (H6.out.2.lies i (Nat.lt_of_lt_of_le hi H3.out.2.size) hm)).1
              · rw [HR.out.2.2]
                exact ⟨_, _, _, H6.out.1.2⟩
            case measure => simp [intOf]; omega
        · have : k = s.length := by omega
          subst this
          rw [List.take_length] at hrk
          have HQ := Hid.mk (And.intro hwr hrk)
          clear hwr hrk
          go_wp2_with fail
          refine (rcount_any ⟨_, _, _, HQ.out.2⟩).mono ?_
          rintro e w5 ⟨⟨v5, rfl⟩, hc5, h5⟩
          have H5 := Hid.mk (And.intro hc5 h5)
          clear hc5 h5
          go_wp2_with fail
          go_ret
          refine ⟨M', rfl, ?_, H5.out.2⟩
          have h1 : WentR w w1 M M := WentR.of_chg (HC.out.1.wider fun _ _ h => h.elim)
          exact (h1.trans HQ.out.1).trans (WentR.of_chg (H5.out.1.wider (fun i _ hi => hi ▸ HQ.out.2.mg)))
end Go.Proofs.Ytbaaoldcecefcaa
