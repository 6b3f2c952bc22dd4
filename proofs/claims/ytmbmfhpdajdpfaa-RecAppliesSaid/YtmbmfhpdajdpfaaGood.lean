/- The document's BatchMay; the statements' good. -/
import Derived.Test.YtmbmfhpdajdpfaaRefOps
namespace Go.Proofs.Ytmbmfhpdajdpfaa
open Go.RowKit

theorem Try.infoOp5 : (Try.prog.info? 46).map (fun i => (i.zero, i.size, i.bytes)) = some (some (.agg #[.int .i64 0, .int .i64 0, .int .i64 0, .int .i64 0, .int .i64 0]), 5, 40) := by kernel_rfl
/-- The cells of one op of a slice. -/
theorem RdO.at5 {w : World} {S : Nat → Prop} {A : Option Addr} {n : Nat} {l : List Oq} (h : RdO w S A n l) (hn : 0 < n) :
    ∃ b off, A = some ⟨b, off, none⟩ ∧ S b ∧ ∀ W, Chg Nil w W → ∀ k kd ky x y v, l[k]? = some ⟨kd, ⟨ky, x, y, v⟩⟩ → W.cell? ⟨b, off + k * 5, none⟩ = some (.int .i64 kd) ∧ W.cell? ⟨b, off + k * 5 + 1, none⟩ = some (.int .i64 ky) ∧ W.cell? ⟨b, off + k * 5 + 2, none⟩ = some (.int .i64 x) ∧
      W.cell? ⟨b, off + k * 5 + 3, none⟩ = some (.int .i64 y) ∧ W.cell? ⟨b, off + k * 5 + 4, none⟩ = some (.int .i64 v) := by
  obtain ⟨b, off, hA, hs, _, hx⟩ := Rds.plain h hn (by omega)
  refine ⟨b, off, hA, hs, fun W hc k kd ky x y v hk => ?_⟩
  have g := fun j u hj => hx (k * 5 + j) u (ops_get l k _ hk j u hj)
  exact ⟨hc.cell (g 0 _ rfl) (fun h => h), hc.cell (g 1 _ rfl) (fun h => h), hc.cell (g 2 _ rfl) (fun h => h), hc.cell (g 3 _ rfl) (fun h => h), hc.cell (g 4 _ rfl) (fun h => h)⟩
theorem rdo_one (w : World) (o : Oq) : RdO (w.alloc (.cells o.cs.toArray 46)) (fun k => k = w.heap.size) (some ⟨w.heap.size, 0, none⟩) 1 [o] := by
  have hb := Bk.new w 46 o.cs.toArray
  refine ⟨by rw [ops_len]; rfl, fun _ => ⟨_, rfl, rfl, fun j u hu => ?_⟩⟩
  have hu' : o.cs.toArray[j]? = some u := by simpa using hu
  have := hb.cell j hu'
  unfold Addr.add
  split
  · next h0 => subst h0; exact this
  · simpa using this
theorem ops_one (l : List Oq) : ∀ u ∈ l.flatMap Oq.cs, u.oneCell' = true := by
  intro u hu
  obtain ⟨o, _, hu⟩ := List.mem_flatMap.1 hu
  simp [Oq.cs, Pt.cs] at hu
  rcases hu with rfl | rfl | rfl | rfl | rfl <;> rfl
theorem batE_any {l : List Oq} (h : ¬ 500 < l.length) {k : Nat} {o : Oq} (hk : l[k]? = some o) (ho : o.ok = false) : batE l = 1 := by
  unfold batE
  rw [if_neg h, if_pos]
  exact .inr (List.any_eq_true.2 ⟨o, List.mem_of_getElem? hk, by rw [ho]; rfl⟩)
theorem batE_all {l : List Oq} (h : ¬ 500 < l.length) (hall : ∀ (k : Nat) (o : Oq), l[k]? = some o → o.ok = true) : batE l = if l.length = 0 then 1 else 0 := by
  unfold batE
  rw [if_neg h]
  have : (l.any fun o => !o.ok) = false := by
    rw [List.any_eq_false]
    intro o ho
    obtain ⟨k, hk, he⟩ := List.mem_iff_getElem.1 ho
    rw [hall k o (by rw [List.getElem?_eq_getElem hk, he])]
    decide
  rw [this]
  simp

set_option maxHeartbeats 1000000 in
set_option maxRecDepth 100000 in
theorem rmay_any (A : Option Addr) (n c : Nat) (l : List Oq) (S : Nat → Prop) (w : World) (hr : RdO w S A n l) (hn : n ≤ 9223372036854775807) :
    Calls Try.prog 21 #[.slice A n c] w fun e w' => e = .returned (.int .i64 (batE l : Nat)) ∧ Chg Nil w w' := by
  have hl := hr.len
  by_cases h500 : 500 < n
  · have he : batE l = 11 := by unfold batE; rw [if_pos (by omega)]
    rw [he]
    go_enter Try.func21, Try.ntmps21
    go_wp2
    go_ret
    exact ⟨rfl, Chg.refl _ _⟩
  · have HR := Hid.mk hr
    clear hr
    go_enter Try.func21, Try.ntmps21
    go_wp2_with fail
    go_loopw [3] (fun i wr => ∃ k : Nat, k ≤ n ∧ i = .int .i64 (k : Int) ∧ Chg Nil w wr ∧ ∀ j o, j < k → l[j]? = some o → o.ok = true) (fun i _ => n - (intOf i).toNat)
    case atStart => exact ⟨0, Nat.zero_le _, rfl, Chg.refl _ _, fun j o hj => by omega⟩
    case round =>
      obtain ⟨k, hk, rfl, hch, hall⟩ := hrel
      by_cases hlt : k < n
      · obtain ⟨b, off, rfl, _, hat⟩ := HR.out.at5 (by omega)
        have ho : l[k]? = some (l[k]'(by omega)) := List.getElem?_eq_getElem (by omega)
        generalize l[k]'(by omega) = o at ho
        have HO := Hid.mk (fun W => ropOk_any o W)
        generalize hb : o.ok = bo at *
        obtain ⟨kd, ky, x, y, v⟩ := o
        simp only [Oq.cs, Pt.cs] at HO
        obtain ⟨c0, c1, c2, c3, c4⟩ := hat wr hch k kd ky x y v ho
        have HK := Hid.mk (And.intro hch (And.intro hall (And.intro ho hb)))
        clear hch hall ho hb hat
        go_wp2_with fail
        refine (HO.out _).mono ?_
        rintro e w1 ⟨rfl, hc1⟩
        have H1 := Hid.mk (HK.out.1.trans hc1 (fun _ _ h => h))
        clear hc1
        cases bo
        · go_wp2_with fail
          go_ret
          rw [batE_any (by omega) HK.out.2.2.1 HK.out.2.2.2]
          exact ⟨rfl, H1.out⟩
        · go_wp2_with fail
          go_roundw
          case rel =>
            refine ⟨k + 1, by omega, by go_num, H1.out, fun j o hj ho => ?_⟩
            rcases Nat.lt_or_ge j k with h | h
            · exact HK.out.2.1 j o h ho
            · have : j = k := by omega
              subst this
              rw [HK.out.2.2.1] at ho
              have := Option.some.inj ho
              rw [← this]
              exact HK.out.2.2.2
          case measure => simp [intOf]; omega
      · have hkn : k = n := by omega
        subst hkn
        have hbE := batE_all (l := l) (by omega) (fun j o ho => hall j o (by
          rcases Nat.lt_or_ge j l.length with h | h
          · omega
          · rw [List.getElem?_eq_none h] at ho; cases ho) ho)
        have HK := Hid.mk (And.intro hch hbE)
        clear hch hall hbE
        by_cases h0 : k = 0
        · subst h0
          go_wp2_with fail
          go_ret
          rw [HK.out.2, if_pos (by omega)]
          exact ⟨rfl, HK.out.1⟩
        · have d0 : ((k : Int) == 0) = false := by rw [beq_eq_false_iff_ne]; omega
          go_wp2_with fail
          go_ret
          rw [HK.out.2, if_neg (by omega)]
          exact ⟨rfl, HK.out.1⟩

/-- The good ones. -/
def goodL (l : List Oq) : List Oq := l.filter Oq.ok
theorem goodL_take (l : List Oq) (k : Nat) (o : Oq) (h : l[k]? = some o) : goodL (l.take (k + 1)) = goodL (l.take k) ++ (if o.ok then [o] else []) := by
  rw [goodL, List.take_add_one, h, List.filter_append]
  congr 1
  cases ho : o.ok <;> simp [ho]
theorem goodL_len (l : List Oq) : (goodL l).length ≤ l.length := List.length_filter_le _ _

set_option maxHeartbeats 1000000 in
set_option maxRecDepth 100000 in
theorem good_any (A : Option Addr) (n c : Nat) (l : List Oq) (S : Nat → Prop) (w : World) (hr : RdO w S A n l) (hn : n ≤ 100) :
    Calls Try.prog 23 #[.slice A n c, .int .i64 100] w fun e w' => ∃ v, e = .returned v ∧ w'.ownsRow w.heap.size 46 5 v (goodL l).length ((goodL l).flatMap Oq.cs) ∧ Chg Nil w w' := by
  have hl := hr.len
  obtain ⟨i0, hi, hz0, hz1, hz2⟩ := info_parts Try.infoOp5
  have HR := Hid.mk hr
  clear hr
  go_enter Try.func23, Try.ntmps23
  go_wp2_with fail
  go_loopw [5, 6] (fun out i wr => ∃ k : Nat, k ≤ n ∧ i = .int .i64 (k : Int) ∧ Chg Nil w wr ∧ wr.ownsRow w.heap.size 46 5 out (goodL (l.take k)).length ((goodL (l.take k)).flatMap Oq.cs)) (fun _ i _ => n - (intOf i).toNat)
  case atStart => exact ⟨0, Nat.zero_le _, rfl, Chg.refl _ _, ⟨rfl, .inl ⟨rfl, rfl⟩⟩⟩
  case round =>
    obtain ⟨k, hk, rfl, hch, hown⟩ := hrel
    have hgl := goodL_len (l.take k)
    rw [List.length_take, Nat.min_eq_left (by omega)] at hgl
    obtain ⟨G, gc, rfl, hgc, hgm⟩ := own_form hown
    by_cases hlt : k < n
    · obtain ⟨b, off, rfl, _, hat⟩ := HR.out.at5 (by omega)
      have ho : l[k]? = some (l[k]'(by omega)) := List.getElem?_eq_getElem (by omega)
      generalize l[k]'(by omega) = o at ho
      have hstep := goodL_take l k o ho
      have HO := Hid.mk (fun W => ropOk_any o W)
      have HB := Hid.mk (fun W => rdo_one W o)
      generalize hb : o.ok = bo at *
      obtain ⟨kd, ky, x, y, v⟩ := o
      simp only [Oq.cs, Pt.cs] at HO HB
      obtain ⟨c0, c1, c2, c3, c4⟩ := hat wr hch k kd ky x y v ho
      generalize hX : goodL (l.take k) = X at *
      have HK := Hid.mk (And.intro hch (And.intro hown (And.intro hat (And.intro ho hstep))))
      clear hch hown hat ho hstep
      go_wp2_with fail
      refine (HO.out _).mono ?_
      rintro e w1 ⟨rfl, hc1⟩
      have H1 := Hid.mk (And.intro (HK.out.1.trans hc1 (fun _ _ h => h)) (own_keep HK.out.2.1 hc1 (fun _ _ h => h)))
      obtain ⟨d0, d1, d2, d3, d4⟩ := HK.out.2.2.1 w1 H1.out.1 k kd ky x y v HK.out.2.2.2.1
      clear hc1
      cases bo
      · go_wp2_with fail
        go_roundw
        case rel => exact ⟨k + 1, by omega, by go_num, H1.out.1, by rw [HK.out.2.2.2.2]; simpa using H1.out.2⟩
        case measure => simp [intOf]; omega
      · go_wp2_with (at_builtin; refine wpl_append rfl (.tmp 24) (.tmp 29) 42 rfl w.heap.size 46 i0 _ 5 40 Try.underlying42 hi hz0 hz1 hz2 rfl (by omega) _ X.length _ rfl (own_keep H1.out.2 ((Chg.refl Nil w1).alloc _) (fun _ _ h => h)) _ (some ⟨w1.heap.size, 0, none⟩) 1 1 _ rfl (HB.out w1) (ops_one _) (by simp only [maxLen]; omega) (by omega) (by have := H1.out.1.size; simp; omega) ?_; intro v2 w2 o2 g2; have H2 := Hid.mk (And.intro o2 g2); clear o2 g2)
        go_roundw
        case rel =>
          refine ⟨k + 1, by omega, by go_num, ?_, ?_⟩
          · exact (H1.out.1.trans ((Chg.refl Nil w1).alloc _) (fun _ _ h => h)).trans H2.out.2.chg (fun i hi hm => by
              have := own_ge H1.out.2 i hm
              omega)
          · rw [HK.out.2.2.2.2]
            have := H2.out.1
            simpa using this
        case measure => simp [intOf]; omega
    · have hkn : k = n := by omega
      subst hkn
      rw [List.take_of_length_le (by omega)] at hown hgl
      have HK := Hid.mk (And.intro hch hown)
      clear hch hown
      go_wp2_with fail
      go_ret
      exact ⟨_, rfl, by rw [List.take_of_length_le (by omega)] ; exact HK.out.2, HK.out.1⟩
end Go.Proofs.Ytmbmfhpdajdpfaa
