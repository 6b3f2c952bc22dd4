/- The contract of a disk's Copy. -/
import Derived.Test.YtbaaoldcecefcaaDkF
namespace Go.Proofs.Ytbaaoldcecefcaa
open Go.RowKit

theorem clonew_nil (n c : Nat) (w : World) : Calls Try.prog 28 #[.slice none n c] w fun e w' => e = .returned (.slice none 0 0) ∧ w' = w := by
  have q : ∀ (w : World) (a : Option Addr) (n c n' c' : Nat), (binOp .eql 55 (.slice a n c) (.slice none n' c')).run Try.prog w = .ok (.bool a.isNone) w := fun w a n c n' c' => Lib.run_eql_slice_nil w _ _ a n c n' c' Try.underlying55
  go_enter Try.func28, Try.ntmps28
  go_wp2
  go_ret
  exact ⟨rfl, rfl⟩
set_option maxHeartbeats 1000000 in
set_option maxRecDepth 100000 in
theorem clonew_some (ad : Addr) (n c : Nat) (xs : List Value) (S : Nat → Prop) (w : World) (hr : Rds w S 2 (some ad) n xs) (h1 : ∀ u ∈ xs, u.oneCell' = true) (hl : n ≤ 1000000000) :
    Calls Try.prog 28 #[.slice (some ad) n c] w fun e w' => ∃ v', e = .returned v' ∧ w'.ownsRow w.heap.size 61 2 v' n xs ∧ Chg Nil w w' := by
  have q : ∀ (w : World) (a : Option Addr) (n c n' c' : Nat), (binOp .eql 55 (.slice a n c) (.slice none n' c')).run Try.prog w = .ok (.bool a.isNone) w := fun w a n c n' c' => Lib.run_eql_slice_nil w _ _ a n c n' c' Try.underlying55
  obtain ⟨i0, hi, hz0, hz1, hz2⟩ := info_parts Try.infoWrite
  have hr1 : ∀ o, Rds (w.alloc o) (fun k => S k ∧ k < w.heap.size) 2 (some ad) n xs := fun o => (hr.here (by omega)).keep ((Chg.refl Nil w).alloc o) (fun _ _ h => h)
  have HR := Hid.mk (And.intro hr1 h1)
  clear hr hr1 h1
  go_enter Try.func28, Try.ntmps28
  go_wp2_with (at_builtin; refine wpl_append rfl _ _ 55 rfl w.heap.size 61 i0 _ 2 32 Try.underlying55 hi hz0 hz1 hz2 rfl (by omega) _ _ _ rfl (World.ownsRow_made w #[] 0 (Nat.le_refl _) (Nat.zero_le _) (by simp)) _ (some ad) n c _ rfl (HR.out.1 _) HR.out.2 ?c2 ?c3 ?c4 ?_)
  case c2 => simp only [maxLen]; omega
  case c3 => omega
  case c4 => simp
  intro v' w1 hown hg
  have H := Hid.mk (And.intro hown hg)
  clear hown hg
  go_wp2
  go_ret
  refine ⟨v', rfl, by simpa using H.out.1, ?_⟩
  exact ((Chg.refl Nil w).alloc _).trans H.out.2.chg (fun k hk h => by have := own_at h; omega)
theorem clonew_any (A : Option Addr) (n c : Nat) (xs : List Value) (S : Nat → Prop) (w : World) (hr : Rds w S 2 A n xs) (h1 : ∀ u ∈ xs, u.oneCell' = true) (hl : n ≤ 1000000000) :
    Calls Try.prog 28 #[.slice A n c] w fun e w' => ∃ v', e = .returned v' ∧ w'.ownsRow w.heap.size 61 2 v' n xs ∧ Chg Nil w w' := by
  cases A with
  | some ad => exact clonew_some ad n c xs S w hr h1 hl
  | none =>
    have h0 : n = 0 := by
      rcases Nat.eq_zero_or_pos n with h | h
      · exact h
      · obtain ⟨ad, he, _⟩ := hr.2 h
        cases he
    subst h0
    have hb : xs = [] := List.eq_nil_of_length_eq_zero (by simpa using hr.1)
    subst hb
    refine (clonew_nil 0 c w).mono ?_
    rintro e w' ⟨rfl, rfl⟩
    exact ⟨_, rfl, ⟨by simp, .inl ⟨rfl, rfl⟩⟩, Chg.refl _ _⟩
theorem wCells_one {w : World} {R : Nat → Prop} {ws : List (Nat × Value)} {bs : List (List UInt8)} (h : RdL w R (ws.map (·.2)) bs) : ∀ u ∈ wCells ws, u.oneCell' = true := by
  intro u hu
  unfold wCells at hu
  obtain ⟨q, hq, hu⟩ := List.mem_flatMap.1 hu
  simp at hu
  rcases hu with rfl | rfl
  · rfl
  · obtain ⟨i, hi, he⟩ := List.mem_iff_getElem.1 hq
    have hl := h.1
    rw [List.length_map] at hl
    obtain ⟨A, c, hA, _⟩ := h.2 i (bs[i]'(by omega)) (List.getElem?_eq_getElem _)
    rw [List.getElem?_map, List.getElem?_eq_getElem hi, he] at hA
    have : q.2 = _ := Option.some.inj hA
    rw [this]
    rfl

/-- A struct laid for a copy. -/
theorem Dk.copied {w W : World} {g : Nat} {M R : Nat → Prop} {d : Dp} (h : Dk w g M R d) (hc : Chg Nil w W) {nv lv wv : Value} {ws : List (Nat × Value)} {g' : Nat}
    (hws : RdL w R (ws.map (·.2)) (d.waits.map (·.2))) (hats : ws.map (·.1) = d.waits.map (·.1))
    (hb : Bk W g' 57 #[nv, lv, wv, .bool d.dead, .int .i64 (d.stop : Int)]) (hn : Row W 5 1 nv d.now.length (d.now.map bv)) (hl : Row W 5 1 lv d.now.length (d.lasts.map bv))
    (hw : Row W 61 2 wv d.waits.length (wCells ws)) (hge : w.heap.size ≤ g')
    (h1 : ∀ k, Own nv k → w.heap.size ≤ k ∧ k ≠ g') (h2 : ∀ k, Own lv k → w.heap.size ≤ k ∧ k ≠ g' ∧ ¬ Own nv k) (h3 : ∀ k, Own wv k → w.heap.size ≤ k ∧ k ≠ g' ∧ ¬ Own nv k ∧ ¬ Own lv k) :
    Dk W g' (fun k => w.heap.size ≤ k ∧ k < W.heap.size) R d := by
  have hlt := h.lt
  have hok := h.ok
  have hsz := hc.size
  refine ⟨nv, lv, wv, ws, ?_⟩
  exact
    { bk := hb, now := hn, lasts := hl, row := hw, ats := hats, vals := hws.keep hc (fun _ _ h => h), mg := ⟨hge, hb.lt⟩
      mn := fun k hk => ⟨⟨(h1 k hk).1, hn.lt k hk⟩, (h1 k hk).2⟩
      ml := fun k hk => ⟨⟨(h2 k hk).1, hl.lt k hk⟩, (h2 k hk).2⟩
      mw := fun k hk => ⟨⟨(h3 k hk).1, hw.lt k hk⟩, (h3 k hk).2⟩
      apart := fun k hm hr => by have := hlt k (.inr hr); omega
      lt := fun k hk => by
        rcases hk with hk | hk
        · exact hk.2
        · have := hlt k (.inr hk); omega
      ok := hok }

set_option maxHeartbeats 2000000 in
set_option maxRecDepth 100000 in
theorem dcopy_any {g : Nat} {M R : Nat → Prop} {d : Dp} {w : World} (h : Dk w g M R d) (hlong : d.waits.length ≤ 1000000) :
    Calls Try.prog 19 #[.pointer (some ⟨g, 0, none⟩)] w fun e w' => ∃ g' M', e = .returned (.pointer (some ⟨g', 0, none⟩)) ∧ Chg Nil w w' ∧ Dk w' g' M' R d ∧ ∀ k, M' k → w.heap.size ≤ k := by
  have hD := Hid.mk h
  obtain ⟨nv, lv, wv, ws, h⟩ := h
  obtain ⟨A, ac, rfl, hac, ham⟩ := h.now.form
  obtain ⟨B, bc, rfl, hbc, hbm⟩ := h.lasts.form
  obtain ⟨F, fc, rfl, hfc, hfm⟩ := h.row.form
  have hc0 : w.cell? ⟨g, 0, none⟩ = some (.slice A d.now.length ac) := h.bk.cell 0 rfl
  have hc1 : w.cell? ⟨g, 1, none⟩ = some (.slice B d.now.length bc) := h.bk.cell 1 rfl
  have hc2 : w.cell? ⟨g, 2, none⟩ = some (.slice F d.waits.length fc) := h.bk.cell 2 rfl
  have hc3 : w.cell? ⟨g, 3, none⟩ = some (.bool d.dead) := h.bk.cell 3 rfl
  have hc4 : w.cell? ⟨g, 4, none⟩ = some (.int .i64 (d.stop : Int)) := h.bk.cell 4 rfl
  have hmost := h.ok.most
  have hstep : ∀ W : World, Chg Nil w W → RdB W (Own (.slice A d.now.length ac)) A d.now.length d.now ∧ RdB W (Own (.slice B d.now.length bc)) B d.now.length d.lasts ∧ Rds W (Own (.slice F d.waits.length fc)) 2 F d.waits.length (wCells ws) :=
    fun W hc => ⟨Rds.keep h.now.rd hc (fun _ _ h => h), Rds.keep h.lasts.rd hc (fun _ _ h => h), h.row.rd.keep hc (fun _ _ h => h)⟩
  have hone := wCells_one h.vals
  have hS : ∀ W : World, Chg Nil w W → W.cell? ⟨g, 0, none⟩ = some (.slice A d.now.length ac) ∧ W.cell? ⟨g, 1, none⟩ = some (.slice B d.now.length bc) ∧ W.cell? ⟨g, 2, none⟩ = some (.slice F d.waits.length fc) ∧ W.cell? ⟨g, 3, none⟩ = some (.bool d.dead) ∧ W.cell? ⟨g, 4, none⟩ = some (.int .i64 (d.stop : Int)) :=
    fun W hc => ⟨hc.cell hc0 (fun h => h), hc.cell hc1 (fun h => h), hc.cell hc2 (fun h => h), hc.cell hc3 (fun h => h), hc.cell hc4 (fun h => h)⟩
  have HH := Hid.mk (And.intro h (And.intro hstep (And.intro hone hS)))
  clear h hstep hone hS
  go_enter Try.func19, Try.ntmps19
  go_wp2_with fail
  go_region_held3 (fun w' => w'.cell? ⟨g, 0, none⟩ = some (.slice A d.now.length ac) ∧ w'.cell? ⟨g, 1, none⟩ = some (.slice B d.now.length bc) ∧ w'.cell? ⟨g, 2, none⟩ = some (.slice F d.waits.length fc) ∧ w'.cell? ⟨g, 3, none⟩ = some (.bool d.dead) ∧ w'.cell? ⟨g, 4, none⟩ = some (.int .i64 (d.stop : Int)))
    (first | go_keep | exact HH.out.2.2.2 _ (by assumption))
    (first
      | (go_at_call 26; refine (clone_any A _ ac d.now _ _ (HH.out.2.1 _ (by first | exact (Chg.refl Nil w).drew | assumption)).1 (by omega)).mono ?_; rintro e w1 ⟨v1, rfl, ho1, hcc⟩; have hcw1 : Chg Nil w w1 := (by first | exact (Chg.refl Nil w).drew.trans hcc (fun _ _ h => h)); clear hcc; obtain ⟨A1, c1, rfl, hx1, hy1⟩ := own_form ho1)
      | (go_at_call 26; refine (clone_any B _ bc d.lasts _ _ (HH.out.2.1 _ (by first | exact (Chg.refl Nil w).drew | assumption)).2.1 (by omega)).mono ?_; rintro e w2 ⟨v2, rfl, ho2, hcc2⟩; have hcw2 : Chg Nil w w2 := hcw1.trans hcc2 (fun _ _ h => h); obtain ⟨B1, c2, rfl, hx2, hy2⟩ := own_form ho2)
      | (go_at_call 28; refine (clonew_any F _ fc (wCells ws) _ _ (HH.out.2.1 _ (by first | exact (Chg.refl Nil w).drew | assumption)).2.2 HH.out.2.2.1 (by omega)).mono ?_; rintro e w3 ⟨v3, rfl, ho3, hcc3⟩; have hcw3 : Chg Nil w w3 := hcw2.trans hcc3 (fun _ _ h => h); obtain ⟨F1, c3, rfl, hx3, hy3⟩ := own_form ho3))
  have b := Bk.new w3 57 #[.slice A1 d.now.length c1, .slice B1 d.now.length c2, .slice F1 d.waits.length c3, .bool d.dead, .int .i64 (d.stop : Int)]
  have hA : Chg Nil w3 (w3.alloc (.cells #[.slice A1 d.now.length c1, .slice B1 d.now.length c2, .slice F1 d.waits.length c3, .bool d.dead, .int .i64 (d.stop : Int)] 57)) := (Chg.refl Nil w3).alloc _
  have l1 := own_lt ho1
  have l2 := own_lt ho2
  have l3 := own_lt ho3
  have g1 := own_ge ho1
  have g2 := own_ge ho2
  have g3 := own_ge ho3
  have s1 := hcw1.size
  have s2 := hcc2.size
  have s3 := hcc3.size
  have g1' : ∀ k, Own (.slice A1 d.now.length c1) k → w.heap.size ≤ k := g1
  have hfin := Dk.copied hD.out (hcw3.trans hA (fun _ _ h => h)) HH.out.1.vals HH.out.1.ats b
    ((((Row.of_own ho1).keep hcc2 (fun _ _ h => h)).keep hcc3 (fun _ _ h => h)).keep hA (fun _ _ h => h))
    (((Row.of_own ho2).keep hcc3 (fun _ _ h => h)).keep hA (fun _ _ h => h)) ((Row.of_own ho3).keep hA (fun _ _ h => h)) (by omega)
    (fun k h1 => by have := l1 k h1; have := g1' k h1; omega)
    (fun k h2 => ⟨by have := g2 k h2; omega, by have := l2 k h2; omega, fun h1 => by have := g2 k h2; have := l1 k h1; omega⟩)
    (fun k h3 => ⟨by have := g3 k h3; omega, by have := l3 k h3; omega, fun h1 => by have := g3 k h3; have := l1 k h1; omega, fun h2 => by have := g3 k h3; have := l2 k h2; omega⟩)
  have HF := Hid.mk (And.intro (hcw3.trans hA (fun _ _ h => h)) hfin)
  clear hfin b hA ho1 ho2 ho3 hcw1 hcw2 hcw3 hcc2 hcc3
  go_wp2
  go_ret
  exact ⟨_, _, rfl, HF.out.1, HF.out.2, fun k hk => hk.1⟩
end Go.Proofs.Ytbaaoldcecefcaa
