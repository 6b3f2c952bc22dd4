/- Joined for this seat from: XEy. -/
import Derived.Deep.RegionLaw
import Derived.Test.YtkemmffdiclloaaGreatDoorBb
set_option linter.unusedVariables false
set_option linter.unusedSimpArgs false
namespace Go.Proofs.YtkemmffdiclloaaGreatDoor
open Go.RowKit
theorem ERow.cap {w : World} {B g cap : Nat} {T : List (Int × Int)} (h : ERow w B g cap T) : T.length ≤ cap ∧ cap ≤ maxLen := by
  rcases h.2 with ⟨h', _⟩ | ⟨g', cap', cur, h', hb, hg, hnc, hcm, hcs, htake⟩
  · simp at h'
  · simp only [Value.slice.injEq, Option.some.injEq, Addr.mk.injEq, and_true, true_and] at h'
    obtain ⟨rfl, rfl⟩ := h'
    exact ⟨hnc, hcm⟩
theorem ERow.pop {w : World} {B g cap : Nat} {T : List (Int × Int)} {p : Int × Int} (h : ERow w B g cap (T ++ [p])) : ERow w B g cap T := by
  unfold ERow at h
  rw [List.length_append, ringC_append] at h
  exact ownsRow_pop (ringC_len T) h
set_option maxHeartbeats 2000000 in
theorem rowPop_any (B f g cap n : Nat) (c0 c1 c3 : Value) (T : List (Int × Int)) (p : Int × Int) (hn : T.length = n) (hnb : n ≤ 1000000) (w : World)
    (hB : Bk w f 101 #[c0, c1, .slice (some { block := g, off := 0 }) (n + 1) cap, c3]) (h : ERow w B g cap (T ++ [p])) (hfg : f < B) :
    Calls Tryz.prog 500 #[.pointer (some { block := f, off := 2 })] w fun e w' => e = .returned (.iface 25 (eV p.1 p.2)) ∧
      Bk w' f 101 #[c0, c1, .slice (some { block := g, off := 0 }) n cap, c3] ∧ ERow w' B g cap T ∧ Chg (fun k => k = f) w w' := by
  have y2 := hB.cell 2 rfl
  have lf := hB.lt
  have xf := fun j => hB.free j
  have hp : (T ++ [p])[n]? = some p := by rw [List.getElem?_append_right (by omega), hn]; simp
  have z0 := (h.at hp).1
  have z1 := (h.at hp).2
  have HH := Hid.mk (And.intro hB h)
  have hg := h.lt
  have hc : n + 1 ≤ cap := by have := h.cap.1; rw [List.length_append, hn] at this; exact this
  clear hB h hp
  go_enter Tryz.func500, Tryz.ntmps500
  go_wp2_with fail
  have h3 := ((HH.out.1.set 2 (.slice (some { block := g, off := 0 }) n cap)).alloc (.cells #[.int .i64 p.1, .int .i64 p.2] 25))
  have h4 : ERow ((w.setCell { block := f, off := 2 } (.slice (some { block := g, off := 0 }) n cap)).alloc (.cells #[.int .i64 p.1, .int .i64 p.2] 25)) B g cap T := World.ownsRow.alloc (own_keep (w' := w.setCell { block := f, off := 2 } (.slice (some { block := g, off := 0 }) n cap)) HH.out.2.pop ((Chg.refl (fun k => k = f) w).setCell (p := { block := f, off := 2 }) (fun _ => rfl) _) (fun k h1 h2 => by have := own_at h1; omega)) _
  have h5 := ((Chg.refl (fun k => k = f) w).setCell (p := { block := f, off := 2 }) (fun _ => rfl) (.slice (some { block := g, off := 0 }) n cap)).alloc (.cells #[.int .i64 p.1, .int .i64 p.2] 25)
  clear HH
  generalize (w.setCell { block := f, off := 2 } (.slice (some { block := g, off := 0 }) n cap)).alloc (.cells #[.int .i64 p.1, .int .i64 p.2] 25) = W at *
  go_ret
  exact ⟨rfl, h3, h4, h5⟩
theorem infoE : ∃ i : TypeInfo, Tryz.prog.info? 25 = some i ∧ i.zero = some (.agg #[.int .i64 0, .int .i64 0]) ∧ i.size = 2 ∧ i.bytes = 16 := by
  have h : (Tryz.prog.info? 25).map (fun i => (i.zero, i.size, i.bytes)) = some (some (.agg #[.int .i64 0, .int .i64 0]), 2, 16) := by kernel_rfl
  cases hi : Tryz.prog.info? 25 with
  | none => rw [hi] at h; cases h
  | some i =>
    rw [hi] at h
    simp only [Option.map_some, Option.some.injEq, Prod.mk.injEq] at h
    exact ⟨i, rfl, h.1, h.2.1, h.2.2⟩
theorem assertE (x : Value) (w : World) : (Instr.typeAssert (.iface 25 x) 20 25 true).run Tryz.prog w = .ok (.tuple #[x, .bool true]) w := by kernel_rfl
theorem rds_pair_drew (w : World) (u v : Value) (t : TypeId) : Rds (w.alloc (.cells #[u, v] t)).drew (fun k => k = w.heap.size) 2 (some ⟨w.heap.size, 0, none⟩) 1 [u, v] := rds_pair w u v t
set_option maxHeartbeats 4000000 in
set_option maxRecDepth 100000 in
theorem rowPush_any (B f n : Nat) (c0 c1 c3 v : Value) (T : List (Int × Int)) (p : Int × Int) (hn : T.length = n) (hnb : n ≤ 1000000) (w : World)
    (hB : Bk w f 101 #[c0, c1, v, c3]) (h : w.ownsRow B 25 2 v n (ringC T)) (hfg : f < B) (hBw : B ≤ w.heap.size) :
    Calls Tryz.prog 501 #[.pointer (some { block := f, off := 2 }), .iface 25 (eV p.1 p.2)] w fun e w' => e = .returned (.tuple #[]) ∧
      ∃ v', Bk w' f 101 #[c0, c1, v', c3] ∧ w'.ownsRow B 25 2 v' (n + 1) (ringC (T ++ [p])) ∧ Chg (fun k => k = f ∨ Own v k) w w' ∧ ∀ k, Own v' k → Own v k ∨ w.heap.size ≤ k := by
  have y2 := hB.cell 2 rfl
  have lf := hB.lt
  have xf := fun j => hB.free j
  have HH := Hid.mk (And.intro hB h)
  clear hB h
  obtain ⟨i0, hi, hz0, hz1, hz2⟩ := infoE
  have hi0 := Hid.mk (And.intro hi (And.intro hz0 (And.intro hz1 hz2)))
  clear hi hz0 hz1 hz2
  have hta := assertE (.agg #[.int .i64 p.1, .int .i64 p.2]) w
  unfold eV
  go_enter Tryz.func501, Tryz.ntmps501
  go_wp2_with fail
  have hb1 := Bk.new w 25 #[.int .i64 p.1, .int .i64 p.2]
  have hB1 := HH.out.1.alloc (.cells #[.int .i64 p.1, .int .i64 p.2] 25)
  have hr1 := World.ownsRow.alloc HH.out.2 (.cells #[.int .i64 p.1, .int .i64 p.2] 25)
  have hc1 := (Chg.refl Nil w).alloc (.cells #[.int .i64 p.1, .int .i64 p.2] 25)
  clear y2 lf xf HH hta
  generalize hw1 : w.alloc (.cells #[.int .i64 p.1, .int .i64 p.2] 25) = w1 at *
  have hs1 : w1.heap.size = w.heap.size + 1 := by rw [← hw1]; simp
  clear hw1
  have z0 := hb1.cell 0 rfl
  have z1 := hb1.cell 1 rfl
  have y2 : w1.cell? { block := f, off := 2 } = some v := hB1.cell 2 rfl
  have lf := hB1.lt
  have xf := fun j => hB1.free j
  have H1 := Hid.mk (And.intro hB1 (And.intro hr1 (And.intro hc1 hs1)))
  have hB2 : B ≤ w1.heap.size := by omega
  clear hB1 hr1 hc1 hb1 hs1
  have HF := Hid.mk (fun (w' : World) (v' : Value) (hg : Grew (w1.alloc (.cells #[.int .i64 p.1, .int .i64 p.2] 25)).drew v w' v') => show Bk w' f 101 #[c0, c1, v, c3] from ((H1.out.1.alloc _).drew).keep hg.chg (fun h => by have := (World.ownsRow.lt H1.out.2.1 f h).1; omega))
  obtain ⟨hi, hz0, hz1, hz2⟩ := hi0.out
  go_region_law ((refine step_append (by rfl) _ _ _ (by rfl) B 25 i0 _ 2 16 Tryz.underlying99 hi hz0 hz1 hz2 (by rfl) (by omega) v n (ringC T) (by rfl) (own_keep H1.out.2.1 (((Chg.refl Nil w1).alloc _).drew) (fun _ _ h => h)) (fun k => k = w1.heap.size) _ 1 1 [.int .i64 p.1, .int .i64 p.2] (by rfl) (rds_pair_drew w1 _ _ _) (by intro u hu; simp at hu; rcases hu with rfl | rfl <;> rfl) (by simp only [maxLen]; omega) (by omega) (by simp; omega) ?_; intro v' w' hrow' hgrew'; have hbf := HF.out _ _ hgrew'; have hf2 := hbf.cell 2 rfl; have hff := fun j => hbf.free j; have hfl := hbf.lt; obtain ⟨F', c', rfl, hx1, hx2⟩ := hrow'.form (by omega)))
  all_goals
    refine bodyPost_end (results_none rfl _ _ _) rfl ?_
    have g1 := hbf.set 2 (.slice (some { block := F', off := 0 }) (n + 1) c')
    have g2 : w'.ownsRow B 25 2 (.slice (some { block := F', off := 0 }) (n + 1) c') (n + 1) (ringC (T ++ [p])) := by rw [ringC_append]; exact hrow'
    have g3 := own_keep (w' := w'.setCell { block := f, off := 2 } (.slice (some { block := F', off := 0 }) (n + 1) c')) g2 ((Chg.refl (fun k => k = f) w').setCell (p := { block := f, off := 2 }) (fun _ => rfl) _) (fun k h1 h2 => by have := (World.ownsRow.lt g2 k h1).1; omega)
    have g4 := (((((Chg.refl (fun k => k = f ∨ Own v k) w).trans H1.out.2.2.1 (fun _ _ h => False.elim h)).trans ((Chg.refl Nil w1).alloc (.cells #[.int .i64 p.1, .int .i64 p.2] 25)).drew (fun _ _ h => False.elim h)).trans hgrew'.chg (fun _ _ h => .inr h)).setCell (p := { block := f, off := 2 }) (fun _ => .inl rfl) (.slice (some { block := F', off := 0 }) (n + 1) c'))
    have g5 : ∀ k, Own (.slice (some { block := F', off := 0 }) (n + 1) c') k → Own v k ∨ w.heap.size ≤ k := fun k hk => by
      rcases Nat.lt_or_ge k (w1.heap.size + 1) with h | h
      · exact .inl (hgrew'.lies k (by simpa using h) hk)
      · exact .inr (by have := H1.out.2.2.2; omega)
    clear hbf hf2 hff hrow' hgrew' HF H1 g2
    generalize w'.setCell { block := f, off := 2 } (.slice (some { block := F', off := 0 }) (n + 1) c') = W at *
    exact ⟨rfl, _, g1, g3, g4, g5⟩

end Go.Proofs.YtkemmffdiclloaaGreatDoor
