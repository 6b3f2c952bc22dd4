/- Joined for this seat from: XFh. -/
import Derived.Test.YtkemmffdiclloaaGreatDoorBr
set_option linter.unusedVariables false
set_option linter.unusedSimpArgs false
namespace Go.Proofs.YtkemmffdiclloaaGreatDoor
open Go.RowKit
open Go.ChangeMaps
theorem cellsE : Tryz.prog.cellsOf 25 = 2 := by kernel_rfl
theorem keyTE : Tryz.prog.keyType 25 = true := by kernel_rfl
theorem cellsI : Tryz.prog.cellsOf 2 = 1 := by kernel_rfl
def SmallE (z : Int × Int) : Prop := (-1073741824 ≤ z.1 ∧ z.1 ≤ 1073741824) ∧ (-1073741824 ≤ z.2 ∧ z.2 ≤ 1073741824)
theorem keyE_of (z : Int × Int) (h : SmallE z) : ∃ l, keyOf Tryz.prog 25 (evZ z) = some l := by
  obtain ⟨ha, hb⟩ := h
  have e1 : IntKind.i64.min = -9223372036854775808 := by decide
  have e2 : IntKind.i64.max = 9223372036854775807 := by decide
  have wa : (Lit.int .i64 z.1).wf = true := by simp only [Lit.wf, e1, e2, Bool.and_eq_true, decide_eq_true_eq]; omega
  have wb : (Lit.int .i64 z.2).wf = true := by simp only [Lit.wf, e1, e2, Bool.and_eq_true, decide_eq_true_eq]; omega
  obtain ⟨m, hm⟩ : ∃ m, Tryz.prog.types.size = m + 1 := ⟨577, by kernel_rfl⟩
  unfold keyOf evZ
  simp only [Tryz.underlying25]
  rw [if_pos (by simp [keyTE, Value.formed, Tryz.underlying25, cellsE]), hm]
  unfold Program.keyLits
  simp only [Tryz.underlying25, Value.cells]
  rw [if_pos (by simp [cellsE])]
  simp [Program.keyLits, Tryz.underlying2, wa, wb, cellsI]
theorem sb_other (W : World) {m i : Nat} (o : Obj) (h : i ≠ m) : (setBlock W m o).heap[i]? = W.heap[i]? := by
  unfold setBlock
  simp only [Array.getElem?_setIfInBounds]
  rw [if_neg (fun e => h e.symm)]
theorem sb_same (W : World) {m : Nat} (o : Obj) (h : m < W.heap.size) : (setBlock W m o).heap[m]? = some o := by
  unfold setBlock
  simp [Array.getElem?_setIfInBounds, h]
theorem chg_sb {S : Nat → Prop} {a W : World} (h : Chg S a W) {m : Nat} (hm : m < a.heap.size → S m) (o : Obj) : Chg S a (setBlock W m o) :=
  ⟨h.os, h.tape, h.output, by simpa [setBlock] using h.size, fun i hi hn => (sb_other W o (fun e => by subst e; exact hn (hm hi))).trans (h.old i hi hn)⟩
/-- The flood's block beside a boxed cell. -/
def FlS (f g : Nat) (cs zc : Array Value) (W : World) : Prop := Bk W f 101 cs ∧ Bk W g 25 zc
theorem flS {f g : Nat} {cs zc : Array Value} {W : World} (h1 : Bk W f 101 cs) (h2 : Bk W g 25 zc) : FlS f g cs zc W := ⟨h1, h2⟩
theorem FlS.map {f g m : Nat} {cs zc : Array Value} {W : World} (h : FlS f g cs zc W) (hf : f ≠ m) (hg : g ≠ m) (o : Obj) : FlS f g cs zc (setBlock W m o) :=
  ⟨(sb_other W o hf).trans h.1, (sb_other W o hg).trans h.2⟩
theorem FlS.drew {f g : Nat} {cs zc : Array Value} {W : World} (h : FlS f g cs zc W) : FlS f g cs zc W.drew := h
def FlM (f g m : Nat) (cs zc : Array Value) (o : Obj) (W : World) : Prop := FlS f g cs zc W ∧ W.heap[m]? = some o
theorem flM {f g m : Nat} {cs zc : Array Value} {o : Obj} {W : World} (h : FlS f g cs zc W) (h2 : W.heap[m]? = some o) : FlM f g m cs zc o W := ⟨h, h2⟩
set_option maxHeartbeats 4000000 in
set_option maxRecDepth 100000 in
theorem look_any (B f m n N r : Nat) (l h : Int × Int) (v : Value) (S T : List (Int × Int)) (z : Int × Int) (hr : r ≤ 12) (hz : SmallE z) (hS : ∀ y ∈ S, SmallE y) (hN : N ≤ 1000000) (hn : T.length = n) (hnb : n ≤ 1000000)
    (hl : Small34 l) (hh : Small34 h) (hok : RingOk (hexL z (12 - r))) (w : World)
    (hB : Bk w f 101 #[.int .i64 (r : Int), .func (.func 41) #[bxV l h] #[], v, .map (some m)])
    (hrow : w.ownsRow B 25 2 v n (ringC T)) (hsn : Seen w m S N) (hfm : f ≠ m) (hfB : f < B) (hmB : m < B) (hBw : B ≤ w.heap.size) :
    Calls Tryz.prog 42 #[.pointer (some { block := f, off := 0 }), .agg #[.int .i64 z.1, .int .i64 z.2]] w fun e w' => e = .returned (.tuple #[]) ∧
      ∃ v' n' T', T'.length = n' ∧ Bk w' f 101 #[.int .i64 (r : Int), .func (.func 41) #[bxV l h] #[], v', .map (some m)] ∧ w'.ownsRow B 25 2 v' n' (ringC T') ∧ Seen w' m (z :: S) (N + 1) ∧
        ((z ∈ S ∧ T' = T) ∨ (z ∉ S ∧ touchP l h (hexL z (12 - r)) = false ∧ T' = T) ∨ (z ∉ S ∧ touchP l h (hexL z (12 - r)) = true ∧ T'.Perm (z :: T))) ∧
        Chg (fun k => k = f ∨ k = m ∨ Own v k) w w' ∧ ∀ k, Own v' k → Own v k ∨ w.heap.size ≤ k := by
  obtain ⟨kl, hkey⟩ := keyE_of z hz
  obtain ⟨es, clock, hmap, F⟩ := hsn
  have hlt := hB.lt
  have hmlt : m < w.heap.size := (Array.getElem?_eq_some_iff.1 hmap).1
  have K := keyE
  have zv : ∀ u : World, (zeroValue 3).run Tryz.prog u = .ok (.int .i64 0) u := Tryz.zeroValue3
  have hkS : ∀ y ∈ S, ∃ l, keyOf Tryz.prog 25 (evZ y) = some l := fun y hy => keyE_of y (hS y hy)
  have HZ := Hid.mk hz
  have HVG := Hid.mk (fun k (hk : Own v k) => show B ≤ k ∧ k < w.heap.size from World.ownsRow.lt hrow k hk)
  have HRW := Hid.mk (And.intro hB hrow)
  have HMP := Hid.mk (And.intro hmap F)
  have HK := Hid.mk (And.intro K (And.intro zv (And.intro hkS hkey)))
  clear hB hrow hmap F K zv hkS hkey hS
  go_enter Tryz.func42, Tryz.ntmps42
  go_wp2_with fail
  have hb1 := Bk.new w 25 #[.int .i64 z.1, .int .i64 z.2]
  have hf1 := HRW.out.1.alloc (.cells #[.int .i64 z.1, .int .i64 z.2] 25)
  have hr1 := World.ownsRow.alloc HRW.out.2 (.cells #[.int .i64 z.1, .int .i64 z.2] 25)
  have hm1 : (w.alloc (.cells #[.int .i64 z.1, .int .i64 z.2] 25)).heap[m]? = some (.map es clock) := (heap_alloc_old w _ hmlt).trans HMP.out.1
  have hc1 := (Chg.refl Nil w).alloc (.cells #[.int .i64 z.1, .int .i64 z.2] 25)
  have hs1 : (w.alloc (.cells #[.int .i64 z.1, .int .i64 z.2] 25)).heap.size = w.heap.size + 1 := by simp
  generalize w.alloc (.cells #[.int .i64 z.1, .int .i64 z.2] 25) = w0 at *
  obtain ⟨G, hG⟩ : ∃ G, G = w.heap.size := ⟨_, rfl⟩
  rw [← hG] at hb1 ⊢
  have hGm : G ≠ m := by omega
  have hGf : G ≠ f := by omega
  have HG := Hid.mk hG
  clear hG
  have hm1d : w0.drew.heap[m]? = some (.map es clock) := hm1
  obtain ⟨c, st, es1, clock1, s1, s2, s3, s5, s4⟩ := seen_raise HK.out.1 Tryz.underlying97 HK.out.2.1 HMP.out.2 HK.out.2.2.1 z HK.out.2.2.2 hm1d
  have hmlt1 : m < w0.drew.heap.size := (Array.getElem?_eq_some_iff.1 hm1d).1
  obtain ⟨es2, clock2, t1, t2, t3⟩ := s4 (setBlock w0.drew m (.map es1 clock1)) (sb_same _ _ hmlt1)
  have s2' := s2 w0.drew hm1d
  have s5' := s5 (setBlock w0.drew m (.map es1 clock1)) (sb_same _ _ hmlt1)
  unfold evZ at s2' s3 s5' t3
  unfold goInt at s3 t1
  have hc0 : 0 ≤ c := by omega
  have hc2 : c ≤ 1000000 := by omega
  have H1 := Hid.mk (And.intro hf1 (And.intro hr1 (And.intro hc1 hs1)))
  have HS1 := Hid.mk (And.intro s1 (And.intro t2 t3))
  have hS0 : FlS f G #[.int .i64 (r : Int), .func (.func 41) #[bxV l h] #[], v, .map (some m)] #[.int .i64 z.1, .int .i64 z.2] w0.drew := flS hf1 hb1
  clear hb1 hf1 hr1 hc1 hs1 s1 s2 s4 s5 t2 t3 hm1 HRW HMP hlt hmlt
  have hne := Sub.some (S := FlS f G #[.int .i64 (r : Int), .func (.func 41) #[bxV l h] #[], v, .map (some m)] #[.int .i64 z.1, .int .i64 z.2]) hS0
  have yx0 : ∀ x : Sub (FlS f G #[.int .i64 (r : Int), .func (.func 41) #[bxV l h] #[], v, .map (some m)] #[.int .i64 z.1, .int .i64 z.2]), x.world.cell? ⟨f, 3, none⟩ = some (.map (some m)) := fun x => x.ok.1.cell 3 rfl
  have yx1 : ∀ x : Sub (FlS f G #[.int .i64 (r : Int), .func (.func 41) #[bxV l h] #[], v, .map (some m)] #[.int .i64 z.1, .int .i64 z.2]), x.world.cell? ⟨G, 0, none⟩ = some (.int .i64 z.1) := fun x => x.ok.2.cell 0 rfl
  have yx2 : ∀ x : Sub (FlS f G #[.int .i64 (r : Int), .func (.func 41) #[bxV l h] #[], v, .map (some m)] #[.int .i64 z.1, .int .i64 z.2]), x.world.cell? ⟨G, 1, none⟩ = some (.int .i64 z.2) := fun x => x.ok.2.cell 1 rfl
  refine wp_region_lexT (FlS f G #[.int .i64 (r : Int), .func (.func 41) #[bxV l h] #[], v, .map (some m)] #[.int .i64 z.1, .int .i64 z.2]) (.one true 0 (.one true 4 (.one false 1 (.one true 2 (.one true 3 (.two 5 (.one true 6 (.one false 7 (.one true 8 (.one false 9 .fin)))) 7 (.one true 8 (.one false 5 (.one true 6 (.one false 9 .fin)))))))))) (by kernel_rfl) (by kernel_rfl) (fun d v c a w h => by cases d <;> exact h) hS0 ?_
  refine lexT_s rfl rfl ?_
  repeat (go_big_quiet_step (fail))
  refine wpQuiet_nil ?_
  refine lexT_s rfl rfl ?_
  repeat (go_big_quiet_step (fail))
  refine wpQuiet_nil ?_
  refine lexT_e rfl ?_
  go_wp2_with fail
  refine And.intro (hS0) ?_
  refine lexT_s rfl rfl ?_
  repeat (go_big_quiet_step (fail))
  refine wpQuiet_nil ?_
  refine lexT_s rfl rfl ?_
  repeat (go_big_quiet_step (fail))
  refine wpQuiet_nil ?_
  refine lexT_2 rfl rfl ?_ ?_
  case' refine_1 =>
    go_wp2_with fail
    refine And.intro hS0 ?_
    refine lexT_s rfl rfl ?_
    repeat (go_big_quiet_step (fail))
    refine wpQuiet_nil ?_
    refine lexT_e rfl ?_
    go_wp2_with fail
    refine And.intro (hS0.map (fun h => hfm h) (fun h => hGm h) _) ?_
    refine lexT_s rfl rfl ?_
    repeat (go_big_quiet_step (fail))
    refine wpQuiet_nil ?_
    refine lexT_e rfl ?_
    go_wp2_with fail
    refine And.intro ((hS0.map (fun h => hfm h) (fun h => hGm h) _).map (fun h => hfm h) (fun h => hGm h) _) ?_
    refine lexT_end ?_
    go_wp2_with fail
  case' refine_2 =>
    go_wp2_with fail
    refine And.intro (hS0.map (fun h => hfm h) (fun h => hGm h) _) ?_
    refine lexT_s rfl rfl ?_
    repeat (go_big_quiet_step (fail))
    refine wpQuiet_nil ?_
    refine lexT_e rfl ?_
    go_wp2_with fail
    refine And.intro (hS0.map (fun h => hfm h) (fun h => hGm h) _) ?_
    refine lexT_s rfl rfl ?_
    repeat (go_big_quiet_step (fail))
    refine wpQuiet_nil ?_
    refine lexT_e rfl ?_
    go_wp2_with fail
    refine And.intro ((hS0.map (fun h => hfm h) (fun h => hGm h) _).map (fun h => hfm h) (fun h => hGm h) _) ?_
    refine lexT_end ?_
    go_wp2_with fail
  all_goals
    have hS2 := (hS0.map (fun h => hfm h) (fun h => hGm h) (.map es1 clock1)).map (fun h => hfm h) (fun h => hGm h) (.map es2 clock2)
    have hm2 : (setBlock (setBlock w0.drew m (.map es1 clock1)) m (.map es2 clock2)).heap[m]? = some (.map es2 clock2) := sb_same _ _ (by simp only [setBlock, Array.size_setIfInBounds]; exact hmlt1)
    have hch2 : Chg (fun k => k = m) w0.drew (setBlock (setBlock w0.drew m (.map es1 clock1)) m (.map es2 clock2)) := chg_sb (S := fun k => k = m) (m := m) (chg_sb (S := fun k => k = m) (m := m) (Chg.refl _ w0.drew) (fun _ => rfl) (.map es1 clock1)) (fun _ => rfl) (.map es2 clock2)
    clear s2' s3 s5' t1 hne yx0 yx1 yx2
    generalize setBlock (setBlock w0.drew m (.map es1 clock1)) m (.map es2 clock2) = w1 at *
    have hS3 : FlM f G m #[.int .i64 (r : Int), .func (.func 41) #[bxV l h] #[], v, .map (some m)] #[.int .i64 z.1, .int .i64 z.2] (.map es2 clock2) w1.drew := flM hS2.drew hm2
    have hne := Sub.some (S := (FlM f G m #[.int .i64 (r : Int), .func (.func 41) #[bxV l h] #[], v, .map (some m)] #[.int .i64 z.1, .int .i64 z.2] (.map es2 clock2))) hS3
    have yx0 : ∀ x : Sub (FlM f G m #[.int .i64 (r : Int), .func (.func 41) #[bxV l h] #[], v, .map (some m)] #[.int .i64 z.1, .int .i64 z.2] (.map es2 clock2)), x.world.cell? ⟨f, 3, none⟩ = some (.map (some m)) := fun x => x.ok.1.1.cell 3 rfl
    have yx1 : ∀ x : Sub (FlM f G m #[.int .i64 (r : Int), .func (.func 41) #[bxV l h] #[], v, .map (some m)] #[.int .i64 z.1, .int .i64 z.2] (.map es2 clock2)), x.world.cell? ⟨G, 0, none⟩ = some (.int .i64 z.1) := fun x => x.ok.1.2.cell 0 rfl
    have yx2 : ∀ x : Sub (FlM f G m #[.int .i64 (r : Int), .func (.func 41) #[bxV l h] #[], v, .map (some m)] #[.int .i64 z.1, .int .i64 z.2] (.map es2 clock2)), x.world.cell? ⟨G, 1, none⟩ = some (.int .i64 z.2) := fun x => x.ok.1.2.cell 1 rfl
    have yl : ∀ x : Sub (FlM f G m #[.int .i64 (r : Int), .func (.func 41) #[bxV l h] #[], v, .map (some m)] #[.int .i64 z.1, .int .i64 z.2] (.map es2 clock2)), (Instr.lookup 97 (.map (some m)) (.agg #[.int .i64 z.1, .int .i64 z.2]) false).run Tryz.prog x.world = .ok (.int .i64 (c + 1)) x.world := fun x => HS1.out.2.2 x.world x.ok.2
    refine wp_region_lexH (FlM f G m #[.int .i64 (r : Int), .func (.func 41) #[bxV l h] #[], v, .map (some m)] #[.int .i64 z.1, .int .i64 z.2] (.map es2 clock2)) [true, true, false, true, true, true, true] [0, 4, 1, 2, 3, 5, 6] (by kernel_rfl) (by kernel_rfl) (fun d v c a w h => by cases d <;> exact h) hS3 ?_
    refine lexH_quiet (l1 := [_, _]) rfl ?_
    repeat (go_big_quiet_step (fail))
    refine wpQuiet_nil ?_
    refine lexH_eff ?_
    go_wp2_with fail
    refine And.intro hS3 ?_
    refine lexH_quiet (l1 := [_, _, _, _]) rfl ?_
    repeat (go_big_quiet_step (fail))
    refine wpQuiet_nil ?_
    refine lexH_end ?_
    have hrow2 : w1.drew.ownsRow B 25 2 v n (ringC T) := own_keep (own_keep H1.out.2.1 (Chg.refl Nil w0).drew (fun _ _ h => h)) hch2.drew (fun k h1 h2 => by have := (World.ownsRow.lt H1.out.2.1 k h1).1; omega)
    have hchg2 : Chg (fun k => k = f ∨ k = m ∨ Own v k) w w1.drew := (H1.out.2.2.1.wider (T := fun k => k = f ∨ k = m ∨ Own v k) (fun _ _ h => h.elim)).trans (((Chg.refl Nil w0).drew.wider (T := fun k => k = m) (fun _ _ h => h.elim)).trans hch2.drew (fun _ _ h => h)) (fun _ _ h => .inr (.inl h))
    have hsz2 : w.heap.size < w1.drew.heap.size := by
      have a := H1.out.2.2.2
      have b : w0.heap.size ≤ w1.heap.size := hch2.size
      show w.heap.size < w1.heap.size
      omega
    have hseen2 : Seen w1.drew m (z :: S) (N + 1) := ⟨es2, clock2, hm2, HS1.out.2.1⟩
    have hfl2 : FlS f G #[.int .i64 (r : Int), .func (.func 41) #[bxV l h] #[], v, .map (some m)] #[.int .i64 z.1, .int .i64 z.2] w1.drew := hS3.1
    have HT := Hid.mk (And.intro hfl2 (And.intro hrow2 (And.intro hseen2 (And.intro hchg2 hsz2))))
    clear hrow2 hchg2 hseen2 hfl2 hS2 hm2 hch2 hS3 hne yx0 yx1 yx2 yl H1 hm1d hmlt1 hS0 hsz2
    generalize w1.drew = w2 at *
    by_cases hzS : z ∈ S
    · have hc1 : 1 ≤ c := by
        rcases HS1.out.1 with h | h
        · exact h.2.1
        · exact absurd hzS h.1
      have k1 : decide (1 < c + 1) = true := decide_eq_true (by omega)
      go_wp2_with fail
      refine bodyPost_ret (results_none rfl _ _ _) rfl ?_
      exact ⟨rfl, v, n, T, hn, HT.out.1.1, HT.out.2.1, HT.out.2.2.1, .inl ⟨hzS, rfl⟩, HT.out.2.2.2.1, fun k hk => .inl hk⟩
    · have hc1 : c = 0 := by
        rcases HS1.out.1 with h | h
        · exact absurd h.1 hzS
        · exact h.2
      subst hc1
      go_wp2_with fail
      have HSm := Hid.mk (show Bk w2 f 101 #[.int .i64 (r : Int), .func (.func 41) #[bxV l h] #[], v, .map (some m)] ∧ Bk w2 G 25 #[.int .i64 z.1, .int .i64 z.2] from HT.out.1)
      have hS4 : FlS f G #[.int .i64 (r : Int), .func (.func 41) #[bxV l h] #[], v, .map (some m)] #[.int .i64 z.1, .int .i64 z.2] w2.drew := HT.out.1.drew
      have hne := Sub.some (S := (FlS f G #[.int .i64 (r : Int), .func (.func 41) #[bxV l h] #[], v, .map (some m)] #[.int .i64 z.1, .int .i64 z.2])) hS4
      have yx0 : ∀ x : Sub (FlS f G #[.int .i64 (r : Int), .func (.func 41) #[bxV l h] #[], v, .map (some m)] #[.int .i64 z.1, .int .i64 z.2]), x.world.cell? ⟨f, 0, none⟩ = some (.int .i64 (r : Int)) := fun x => x.ok.1.cell 0 rfl
      have yx1 : ∀ x : Sub (FlS f G #[.int .i64 (r : Int), .func (.func 41) #[bxV l h] #[], v, .map (some m)] #[.int .i64 z.1, .int .i64 z.2]), x.world.cell? ⟨G, 0, none⟩ = some (.int .i64 z.1) := fun x => x.ok.2.cell 0 rfl
      have yx2 : ∀ x : Sub (FlS f G #[.int .i64 (r : Int), .func (.func 41) #[bxV l h] #[], v, .map (some m)] #[.int .i64 z.1, .int .i64 z.2]), x.world.cell? ⟨G, 1, none⟩ = some (.int .i64 z.2) := fun x => x.ok.2.cell 1 rfl
      have hq1 := HZ.out.1
      have hq2 := HZ.out.2
      have hring := fun W => hexRing_any z r hr hq1 hq2 W
      have HRG := Hid.mk hring
      clear hq1 hq2 hring
      refine wp_region_lexH (FlS f G #[.int .i64 (r : Int), .func (.func 41) #[bxV l h] #[], v, .map (some m)] #[.int .i64 z.1, .int .i64 z.2]) [true, true, false, true, true, false, true, true, true, true, true] [0, 1, 2, 3, 4, 5, 6, 7, 8, 9, 10] (by kernel_rfl) (by kernel_rfl) (fun d v c a w h => by cases d <;> exact h) hS4 ?_
      refine lexH_quiet (l1 := [_, _]) rfl ?_
      repeat (go_big_quiet_step (fail))
      refine wpQuiet_nil ?_
      refine lexH_eff ?_
      go_wp2_with fail
      refine And.intro hS4 ?_
      refine lexH_quiet (l1 := [_, _]) rfl ?_
      repeat (go_big_quiet_step (fail))
      refine wpQuiet_nil ?_
      refine lexH_eff ?_
      go_wp2_with fail
      refine (HRG.out _).mono ?_
      rintro e w3 ⟨g3, c3, rfl, hg3, hc3⟩
      have hc3d := ((Chg.refl Nil w2).drew).then hc3
      have hS5 : FlS f G #[.int .i64 (r : Int), .func (.func 41) #[bxV l h] #[], v, .map (some m)] #[.int .i64 z.1, .int .i64 z.2] w3 := flS (HT.out.1.1.keep hc3d (fun h => h)) (HT.out.1.2.keep hc3d (fun h => h))
      have HU := Hid.mk (And.intro hS5 (And.intro (own_keep HT.out.2.1 hc3d (fun _ _ h => h)) (And.intro (show Seen w3 m (z :: S) (N + 1) from by
        obtain ⟨es, cl, e1, e2⟩ := HT.out.2.2.1
        exact ⟨es, cl, (hc3d.block e1 (fun h => h)), e2⟩) (And.intro (HT.out.2.2.2.1.trans (T := Nil) hc3d (fun _ _ h => h.elim)) (And.intro (Nat.lt_of_lt_of_le HT.out.2.2.2.2 hc3d.size) hg3)))))
      clear hc3 hg3 hc3d HT HSm hS4
      go_wp2_with fail
      refine And.intro hS5 ?_
      refine lexH_quiet (l1 := [_, _, _, _, _]) rfl ?_
      repeat (go_big_quiet_step (fail))
      refine wpQuiet_nil ?_
      refine lexH_end ?_
      clear hne yx0 yx1 yx2 HRG
      have y1 := hS5.1.cell 1 rfl
      have lf := hS5.1.lt
      clear hS5
      go_wp2_with fail
      refine (touches_any l h hl hh g3 (hexL z (12 - r)) hok c3 _ HU.out.2.2.2.2.2).mono ?_
      rintro e w4 ⟨rfl, hc4⟩
      have hS6 : (FlS f G #[.int .i64 (r : Int), .func (.func 41) #[bxV l h] #[], v, .map (some m)] #[.int .i64 z.1, .int .i64 z.2]) w4 := flS (HU.out.1.1.keep hc4 (fun h => h)) (HU.out.1.2.keep hc4 (fun h => h))
      have HV := Hid.mk (And.intro hS6 (And.intro (own_keep HU.out.2.1 hc4 (fun _ _ h => h)) (And.intro (show Seen w4 m (z :: S) (N + 1) from by
        obtain ⟨es, cl, e1, e2⟩ := HU.out.2.2.1
        exact ⟨es, cl, (hc4.block e1 (fun h => h)), e2⟩) (And.intro (HU.out.2.2.2.1.trans (T := Nil) hc4 (fun _ _ h => h.elim)) (Nat.lt_of_lt_of_le HU.out.2.2.2.2.1 hc4.size)))))
      clear hc4 HU y1 lf
      generalize hTT : touchP l h (hexL z (12 - r)) = TT at *
      cases TT with
      | false =>
        clear hS6
        go_wp2_with fail
        refine bodyPost_end (results_none rfl _ _ _) rfl ?_
        exact ⟨rfl, v, n, T, hn, HV.out.1.1, HV.out.2.1, HV.out.2.2.1, .inr (.inl ⟨hzS, hTT, rfl⟩), HV.out.2.2.2.1, fun k hk => .inl hk⟩
      | true =>
        go_wp2_with fail
        have hS7 : Bk w4.drew G 25 #[.int .i64 z.1, .int .i64 z.2] := hS6.2
        have hne := Sub.some (S := (fun W : World => Bk W G 25 #[.int .i64 z.1, .int .i64 z.2])) hS7
        have yx1 : ∀ x : Sub (fun W : World => Bk W G 25 #[.int .i64 z.1, .int .i64 z.2]), x.world.cell? ⟨G, 0, none⟩ = some (.int .i64 z.1) := fun x => Bk.cell x.ok 0 rfl
        have yx2 : ∀ x : Sub (fun W : World => Bk W G 25 #[.int .i64 z.1, .int .i64 z.2]), x.world.cell? ⟨G, 1, none⟩ = some (.int .i64 z.2) := fun x => Bk.cell x.ok 1 rfl
        clear hS6
        refine wp_region_lexH (fun W : World => Bk W G 25 #[.int .i64 z.1, .int .i64 z.2]) [true, true, true, false, true, true, false] [0, 4, 5, 1, 2, 3, 6] (by kernel_rfl) (by kernel_rfl) (fun d v c a w h => by cases d <;> exact h) hS7 ?_
        refine lexH_quiet (l1 := [_, _, _]) rfl ?_
        repeat (go_big_quiet_step (fail))
        refine wpQuiet_nil ?_
        refine lexH_eff ?_
        go_wp2_with fail
        refine And.intro hS7 ?_
        refine lexH_quiet (l1 := [_, _]) rfl ?_
        repeat (go_big_quiet_step (fail))
        refine wpQuiet_nil ?_
        refine lexH_eff ?_
        go_wp2_with fail
        have hd4 : Chg Nil w4 w4.drew := (Chg.refl Nil w4).drew
        have hG4 : w.heap.size < w4.drew.heap.size := HV.out.2.2.2.2
        have hB4 : B ≤ w4.drew.heap.size := by omega
        refine (heapPush_any B f n (.int .i64 (r : Int)) (.func (.func 41) #[bxV l h] #[]) (.map (some m)) v T z hn hnb _ HV.out.1.1.drew (own_keep HV.out.2.1 hd4 (fun _ _ h => h)) hfB hB4).mono ?_
        rintro e w5 ⟨rfl, v5, T5, hp5, hb5, hr5, hc5, ho5⟩
        have hS8 : Bk w5 G 25 #[.int .i64 z.1, .int .i64 z.2] := hS7.keep hc5 (fun h => by
          rcases h with h | h
          · exact hGf h
          · have := HVG.out G h
            have := HG.out
            omega)
        have hl5 : T5.length = n + 1 := by rw [hp5.length_eq, List.length_cons, hn]
        have HW := Hid.mk (And.intro hb5 (And.intro hr5 (And.intro (show Seen w5 m (z :: S) (N + 1) from by
          obtain ⟨es, cl, e1, e2⟩ := HV.out.2.2.1
          refine ⟨es, cl, hc5.block (hd4.block e1 (fun h => h)) (fun h => ?_), e2⟩
          rcases h with h | h
          · exact hfm h.symm
          · have := HVG.out m h
            omega) (And.intro ((HV.out.2.2.2.1.trans (T := Nil) hd4 (fun _ _ h => h.elim)).trans hc5 (fun k _ hk => by
          rcases hk with h | h
          · exact .inl h
          · exact .inr (.inr h))) (show ∀ k, Own v5 k → Own v k ∨ w.heap.size ≤ k from fun k hk => by
          rcases ho5 k hk with h | h
          · exact .inl h
          · exact .inr (by omega))))))
        clear hb5 hr5 hc5 ho5 HV hd4 hB4 hG4
        go_wp2_with fail
        refine And.intro hS8 ?_
        refine lexH_end ?_
        clear hne yx1 yx2 hS7 hS8
        go_wp2_with fail
        refine bodyPost_end (results_none rfl _ _ _) rfl ?_
        exact ⟨rfl, v5, n + 1, T5, hl5, HW.out.1, HW.out.2.1, HW.out.2.2.1, .inr (.inr ⟨hzS, hTT, hp5⟩), HW.out.2.2.2.1, HW.out.2.2.2.2⟩

end Go.Proofs.YtkemmffdiclloaaGreatDoor
