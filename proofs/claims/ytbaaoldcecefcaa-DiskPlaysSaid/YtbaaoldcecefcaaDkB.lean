/- The contracts of disk.New, of a write's into, of Read, of slices.Clone at writes. -/
import Derived.Test.YtbaaoldcecefcaaDkA
import Derived.Test.YtbaaoldcecefcaaTail
import Derived.BigRegion
namespace Go.Proofs.Ytbaaoldcecefcaa
open Go.RowKit

/-- slices.Clone at bytes, nil or not. -/
theorem clone_any (A : Option Addr) (n c : Nat) (bs : List UInt8) (S : Nat → Prop) (w : World) (hr : RdB w S A n bs) (hl : n ≤ 140737488355328) :
    Calls Try.prog 26 #[.slice A n c] w fun e w' => ∃ v', e = .returned v' ∧ w'.ownsRow w.heap.size 5 1 v' n (bs.map bv) ∧ Chg Nil w w' := by
  cases A with
  | some ad => exact clone_some ad n c bs S w hr hl
  | none =>
    have h0 : n = 0 := by
      rcases Nat.eq_zero_or_pos n with h | h
      · exact h
      · obtain ⟨ad, he, _⟩ := hr.2 h
        cases he
    subst h0
    have hb : bs = [] := List.eq_nil_of_length_eq_zero hr.len
    subst hb
    refine (clone_nil 0 c w).mono ?_
    rintro e w' ⟨rfl, rfl⟩
    exact ⟨_, rfl, ⟨by simp, .inl ⟨rfl, rfl⟩⟩, Chg.refl _ _⟩

/-- A new disk. -/
def newN (n : Int) : Nat := (min (max n 0) 1000000).toNat
def Dp.new (n : Int) : Dp := ⟨List.replicate (newN n) 0, List.replicate (newN n) 0, [], false, 0⟩

theorem Row.of_bk {w : World} {g n : Nat} {e : TypeId} {cs : Array Value} (h : Bk w g e cs) (hn : cs.size = n) (hm : n ≤ maxLen) : Row w e 1 (.slice (some ⟨g, 0, none⟩) n n) n cs.toList :=
  ⟨by simpa using hn, .inr ⟨g, n, cs.toList, 0, 0, rfl, by simpa [Bk] using h, .inl (Nat.le_refl _), Nat.le_refl _, hm, by simpa using hn, by rw [List.take_of_length_le]; simp; omega⟩⟩
theorem dnew_laid (w : World) (N : Nat) (hN : N ≤ 1000000) (x y : Nat) (hxy : (x = w.heap.size ∧ y = w.heap.size + 1) ∨ (x = w.heap.size + 1 ∧ y = w.heap.size)) :
    Chg Nil w (((w.alloc (.cells (madeCells #[.int .u8 0] N) 5)).alloc (.cells (madeCells #[.int .u8 0] N) 5)).alloc (.cells #[.slice (some ⟨x, 0, none⟩) N N, .slice (some ⟨y, 0, none⟩) N N, .slice none 0 0, .bool false, .int .i64 0] 57)).drew ∧
    ∃ M R, Dk (((w.alloc (.cells (madeCells #[.int .u8 0] N) 5)).alloc (.cells (madeCells #[.int .u8 0] N) 5)).alloc (.cells #[.slice (some ⟨x, 0, none⟩) N N, .slice (some ⟨y, 0, none⟩) N N, .slice none 0 0, .bool false, .int .i64 0] 57)).drew
      (w.heap.size + 1 + 1) M R ⟨List.replicate N 0, List.replicate N 0, [], false, 0⟩ ∧ ∀ k, M k ∨ R k → w.heap.size ≤ k := by
  have b0 : Bk (((w.alloc (.cells (madeCells #[.int .u8 0] N) 5)).alloc (.cells (madeCells #[.int .u8 0] N) 5)).alloc (.cells #[.slice (some ⟨x, 0, none⟩) N N, .slice (some ⟨y, 0, none⟩) N N, .slice none 0 0, .bool false, .int .i64 0] 57)).drew w.heap.size 5 (madeCells #[.int .u8 0] N) :=
    ((Bk.new w _ _).alloc _).alloc _
  have b1 : Bk (((w.alloc (.cells (madeCells #[.int .u8 0] N) 5)).alloc (.cells (madeCells #[.int .u8 0] N) 5)).alloc (.cells #[.slice (some ⟨x, 0, none⟩) N N, .slice (some ⟨y, 0, none⟩) N N, .slice none 0 0, .bool false, .int .i64 0] 57)).drew (w.heap.size + 1) 5 (madeCells #[.int .u8 0] N) := by
    have h := (Bk.new (w.alloc (.cells (madeCells #[.int .u8 0] N) 5)) 5 (madeCells #[.int .u8 0] N)).alloc (.cells #[.slice (some ⟨x, 0, none⟩) N N, .slice (some ⟨y, 0, none⟩) N N, .slice none 0 0, .bool false, .int .i64 0] 57)
    simpa using h.drew
  have b2 : Bk (((w.alloc (.cells (madeCells #[.int .u8 0] N) 5)).alloc (.cells (madeCells #[.int .u8 0] N) 5)).alloc (.cells #[.slice (some ⟨x, 0, none⟩) N N, .slice (some ⟨y, 0, none⟩) N N, .slice none 0 0, .bool false, .int .i64 0] 57)).drew (w.heap.size + 1 + 1) 57
      #[.slice (some ⟨x, 0, none⟩) N N, .slice (some ⟨y, 0, none⟩) N N, .slice none 0 0, .bool false, .int .i64 0] := by
    have h := (Bk.new ((w.alloc (.cells (madeCells #[.int .u8 0] N) 5)).alloc (.cells (madeCells #[.int .u8 0] N) 5)) 57 #[.slice (some ⟨x, 0, none⟩) N N, .slice (some ⟨y, 0, none⟩) N N, .slice none 0 0, .bool false, .int .i64 0]).drew
    simpa using h
  have hch : Chg Nil w (((w.alloc (.cells (madeCells #[.int .u8 0] N) 5)).alloc (.cells (madeCells #[.int .u8 0] N) 5)).alloc (.cells #[.slice (some ⟨x, 0, none⟩) N N, .slice (some ⟨y, 0, none⟩) N N, .slice none 0 0, .bool false, .int .i64 0] 57)).drew :=
    ((((Chg.refl Nil w).alloc _).alloc _).alloc _).drew
  refine ⟨hch, ?_⟩
  generalize (((w.alloc (.cells (madeCells #[.int .u8 0] N) 5)).alloc (.cells (madeCells #[.int .u8 0] N) 5)).alloc (.cells #[.slice (some ⟨x, 0, none⟩) N N, .slice (some ⟨y, 0, none⟩) N N, .slice none 0 0, .bool false, .int .i64 0] 57)).drew = W at *
  have hsz : (madeCells #[Value.int .u8 0] N).size = N := by
    have := congrArg List.length (toList_madeCells_one (.int .u8 0) N)
    simpa using this
  have hl : (madeCells #[Value.int .u8 0] N).toList = (List.replicate N (0 : UInt8)).map bv := by
    rw [toList_madeCells_one]
    simp [bv]
  have r0 := Row.of_bk b0 hsz (by simp only [maxLen]; omega)
  have r1 := Row.of_bk b1 hsz (by simp only [maxLen]; omega)
  rw [hl] at r0 r1
  have hlt := b2.lt
  have rx : Row W 5 1 (.slice (some ⟨x, 0, none⟩) N N) N ((List.replicate N (0 : UInt8)).map bv) := by
    rcases hxy with ⟨rfl, _⟩ | ⟨rfl, _⟩
    · exact r0
    · exact r1
  have ry : Row W 5 1 (.slice (some ⟨y, 0, none⟩) N N) N ((List.replicate N (0 : UInt8)).map bv) := by
    rcases hxy with ⟨_, rfl⟩ | ⟨_, rfl⟩
    · exact r1
    · exact r0
  refine ⟨fun k => w.heap.size ≤ k ∧ k < w.heap.size + 3, Nil, ⟨.slice (some ⟨x, 0, none⟩) N N, .slice (some ⟨y, 0, none⟩) N N, .slice none 0 0, [], ?_⟩, fun k hk => ?_⟩
  · exact
      { bk := b2, now := by simpa using rx, lasts := by simpa using ry, row := ⟨rfl, .inl ⟨rfl, rfl⟩⟩, ats := rfl, vals := RdL.nil, mg := ⟨by omega, by omega⟩
        mn := fun k hk => by have := own_at hk; omega
        ml := fun k hk => by
          have := own_at hk
          refine ⟨by omega, by omega, fun h => ?_⟩
          have := own_at h
          omega
        mw := fun k hk => by simp [Own, Value.ownBlock] at hk
        apart := fun _ _ h => h
        lt := fun k hk => by
          rcases hk with h | h
          · omega
          · exact h.elim
        ok := ⟨by simp, by simpa using hN, fun p hp => by simp at hp, by simp⟩ }
  · rcases hk with h | h
    · exact h.1
    · exact h.elim

set_option maxHeartbeats 1000000 in
set_option maxRecDepth 100000 in
theorem dnew_any (n : Int) (w : World) :
    Calls Try.prog 9 #[.int .i64 n] w fun e w' => ∃ g M R, e = .returned (.pointer (some ⟨g, 0, none⟩)) ∧ Chg Nil w w' ∧ Dk w' g M R (Dp.new n) ∧ ∀ k, M k ∨ R k → w.heap.size ≤ k := by
  have hmk : ∀ N : Nat, N ≤ 1000000 → ∀ w : World, (Instr.makeSlice 22 (.int .i64 (N : Int)) (.int .i64 (N : Int))).run Try.prog w = .ok (.slice (some ⟨w.heap.size, 0, none⟩) N N) (w.alloc (.cells (madeCells #[.int .u8 0] N) 5)) :=
    fun N h => run_make_row' (P := Try.prog) 22 5 (.int .u8 0) 1 Try.underlying22 Try.infoU8 rfl .i64 .i64 N (by omega) (by omega)
  have hk : n < 0 ∨ (0 ≤ n ∧ n ≤ 1000000) ∨ 1000000 < n := by omega
  rcases hk with hk | ⟨hk, hk2⟩ | hk
  · have e : newN n = 0 := by unfold newN; omega
    have hm : ∀ w : World, (Instr.makeSlice 22 (.int .i64 0) (.int .i64 0)).run Try.prog w = .ok (.slice (some ⟨w.heap.size, 0, none⟩) 0 0) (w.alloc (.cells (madeCells #[.int .u8 0] 0) 5)) := hmk 0 (by omega)
    clear hmk
    go_enter Try.func9, Try.ntmps9
    go_wp2_with fail
    go_region
    · go_wp2
      go_ret
      obtain ⟨hc, M, R, hd, hs⟩ := dnew_laid w 0 (by omega) _ _ (.inl ⟨rfl, rfl⟩)
      exact ⟨_, M, R, rfl, hc, by rw [Dp.new, e]; exact hd, hs⟩
    · go_wp2
      go_ret
      obtain ⟨hc, M, R, hd, hs⟩ := dnew_laid w 0 (by omega) _ _ (.inr ⟨rfl, rfl⟩)
      exact ⟨_, M, R, rfl, hc, by rw [Dp.new, e]; exact hd, hs⟩
  · obtain ⟨N, rfl⟩ : ∃ N : Nat, n = (N : Int) := ⟨n.toNat, by omega⟩
    have e : newN (N : Int) = N := by unfold newN; omega
    have hm := hmk N (by omega)
    clear hmk
    go_enter Try.func9, Try.ntmps9
    go_wp2_with fail
    go_region
    · go_wp2
      go_ret
      obtain ⟨hc, M, R, hd, hs⟩ := dnew_laid w N (by omega) _ _ (.inl ⟨rfl, rfl⟩)
      exact ⟨_, M, R, rfl, hc, by rw [Dp.new, e]; exact hd, hs⟩
    · go_wp2
      go_ret
      obtain ⟨hc, M, R, hd, hs⟩ := dnew_laid w N (by omega) _ _ (.inr ⟨rfl, rfl⟩)
      exact ⟨_, M, R, rfl, hc, by rw [Dp.new, e]; exact hd, hs⟩
  · have e : newN n = 1000000 := by unfold newN; omega
    have hm : ∀ w : World, (Instr.makeSlice 22 (.int .i64 1000000) (.int .i64 1000000)).run Try.prog w = .ok (.slice (some ⟨w.heap.size, 0, none⟩) 1000000 1000000) (w.alloc (.cells (madeCells #[.int .u8 0] 1000000) 5)) := hmk 1000000 (by omega)
    clear hmk
    go_enter Try.func9, Try.ntmps9
    go_wp2_with fail
    go_region
    · go_wp2
      go_ret
      obtain ⟨hc, M, R, hd, hs⟩ := dnew_laid w 1000000 (by omega) _ _ (.inl ⟨rfl, rfl⟩)
      exact ⟨_, M, R, rfl, hc, by rw [Dp.new, e]; exact hd, hs⟩
    · go_wp2
      go_ret
      obtain ⟨hc, M, R, hd, hs⟩ := dnew_laid w 1000000 (by omega) _ _ (.inr ⟨rfl, rfl⟩)
      exact ⟨_, M, R, rfl, hc, by rw [Dp.new, e]; exact hd, hs⟩
set_option maxHeartbeats 1000000 in
set_option maxRecDepth 100000 in
theorem into_any (at_ : Nat) (B : Option Addr) (m mc : Nat) (ys : List UInt8) (S : Nat → Prop) (A : Option Addr) (n c : Nat) (xs : List UInt8) (keep : Int) (w : World)
    (hr : RdB w S B m ys) (hm : m ≤ mc) (hmc : mc ≤ maxLen) (hrow : Row w 5 1 (.slice A n c) n (xs.map bv)) (hn : n ≤ 1000000) (hfit : at_ + m ≤ n) :
    Calls Try.prog 27 #[.agg #[.int .i64 (at_ : Int), .slice B m mc], .slice A n c, .int .i64 keep] w fun e w' =>
      e = .returned (.int .i64 ((min keep.toNat m : Nat) : Int)) ∧ Row w' 5 1 (.slice A n c) n ((splice xs at_ (ys.take (min keep.toNat m))).map bv) ∧ Chg (Own (.slice A n c)) w w' := by
  have hk : keep ≤ 0 ∨ (0 < keep ∧ keep ≤ m) ∨ (m : Int) < keep := by omega
  have hnc : n ≤ c := by obtain ⟨A', c', he, h1, h2⟩ := hrow.form; injection he with _ _ h3; omega
  have hsz1 : (Try.prog.info? 5).map (·.size) = some 1 := by
    obtain ⟨i0, hi, hz0, hz1, hz2⟩ := info_parts Try.infoU8
    rw [hi]
    exact congrArg some hz1
  have hdp : ∀ g', A = some ⟨g', 0, none⟩ → at_ < n → (if c = at_ then A else Option.map (fun x => x.add at_) A) = some ⟨g', at_, none⟩ := by
    intro g' hA hlt
    subst hA
    rw [if_neg (by omega)]
    rcases Nat.eq_zero_or_pos at_ with h | h
    · subst h; rfl
    · simp [Addr.add, Nat.pos_iff_ne_zero.1 h]
  have HH := Hid.mk (And.intro hr (And.intro hrow (And.intro hdp hnc)))
  have hK : min keep.toNat m ≤ n - at_ := by omega
  have e1 : min (min keep.toNat m) (n - at_) = min keep.toNat m := by omega
  have HQ := Hid.mk e1
  clear hr hrow hdp e1 hnc
  unfold maxLen at hmc
  rcases hk with hk | ⟨hk, hk2⟩ | hk
  all_goals
    go_enter Try.func27, Try.ntmps27
    go_wp2_with fail
    refine wp_region_tail 13 (by kernel_rfl) (by kernel_rfl) fun W hW => ?_
    simp only [List.take_succ_cons, List.take_zero, List.drop_succ_cons, List.drop_zero]
    have hch : Chg Nil w W := by subst hW; exact ((Chg.refl Nil w).alloc _).drew
    have hc0 : W.cell? ⟨w.heap.size, 0, none⟩ = some (.int .i64 (at_ : Int)) := by
      subst hW; exact (Bk.new w _ _).drew.cell 0 rfl
    have hc1 : W.cell? ⟨w.heap.size, 1, none⟩ = some (.slice B m mc) := by
      subst hW; exact (Bk.new w _ _).drew.cell 1 rfl
    clear hW
    repeat (go_big_quiet_step (fail))
    refine wpQuiet_nil ?_
  · have e : (if keep < 0 then 0 else keep).toNat = min keep.toNat m := by split <;> omega
    rw [e]
    refine wpl_copy rfl (.tmp 10) (.tmp 19) 22 22 rfl 5 5 Try.underlying22 hsz1 A n c at_ (c - at_) _ (HH.out.2.1.keep hch (fun _ _ h => h)) _ HH.out.2.2.1 (by omega) S B (min keep.toNat m) mc _ ((HH.out.1.keep hch (fun _ _ h => h)).front (Nat.min_le_right _ _)) (bv_one _) rfl rfl ?_
    intro w2 hr2 hc2
    rw [List.take_of_length_le (by rw [List.length_map, List.length_take]; omega), splice_map] at hr2
    have H2 := Hid.mk (And.intro hr2 ((hch.wider (T := Own (.slice A n c)) (fun _ _ h => h.elim)).trans hc2 (fun _ _ h => h)))
    clear hr2 hc2 e
    rw [HQ.out]
    clear HH
    generalize (if c = at_ then A else Option.map (fun x => x.add at_) A) = dp
    generalize (if keep < 0 then 0 else keep) = kk
    go_wp2
    go_ret
    first
      | exact ⟨rfl, H2.out⟩
      | (refine ⟨?_, H2.out⟩; show Ending.returned (Value.int .i64 (max keep 0)) = _; congr 2; omega)
  · have e : keep.toNat = min keep.toNat m := by omega
    rw [e]
    refine wpl_copy rfl (.tmp 10) (.tmp 19) 22 22 rfl 5 5 Try.underlying22 hsz1 A n c at_ (c - at_) _ (HH.out.2.1.keep hch (fun _ _ h => h)) _ HH.out.2.2.1 (by omega) S B (min keep.toNat m) mc _ ((HH.out.1.keep hch (fun _ _ h => h)).front (Nat.min_le_right _ _)) (bv_one _) rfl rfl ?_
    intro w2 hr2 hc2
    rw [List.take_of_length_le (by rw [List.length_map, List.length_take]; omega), splice_map] at hr2
    have H2 := Hid.mk (And.intro hr2 ((hch.wider (T := Own (.slice A n c)) (fun _ _ h => h.elim)).trans hc2 (fun _ _ h => h)))
    clear hr2 hc2 e
    rw [HQ.out]
    clear HH
    generalize (if c = at_ then A else Option.map (fun x => x.add at_) A) = dp
    go_wp2
    go_ret
    first
      | exact ⟨rfl, H2.out⟩
      | (refine ⟨?_, H2.out⟩; show Ending.returned (Value.int .i64 (max keep 0)) = _; congr 2; omega)
  · have e : (if (m : Int) < if keep < 0 then 0 else keep then (m : Int) else if keep < 0 then 0 else keep).toNat = min keep.toNat m := by
      repeat' split
      all_goals omega
    rw [e]
    refine wpl_copy rfl (.tmp 10) (.tmp 19) 22 22 rfl 5 5 Try.underlying22 hsz1 A n c at_ (c - at_) _ (HH.out.2.1.keep hch (fun _ _ h => h)) _ HH.out.2.2.1 (by omega) S B (min keep.toNat m) mc _ ((HH.out.1.keep hch (fun _ _ h => h)).front (Nat.min_le_right _ _)) (bv_one _) rfl rfl ?_
    intro w2 hr2 hc2
    rw [List.take_of_length_le (by rw [List.length_map, List.length_take]; omega), splice_map] at hr2
    have H2 := Hid.mk (And.intro hr2 ((hch.wider (T := Own (.slice A n c)) (fun _ _ h => h.elim)).trans hc2 (fun _ _ h => h)))
    clear hr2 hc2 e
    rw [HQ.out]
    clear HH
    generalize (if c = at_ then A else Option.map (fun x => x.add at_) A) = dp
    generalize (if keep < 0 then 0 else keep) = kk
    generalize (if (m : Int) < kk then (m : Int) else kk) = k2
    go_wp2
    go_ret
    first
      | exact ⟨rfl, H2.out⟩
      | (refine ⟨?_, H2.out⟩; show Ending.returned (Value.int .i64 (max keep 0)) = _; congr 2; omega)
end Go.Proofs.Ytbaaoldcecefcaa
