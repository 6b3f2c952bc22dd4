/- Joined for this seat from: XStY. -/
import Derived.Test.YtanipieeegeheaaTl
namespace Go.Proofs.Ytanipieeegeheaa
open Go.RowKit

theorem mask_le (x : Int) (m b : Nat) (hb : m = 2 ^ b - 1) (hm : b ≤ 62) : -9223372036854775808 ≤ bits .and .i64 x (m : Int) ∧ bits .and .i64 x (m : Int) ≤ 9223372036854775807 := by
  obtain ⟨C, hC, hl⟩ := i64_and_mask x m b hb hm
  rw [hC]
  have hp : 2 ^ b ≤ 2 ^ 62 := Nat.pow_le_pow_right (by omega) hm
  omega
theorem mask15 (x : Int) : bits .and .i64 x 15 ≤ 9223372036854775807 := (mask_le x 15 4 rfl (by omega)).2
theorem mask1023 (x : Int) : -9223372036854775808 ≤ bits .and .i64 x 1023 ∧ bits .and .i64 x 1023 ≤ 9223372036854775807 := mask_le x 1023 10 rfl (by omega)
theorem mask2047 (x : Int) : -9223372036854775808 ≤ bits .and .i64 x 2047 ∧ bits .and .i64 x 2047 ≤ 9223372036854775807 := mask_le x 2047 11 rfl (by omega)
section
variable {σ : Sp} {D : Dp} {L : List Sp}
theorem slotW_le1 (d : Dp) (p : Nat) (b : List UInt8) : (slotW d p b).1.waits.length ≤ d.waits.length + 1 := by
  unfold slotW
  split
  · exact stepW_le _ _
  · rename_i h1
    have w1 := stepW_waits (Decidable.of_not_not h1)
    split
    · have := @stepW_le (stepW d p [0]).1 (p + 1) b
      rw [w1] at this
      exact Nat.le_trans this (by simp)
    · rename_i h2
      have w2 := stepW_waits (Decidable.of_not_not h2)
      have := @stepW_le (stepW (stepW d p [0]).1 (p + 1) b).1 p [197]
      rw [w2] at this
      exact Nat.le_trans this (by simp)
theorem markP_le (σ : Sp) (D : Dp) : (markP σ D).2.1.waits.length ≤ D.waits.length + 1 := by
  unfold markP
  split
  · exact Nat.le_succ _
  · split
    · exact slotW_le1 _ _ _
    · rename_i h1
      have w1 := slotW_waits (Decidable.of_not_not h1)
      have h3 := @stepW_le (slotW D (σ.to * σ.slots) σ.snap.bytes).1 (2 * σ.slots) (zeros σ.used)
      rw [w1] at h3
      split
      · exact Nat.le_trans h3 (by simp)
      · exact Nat.le_trans h3 (by simp)
theorem Work.few2 {s l : Nat} (h : Work s l σ D L) : D.waits.length ≤ l := by
  obtain ⟨β, bo, n, hi, _⟩ := h.inv
  have h1 := hi.many
  have h2 := recsB_many σ.gen bo
  have h3 := hi.used_len
  have h4 := hi.used_le
  rw [h.log] at h4
  omega
/-- What an act has done. -/
structure Did (kd : Int) (L : List Sp) (F W : Nat) (σ' : Sp) (D' : Dp) (τ' : Sp) : Prop where
  way : (F = W ∧ W ≠ 0 ∧ D'.dead = false ∧ Work 700 900 σ' D' L) ∨
    (kd = 0 ∧ F = 0 ∧ W = 0 ∧ Work 700 900 σ' D' (L ++ [τ'])) ∨
    (kd ≠ 0 ∧ F = 0 ∧ W = 0 ∧ Work 700 900 σ' D' [τ']) ∨
    (kd = 2 ∧ F = 9 ∧ W = 0 ∧ D'.dead = true ∧ Lost 700 900 D' (L ++ [τ']))
  few : D'.waits.length ≤ 2000
  last : kd = 1 → L[L.length - 1]? = some τ'
theorem did_apply (h : Work 700 900 σ D L) (hd : D.dead = false) (ops : List Oq) : Did 0 L (applyP σ D ops).2.2 (applyE σ ops) (applyP σ D ops).1 (applyP σ D ops).2.1 (σ.apply1 ops) := by
  by_cases he : applyE σ ops = 0
  · obtain ⟨h1, h2, h3⟩ := h.apply hd ops he
    have hf := h3.few2
    rw [h1, h2, he]
    exact ⟨.inr (.inl ⟨rfl, rfl, rfl, h3⟩), by omega, fun h => absurd h (by decide)⟩
  · have hf := h.few2
    rw [applyP_no he]
    exact ⟨.inl ⟨rfl, he, hd, h⟩, by show D.waits.length ≤ 2000; omega, fun h => absurd h (by decide)⟩
theorem did_mark (h : Work 700 900 σ D L) (hd : D.dead = false) : Did 2 L (markP σ D).2.2 (markE σ) (markP σ D).1 (markP σ D).2.1 σ.mark1 := by
  have hf := h.few2
  have hl := markP_le σ D
  by_cases he : markE σ = 0
  · have hm1 : σ.mark1 = σ.marked := by unfold Sp.mark1; rw [if_pos he]
    rcases h.mark hd he with ⟨h1, h2, h3⟩ | ⟨h1, h2, h3⟩
    · rw [h1, h2, he, hm1]
      exact ⟨.inr (.inr (.inl ⟨by decide, rfl, rfl, h3⟩)), by omega, fun h => absurd h (by decide)⟩
    · rw [h1, he, hm1]
      exact ⟨.inr (.inr (.inr ⟨rfl, rfl, rfl, h2, h3⟩)), by omega, fun h => absurd h (by decide)⟩
  · rw [markP_no he]
    exact ⟨.inl ⟨rfl, he, hd, h⟩, by show D.waits.length ≤ 2000; omega, fun h => absurd h (by decide)⟩
theorem did_sync (h : Work 700 900 σ D L) (hd : D.dead = false) {kd : Int} (hk : kd ≠ 0) : Did kd L (syncP σ D).2.2 0 (syncP σ D).1 (syncP σ D).2.1 σ := by
  obtain ⟨h1, h2⟩ := h.sync hd
  rw [h1]
  exact ⟨.inr (.inr (.inl ⟨hk, rfl, rfl, h2⟩)), by show (0 : Nat) ≤ _; omega, fun _ => h.last⟩
/-- The list behind an act. -/
theorem did_end {kd : Int} {gl gl8 gl3 : List (Nat × Sp)} {F W gn : Nat} {σ' τ' : Sp} {D' : Dp} (did : Did kd (gl.map (·.2)) F W σ' D' τ') (hpos : 0 < gl.length)
    (h8 : gl8 = if W = 0 ∧ kd ≠ 1 then gl ++ [(gn, τ')] else gl) (h3 : gl3 = if F = 0 ∧ kd ≠ 0 ∧ W = 0 then gl8.drop (gl8.length - 1) else gl8) :
    (D'.dead = false ∧ Work 700 900 σ' D' (gl3.map (·.2))) ∨ (D'.dead = true ∧ Lost 700 900 D' (gl3.map (·.2))) := by
  have key : ∀ X, Work 700 900 σ' D' X → X = gl3.map (·.2) → (D'.dead = false ∧ Work 700 900 σ' D' (gl3.map (·.2))) ∨ (D'.dead = true ∧ Lost 700 900 D' (gl3.map (·.2))) := fun X hX he => by
    subst he
    cases hd : D'.dead with
    | false => exact .inl ⟨rfl, hX⟩
    | true => exact .inr ⟨rfl, hX.lost⟩
  rcases did.way with ⟨a1, a2, a3, a4⟩ | ⟨a1, a2, a3, a4⟩ | ⟨a1, a2, a3, a4⟩ | ⟨a1, a2, a3, a4, a5⟩
  · rw [if_neg (fun h => a2 h.1)] at h8
    rw [if_neg (fun h => a2 h.2.2), h8] at h3
    rw [h3]
    exact .inl ⟨a3, a4⟩
  · rw [if_pos ⟨a3, by rw [a1]; decide⟩] at h8
    rw [if_neg (fun h => h.2.1 a1), h8] at h3
    exact key _ a4 (by rw [h3, List.map_append]; rfl)
  · rw [if_pos ⟨a2, a1, a3⟩] at h3
    by_cases k1 : kd = 1
    · rw [if_neg (fun h => h.2 k1)] at h8
      have hl := did.last k1
      rw [List.length_map, List.getElem?_map] at hl
      rw [h8] at h3
      have hx : gl[gl.length - 1]? = some (gl[gl.length - 1]'(by omega)) := List.getElem?_eq_getElem _
      rw [hx] at hl
      have hl2 : (gl[gl.length - 1]'(by omega)).2 = τ' := by simpa using hl
      have hdr : gl.drop (gl.length - 1) = [gl[gl.length - 1]'(by omega)] := by
        rw [List.drop_eq_getElem_cons (by omega), List.drop_of_length_le (by omega)]
      exact key _ a4 (by rw [h3, hdr]; simp [hl2])
    · rw [if_pos ⟨a3, k1⟩] at h8
      rw [h8, List.length_append, List.length_singleton, Nat.add_sub_cancel, List.drop_left] at h3
      exact key _ a4 (by rw [h3]; rfl)
  · rw [if_pos ⟨a3, by rw [a1]; decide⟩] at h8
    rw [if_neg (fun h => by have := h.1; omega), h8] at h3
    right
    rw [h3, List.map_append]
    exact ⟨a4, a5⟩
set_option maxRecDepth 100000 in
theorem crashes_new : ∃ D1, D1.free ∧ Work 700 900 (freshS 700 900) D1 [freshS 700 900] ∧ openS (Dp.new 2300) 700 900 = freshS 700 900 ∧ openD (Dp.new 2300) 700 900 = (D1, 0) ∧ (Dp.new 2300).now.length = 2300 := by
  have o := opened_new (n := 2300) (slots := 700) (log := 900) (by omega) (by omega) (by omega)
  exact ⟨_, o.free, Work.one (bo := []) o.inv, o.openS, Prod.ext rfl o.res, new_len (n := 2300) (by omega)⟩
theorem crew_new {w0 w w1 : World} {gs gd gn : Nat} {M R N : Nat → Prop} {τ : Sp} (rn : Run w0 w gs gd M R N σ D) (c : Chg Nil w w1) (rf : Ref w1 (fun k => M k ∨ k = gs) gn τ) :
    Crew w0 (w1.alloc (.cells #[ptrV gn] 58)) gs gd (.slice (some ⟨w1.heap.size, 0, none⟩) 1 1) [(gn, τ)] none σ D := by
  have hc : Chg Nil w1 (w1.alloc (.cells #[ptrV gn] 58)) := (Chg.refl _ _).alloc _
  have r1 := rn.nil c
  have hw0 := r1.chg.size
  refine ⟨M, R, _, r1.more hc, ⟨OffRow.one w1 _ _ _ hw0, fun k hk hh => ?_, fun q hq => ?_⟩, fun k hk => .inr ?_, fun b hx => by cases hx⟩
  · have := own_at hk
    have := r1.lt' k hh
    omega
  · have : q = (gn, τ) := by simpa using hq
    subst this
    exact rf.gen hc (fun _ _ h => h.elim) (fun k hk hh => hh.elim id (fun hh => by have := own_at hh; omega))
  · have := own_at hk
    rw [this]
    simp
/-- A disk behind a Crash, that opens to τ. -/
structure Back (τ β : Sp) (bo : List (List UInt8)) (d : Dp) : Prop where
  img : Img d.now β τ bo
  clean : d.clean
  free : d.free
  slots : τ.slots = 700 ∧ τ.log = 900
theorem Lost.backs (h : Lost 700 900 D L) (keep : Int) : ∃ (i : Nat) (τ β : Sp) (bo : List (List UInt8)), L[i]? = some τ ∧ Back τ β bo (D.crash keep) := by
  obtain ⟨i, τ, β, bo, h1, h2⟩ := h.back keep
  exact ⟨i, τ, β, bo, h1, h2, Dp.clean_crash D keep, Dp.free_crash D keep, h.slots τ (List.mem_of_getElem? h1)⟩
variable {τ β : Sp} {bo : List (List UInt8)} {d : Dp}
theorem Back.again (h : Back τ β bo d) (m keep : Int) : Back τ β bo ((openD (d.stopAt m) 700 900).1.crash keep) ∧ ((openD (d.stopAt m) 700 900).2 = 0 ∨ (openD (d.stopAt m) 700 900).2 = 9) ∧ 2 * 700 + 900 ≤ (d.stopAt m).now.length ∧ (d.stopAt m).waits.length ≤ 1000000 ∧ (openD (d.stopAt m) 700 900).1.waits.length ≤ 1000000 := by
  have hc := Dp.clean_stop h.clean m
  have hi : Img (d.stopAt m).now β τ bo := h.img
  obtain ⟨h1, _, h3⟩ := img_again hc hi
  have hr := h.img.room
  rw [h.slots.1, h.slots.2] at h1 h3 hr
  refine ⟨⟨h3 keep, Dp.clean_crash _ keep, Dp.free_crash _ keep, h.slots⟩, h1, hr, by rw [hc.waits]; simp, ?_⟩
  unfold openD
  split
  · rw [hc.waits]; simp
  · split
    · refine Nat.le_trans (stepW_le _ _) ?_
      rw [hc.waits]
      simp
    · rw [hc.waits]; simp
theorem Back.opened (h : Back τ β bo d) : ∃ D', openS d 700 900 = τ ∧ openD d 700 900 = (D', 0) ∧ D'.free ∧ Work 700 900 τ D' [τ] ∧ 2 * 700 + 900 ≤ d.now.length ∧ d.waits.length ≤ 1000000 := by
  have o := opened_free h.clean h.free h.img
  have q1 := o.openS
  have q2 := o.res
  have q3 := Work.one o.inv
  have q4 := o.free
  have q5 := h.img.room
  rw [h.slots.1, h.slots.2] at q1 q2 q3 q4 q5
  exact ⟨_, q1, Prod.ext rfl q2, q4, q3, q5, by rw [h.clean.waits]; simp⟩
end

end Go.Proofs.Ytanipieeegeheaa
