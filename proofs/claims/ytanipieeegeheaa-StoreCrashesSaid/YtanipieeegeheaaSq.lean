/- Joined for this seat from: XStQ. -/
import Derived.Test.YtanipieeegeheaaSp
namespace Go.Proofs.Ytanipieeegeheaa
/-! ### bodies, played -/
def runB : Sp → List (List UInt8) → Option Sp
  | σ, [] => some σ
  | σ, b :: r => match opsD b with
    | none => none
    | some ops => match doneP σ ops b.length with
      | none => none
      | some σ' => runB σ' r
theorem runB_cons {σ : Sp} {b : List UInt8} {r : List (List UInt8)} {σ' : Sp} (h : runB σ (b :: r) = some σ') : ∃ ops σ1, opsD b = some ops ∧ doneP σ ops b.length = some σ1 ∧ runB σ1 r = some σ' := by
  simp only [runB] at h
  cases hx : opsD b with
  | none => rw [hx] at h; cases h
  | some ops =>
    rw [hx] at h
    simp only at h
    cases hd : doneP σ ops b.length with
    | none => rw [hd] at h; cases h
    | some σ1 => rw [hd] at h; exact ⟨ops, σ1, rfl, hd, h⟩
theorem runB_step {σ σ1 : Sp} {b : List UInt8} {r : List (List UInt8)} {ops : List Oq} (h1 : opsD b = some ops) (h2 : doneP σ ops b.length = some σ1) : runB σ (b :: r) = runB σ1 r := by
  simp only [runB, h1, h2]
theorem replay_step {σ σ1 : Sp} {b : List UInt8} {r : List (List UInt8)} {ops : List Oq} (h1 : opsD b = some ops) (h2 : doneP σ ops b.length = some σ1) : replayP σ (b :: r) = replayP σ1 r := by
  simp only [replayP, h1, h2]
theorem runB_app (a b : List (List UInt8)) : ∀ (σ σ' : Sp), runB σ a = some σ' → runB σ (a ++ b) = runB σ' b := by
  induction a with
  | nil => intro σ σ' h; injection h with h; subst h; rfl
  | cons x a ih =>
    intro σ σ' h
    obtain ⟨ops, σ1, h1, h2, h3⟩ := runB_cons h
    rw [List.cons_append, runB_step h1 h2]
    exact ih σ1 σ' h3
theorem replay_run (a b : List (List UInt8)) : ∀ (σ σ' : Sp), runB σ a = some σ' → replayP σ (a ++ b) = replayP σ' b := by
  induction a with
  | nil => intro σ σ' h; injection h with h; subst h; rfl
  | cons x a ih =>
    intro σ σ' h
    obtain ⟨ops, σ1, h1, h2, h3⟩ := runB_cons h
    rw [List.cons_append, replay_step h1 h2]
    exact ih σ1 σ' h3
theorem replay_split (bo : List (List UInt8)) : ∀ σ, ∃ a b, bo = a ++ b ∧ runB σ a = some (replayP σ bo) ∧ replayP (replayP σ bo) b = replayP σ bo := by
  induction bo with
  | nil => intro σ; exact ⟨[], [], rfl, rfl, rfl⟩
  | cons x r ih =>
    intro σ
    cases hx : opsD x with
    | none => exact ⟨[], x :: r, rfl, by simp [replayP, runB, hx], by simp [replayP, hx]⟩
    | some ops =>
      cases hd : doneP σ ops x.length with
      | none => exact ⟨[], x :: r, rfl, by simp [replayP, runB, hx, hd], by simp [replayP, hx, hd]⟩
      | some σ1 =>
        obtain ⟨a, b, h1, h2, h3⟩ := ih σ1
        refine ⟨x :: a, b, by rw [h1, List.cons_append], ?_, ?_⟩
        · rw [replay_step hx hd, runB_step hx hd]; exact h2
        · rw [replay_step hx hd]; exact h3
theorem runB_split (a b : List (List UInt8)) : ∀ (σ σ' : Sp), runB σ (a ++ b) = some σ' → ∃ σ1, runB σ a = some σ1 ∧ runB σ1 b = some σ' := by
  induction a with
  | nil => intro σ σ' h; exact ⟨σ, rfl, h⟩
  | cons x a ih =>
    intro σ σ' h
    obtain ⟨ops, σ1, h1, h2, h3⟩ := runB_cons (by rwa [List.cons_append] at h)
    obtain ⟨σ2, h4, h5⟩ := ih σ1 σ' h3
    exact ⟨σ2, by rw [runB_step h1 h2]; exact h4, h5⟩
theorem recsB_len_cons (g : Nat) (b : List UInt8) (r : List (List UInt8)) : (recsB g (b :: r)).length = b.length + 13 + (recsB g r).length := by
  have e : recsB g (b :: r) = recB g b ++ recsB g r := by simp [recsB]
  rw [e, List.length_append, recB_len]
theorem recsB_many (g : Nat) (l : List (List UInt8)) : 13 * l.length ≤ (recsB g l).length := by
  induction l with
  | nil => simp
  | cons b r ih => rw [recsB_len_cons, List.length_cons]; omega
structure Runs (σ σ' : Sp) (bo : List (List UInt8)) : Prop where
  slots : σ'.slots = σ.slots
  log : σ'.log = σ.log
  from_ : σ'.from_ = σ.from_
  gen : σ'.gen = σ.gen
  broken : σ'.broken = σ.broken
  used : ∀ g, σ'.used = σ.used + (recsB g bo).length
  u : σ'.u = σ.u + bo.length
  may : mayP σ.pts = 0 → mayP σ'.pts = 0
theorem runB_runs (bo : List (List UInt8)) : ∀ (σ σ' : Sp), runB σ bo = some σ' → Runs σ σ' bo := by
  induction bo with
  | nil => intro σ σ' h; injection h with h; subst h; exact ⟨rfl, rfl, rfl, rfl, rfl, fun g => rfl, rfl, id⟩
  | cons x r ih =>
    intro σ σ' h
    obtain ⟨ops, σ1, h1, h2, h3⟩ := runB_cons h
    have k := ih σ1 σ' h3
    obtain ⟨h5, h4⟩ := doneP_some h2
    subst h4
    refine ⟨k.slots, k.log, k.from_, k.gen, k.broken, fun g => ?_, ?_, fun hm => k.may (do_may hm (opsD_ok h1) (by omega))⟩
    · have := k.used g
      rw [recsB_len_cons]
      simp only at this
      omega
    · have := k.u
      rw [List.length_cons]
      simp only at this
      omega
theorem runB_take {σ σ' : Sp} {bo : List (List UInt8)} (h : runB σ bo = some σ') (j : Nat) : ∃ σj, runB σ (bo.take j) = some σj := by
  obtain ⟨σ1, h1, _⟩ := runB_split (bo.take j) (bo.drop j) σ σ' (by rw [List.take_append_drop]; exact h)
  exact ⟨σ1, h1⟩

/-! ### two slots -/
def pick2 (slots log : Nat) (r0 r1 : Option Sn) : Sp := pickP (pickP (freshS slots log) 0 r0) 1 r1
theorem slotsS_pick (d : Dp) (slots log : Nat) : slotsS d slots log = pick2 slots log (readS (winS d.now 0 slots)) (readS (winS d.now slots slots)) := rfl
theorem pick2_lose {s l : Nat} {r0 r1 : Option Sn} (h : (pick2 s l r0 r1).from_ ≠ 1) : pick2 s l r0 none = pick2 s l r0 r1 := by
  cases r1 with
  | none => rfl
  | some x =>
    unfold pick2 at *
    generalize pickP (freshS s l) 0 r0 = y at *
    simp only [pickP] at *
    split
    · rename_i hc; rw [if_pos hc] at h; exact absurd rfl h
    · rfl
theorem pick2_lose1 {s l : Nat} {r0 r1 : Option Sn} (h : (pick2 s l r0 r1).from_ = 1) : pick2 s l none r1 = pick2 s l r0 r1 := by
  cases r0 with
  | none => rfl
  | some x =>
    cases r1 with
    | none => simp [pick2, pickP, freshS] at h
    | some y =>
      have c1 : ∀ P : Prop, ((-1 : Int) < 0 ∨ P) := fun P => .inl (by decide)
      simp only [pick2, pickP, freshS, c1, if_true] at *
      split at h
      · rename_i hc
        rw [if_pos hc]
      · simp at h
theorem pick2_new {s l : Nat} {r0 r1 : Option Sn} (h : (pick2 s l r0 r1).from_ ≠ 1) (x : Sn) (hx : x.gen = (pick2 s l r0 r1).gen + 1) : pick2 s l r0 (some x) = ⟨s, l, 1, x.gen, x.u, x.pts, 0, false⟩ := by
  rw [← pick2_lose h] at hx
  unfold pick2 at *
  have hs := pickP_same (freshS s l) 0 r0
  generalize pickP (freshS s l) 0 r0 = y at *
  obtain ⟨h1, h2, h3, h4⟩ := hs
  simp only [pickP] at *
  rw [if_pos (.inr (by omega))]
  cases y
  simp only [freshS] at *
  subst h1 h2 h3 h4
  rfl
theorem pick2_new1 {s l : Nat} {r0 r1 : Option Sn} (h : (pick2 s l r0 r1).from_ = 1) (x : Sn) (hx : x.gen = (pick2 s l r0 r1).gen + 1) : pick2 s l (some x) r1 = ⟨s, l, 0, x.gen, x.u, x.pts, 0, false⟩ := by
  rw [← pick2_lose1 h] at hx h
  cases r1 with
  | none => simp [pick2, pickP, freshS] at h
  | some y =>
    have c1 : ∀ P : Prop, ((-1 : Int) < 0 ∨ P) := fun P => .inl (by decide)
    simp only [pick2, pickP, freshS, c1, if_true] at *
    rw [if_neg (by omega)]
structure BaseOk (β : Sp) : Prop where
  gen1 : 1 ≤ β.gen
  gen2 : β.gen ≤ 4611686018427387904
  u : β.u ≤ 4611686018427387904
  may : mayP β.pts = 0
  from_ : β.from_ = -1 ∨ β.from_ = 0 ∨ β.from_ = 1
  used : β.used = 0
  broken : β.broken = false
theorem pickP_ok {β : Sp} (h : BaseOk β) (i : Int) (hi : i = 0 ∨ i = 1) (r : Option Sn) (hr : ∀ s, r = some s → s.ok = true) : BaseOk (pickP β i r) := by
  unfold pickP
  split
  · exact h
  · rename_i s
    obtain ⟨h1, h2, h3, h4⟩ := (Sn.ok_iff s).1 (hr s rfl)
    split
    · exact ⟨h1, h2, h3, h4, .inr hi, h.used, h.broken⟩
    · exact h
theorem freshS_ok (s l : Nat) : BaseOk (freshS s l) := ⟨by show 1 ≤ 1; omega, by show (1 : Nat) ≤ 4611686018427387904; omega, by show 0 ≤ 4611686018427387904; omega, by show mayP [] = 0; decide, .inl rfl, rfl, rfl⟩
theorem pick2_ok {s l : Nat} {a b : List UInt8} : BaseOk (pick2 s l (readS a) (readS b)) :=
  pickP_ok (pickP_ok (freshS_ok s l) 0 (.inl rfl) _ (fun _ h => readS_ok h)) 1 (.inr rfl) _ (fun _ h => readS_ok h)
theorem pick2_dims (s l : Nat) (r0 r1 : Option Sn) : (pick2 s l r0 r1).slots = s ∧ (pick2 s l r0 r1).log = l := by
  obtain ⟨a, b, _, _⟩ := pickP_same (pickP (freshS s l) 0 r0) 1 r1
  obtain ⟨c, d, _, _⟩ := pickP_same (freshS s l) 0 r0
  exact ⟨a.trans c, b.trans d⟩

/-! ### what a disk's bytes open to -/
structure Img (m : List UInt8) (β σ : Sp) (bo : List (List UInt8)) : Prop where
  base : β = pick2 σ.slots σ.log (readS (winS m 0 σ.slots)) (readS (winS m σ.slots σ.slots))
  run : runB β bo = some σ
  lens : ∀ b ∈ bo, b.length ≤ 400000
  log : ∃ t, winS m (2 * σ.slots) σ.log = recsB σ.gen bo ++ t ∧ replayP σ (scanA σ.gen t).1 = σ
  room : 2 * σ.slots + σ.log ≤ m.length
  slots : 21 ≤ σ.slots
theorem scanA_recs (gen : Nat) (l : List (List UInt8)) (t : List UInt8) (hg : 1 ≤ gen ∧ gen ≤ 4611686018427387904) (hl : ∀ b ∈ l, b.length ≤ 400000) :
    (scanA gen (recsB gen l ++ t)).1 = l ++ (scanA gen t).1 := by
  unfold scanA
  rw [if_neg (by omega), if_neg (by omega), scan_recs gen l t (by omega) hl]
section
variable {m : List UInt8} {β σ : Sp} {bo : List (List UInt8)} {d : Dp}
theorem Img.ok (h : Img m β σ bo) : BaseOk β := by rw [h.base]; exact pick2_ok
theorem Img.runs (h : Img m β σ bo) : Runs β σ bo := runB_runs _ _ _ h.run
theorem Img.gens (h : Img m β σ bo) : 1 ≤ σ.gen ∧ σ.gen ≤ 4611686018427387904 := by
  rw [h.runs.gen]; exact ⟨h.ok.gen1, h.ok.gen2⟩
theorem Img.used_len (h : Img m β σ bo) : σ.used = (recsB σ.gen bo).length := by
  rw [h.runs.used σ.gen, h.ok.used, Nat.zero_add]
theorem Img.used_le (h : Img m β σ bo) : σ.used ≤ σ.log := by
  obtain ⟨t, h1, _⟩ := h.log
  have := congrArg List.length h1
  rw [win_len h.room, List.length_append, ← h.used_len] at this
  omega
theorem Img.opens (h : Img d.now β σ bo) : openS d σ.slots σ.log = σ := by
  obtain ⟨t, h1, h2⟩ := h.log
  unfold openS
  rw [slotsS_pick, ← h.base, ← h.runs.gen, h1, scanA_recs _ _ _ h.gens h.lens, replay_run _ _ _ _ h.run]
  exact h2
theorem Img.sok (h : Img d.now β σ bo) (hd : d.now.length ≤ 1000000) : Sok σ d :=
  { slots := h.slots, room := h.room, used := h.used_le, gen1 := h.gens.1, gen2 := h.gens.2,
    u := by
      have := h.runs.u; have := h.ok.u; have := h.used_le; have := h.room; have := h.used_len; have := recsB_many σ.gen bo
      omega
    may := h.runs.may h.ok.may, from_ := by rw [h.runs.from_]; exact h.ok.from_ }
end

end Go.Proofs.Ytanipieeegeheaa
