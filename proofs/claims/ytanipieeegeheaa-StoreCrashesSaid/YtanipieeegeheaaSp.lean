/- Joined for this seat from: XStP. -/
import Derived.Test.YtanipieeegeheaaSo
namespace Go.Proofs.Ytanipieeegeheaa
structure Sp where
  slots : Nat
  log : Nat
  from_ : Int
  gen : Nat
  u : Nat
  pts : List Pt
  used : Nat
  broken : Bool
def doneP (σ : Sp) (ops : List Oq) (n : Nat) : Option Sp :=
  if 2000 < (doP σ.pts ops).length then none else some { σ with pts := doP σ.pts ops, u := σ.u + 1, used := σ.used + (n + 13) }
def replayP : Sp → List (List UInt8) → Sp
  | σ, [] => σ
  | σ, b :: r => match opsD b with
    | none => σ
    | some ops => match doneP σ ops b.length with
      | none => σ
      | some σ' => replayP σ' r
def pickP (σ : Sp) (i : Int) (r : Option Sn) : Sp :=
  match r with
  | none => σ
  | some s => if σ.from_ < 0 ∨ σ.gen < s.gen then { σ with from_ := i, gen := s.gen, u := s.u, pts := s.pts } else σ
def freshS (slots log : Nat) : Sp := ⟨slots, log, -1, 1, 0, [], 0, false⟩
def slotsS (d : Dp) (slots log : Nat) : Sp := pickP (pickP (freshS slots log) 0 (readS (winS d.now 0 slots))) 1 (readS (winS d.now slots slots))
def openS (d : Dp) (slots log : Nat) : Sp := replayP (slotsS d slots log) (scanA (slotsS d slots log).gen (winS d.now (2 * slots) log)).1
def zeros (n : Nat) : List UInt8 := List.replicate n 0
def dirty (b : List UInt8) : Bool := b.any fun c => c != 0
/-- The disk behind Open, its error, and the store. -/
def openD (d : Dp) (slots log : Nat) : Dp × Int :=
  if d.dead then (d, 9)
  else if dirty ((winS d.now (2 * slots) log).drop (openS d slots log).used) then stepW d (2 * slots + (openS d slots log).used) (zeros (log - (openS d slots log).used))
  else (d, 0)
def applyE (σ : Sp) (ops : List Oq) : Nat :=
  if σ.broken then 9 else if batE ops ≠ 0 then batE ops else if 2000 < (doP σ.pts ops).length then 7 else if σ.log < σ.used + ((batB ops).length + 13) ∨ 4611686018427387904 ≤ σ.u then 12 else 0
def applyP (σ : Sp) (d : Dp) (ops : List Oq) : Sp × Dp × Nat :=
  if applyE σ ops ≠ 0 then (σ, d, applyE σ ops)
  else if d.dead then ({ σ with broken := true }, d, 9)
  else ({ σ with pts := doP σ.pts ops, u := σ.u + 1, used := σ.used + ((batB ops).length + 13) }, d.write (2 * σ.slots + σ.used) (recB σ.gen (batB ops)), 0)
def syncP (σ : Sp) (d : Dp) : Sp × Dp × Nat :=
  if σ.broken then (σ, d, 9) else if d.dead then ({ σ with broken := true }, d, 9) else (σ, d.sync, 0)
def Sp.snap (σ : Sp) : Sn := ⟨σ.gen + 1, σ.u, σ.pts⟩
def markE (σ : Sp) : Nat :=
  if σ.broken then 9 else if 4611686018427387904 ≤ σ.gen then 13 else if fitsS (σ.slots : Int) σ.snap then 0 else 12
def Sp.to (σ : Sp) : Nat := if σ.from_ = 1 then 0 else 1
def markP (σ : Sp) (d : Dp) : Sp × Dp × Nat :=
  if markE σ ≠ 0 then (σ, d, markE σ)
  else if (slotW d (σ.to * σ.slots) σ.snap.bytes).2 ≠ 0 then ({ σ with broken := true }, (slotW d (σ.to * σ.slots) σ.snap.bytes).1, 9)
  else if (stepW (slotW d (σ.to * σ.slots) σ.snap.bytes).1 (2 * σ.slots) (zeros σ.used)).2 ≠ 0 then
    ({ σ with gen := σ.gen + 1, from_ := σ.to, used := 0, broken := true }, (stepW (slotW d (σ.to * σ.slots) σ.snap.bytes).1 (2 * σ.slots) (zeros σ.used)).1, 9)
  else ({ σ with gen := σ.gen + 1, from_ := σ.to, used := 0 }, (stepW (slotW d (σ.to * σ.slots) σ.snap.bytes).1 (2 * σ.slots) (zeros σ.used)).1, 0)
/-- What always holds of a store and its disk. -/
structure Sok (σ : Sp) (d : Dp) : Prop where
  slots : 21 ≤ σ.slots
  room : 2 * σ.slots + σ.log ≤ d.now.length
  used : σ.used ≤ σ.log
  gen1 : 1 ≤ σ.gen
  gen2 : σ.gen ≤ 4611686018427387904
  u : σ.u ≤ 9223372036854775807
  may : mayP σ.pts = 0
  from_ : σ.from_ = -1 ∨ σ.from_ = 0 ∨ σ.from_ = 1
theorem Sok.up {σ : Sp} {d : Dp} (h : Sok σ d) : Up σ.pts := ((risesP_iff _).1 (mayP_zero h.may).2).1
theorem Sok.len {σ : Sp} {d : Dp} (h : Sok σ d) : σ.pts.length ≤ 20000 := (mayP_zero h.may).1
theorem Sok.oks {σ : Sp} {d : Dp} (h : Sok σ d) : ∀ p ∈ σ.pts, p.ok = true := ((risesP_iff _).1 (mayP_zero h.may).2).2
theorem batE_ok {l : List Oq} (h : batE l = 0) : ∀ o ∈ l, o.ok = true := by
  intro o ho
  cases hb : o.ok with
  | true => rfl
  | false => exact absurd h (batE_bad_mem ho hb)
theorem batE_len {l : List Oq} (h : batE l = 0) : l.length ≤ 500 := by
  rcases Nat.lt_or_ge 500 l.length with h1 | h1
  · exact absurd h (batE_long h1)
  · exact h1
theorem do_may {l : List Pt} {ops : List Oq} (h : mayP l = 0) (ho : batE ops = 0) (hl : (doP l ops).length ≤ 20000) : mayP (doP l ops) = 0 := by
  have h1 := (risesP_iff _).1 (mayP_zero h).2
  exact mayP_yes (by omega) ((risesP_iff _).2 ⟨do_up ops l h1.1, do_oks ops l h1.1 h1.2 (batE_ok ho)⟩)
theorem opsD_ok {b : List UInt8} {ops : List Oq} (h : opsD b = some ops) : batE ops = 0 := by
  unfold opsD at h
  cases hd : dec b with
  | none => rw [hd] at h; cases h
  | some l =>
    rw [hd] at h
    simp only [Option.bind_some] at h
    split at h
    · injection h with h; subst h; assumption
    · cases h
theorem doneP_some {σ σ' : Sp} {ops : List Oq} {n : Nat} (h : doneP σ ops n = some σ') : (doP σ.pts ops).length ≤ 2000 ∧ σ' = { σ with pts := doP σ.pts ops, u := σ.u + 1, used := σ.used + (n + 13) } := by
  unfold doneP at h
  split at h
  · cases h
  · injection h with h; exact ⟨by omega, h.symm⟩
theorem doneP_none {σ : Sp} {ops : List Oq} {n : Nat} (h : doneP σ ops n = none) : 2000 < (doP σ.pts ops).length := by
  unfold doneP at h
  split at h
  · assumption
  · cases h
theorem pickP_same (σ : Sp) (i : Int) (r : Option Sn) : (pickP σ i r).slots = σ.slots ∧ (pickP σ i r).log = σ.log ∧ (pickP σ i r).used = σ.used ∧ (pickP σ i r).broken = σ.broken := by
  unfold pickP
  split
  · exact ⟨rfl, rfl, rfl, rfl⟩
  · split <;> exact ⟨rfl, rfl, rfl, rfl⟩

end Go.Proofs.Ytanipieeegeheaa
