/- A region that draws its order, whose last operations alone write: the reading part is walked by the cheap steps. -/
import Derived.Test.YtmbmfhpdajdpfaaBase
import Derived.StillTail
import Derived.Deep.QuietTactic
import Derived.BigQuiet
namespace Go.Proofs.Ytmbmfhpdajdpfaa
open Go.RowKit
section
variable {P : Program} {ops : Array Oper} {W : World} {Q : Act → Prop}
theorem still_of_quiet {o : Oper} {a : Act} {K : Act → Prop} (h : o.quiet P a (fun w' => w' = W) K) : o.still P a W K := by
  obtain ⟨v, h1, h2⟩ := h
  have h3 := h1 W rfl
  unfold Oper.quietAt at h3
  unfold Oper.still
  generalize Sem.run P (execOp a.eval o) W = r at h3
  cases r with
  | ok x w' =>
    cases x with
    | value u => exact ⟨h3.1, by rw [h3.2]; exact h2⟩
    | skip => exact ⟨h3.1, by rw [← h3.2]; exact h2⟩
    | enter f args =>
      exact ⟨h3.1, v, h3.2.mono (fun _ _ h => h), h2⟩
    | _ => exact h3.elim
  | _ => exact h3.elim
theorem wpStill_of_quiet : ∀ (l : List Oper) (a : Act), wpQuiet P ops (fun w' => w' = W) Q l a → wpStill P ops W Q l a
  | [], _, h => h
  | o :: rest, a, h => by
    unfold wpQuiet at h
    unfold wpStill
    split
    · rename_i hw
      rw [if_pos hw] at h
      exact Oper.still_mono (fun a' h' => wpStill_of_quiet rest a' h') (still_of_quiet h)
    · rename_i hw
      rw [if_neg hw] at h
      exact wpStill_of_quiet rest _ h
end
theorem wp_region_tail {P : Program} {id : Nat} {Q : Exit → Act → World → Prop} {a : Act} {w : World} {l : List Oper} (n : Nat) (hm : P.follows .mixedOrders = true) (hB : Region.lexTailB .any l.toArray n = true)
    (h : ∀ W, W = w.drew → wpQuiet P l.toArray (fun w' => w' = W) (fun a' => wpList P l.toArray Q (l.drop n) a' W) (l.take n) a) : (Code.region id l.toArray true).wp P Q a w :=
  wp_region_still_tail n hm hB (wpStill_of_quiet _ _ (h _ rfl))
end Go.Proofs.Ytmbmfhpdajdpfaa
