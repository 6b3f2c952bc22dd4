/- A region that draws its order, over a class of worlds: 'what was there is as it was'. Single operations as laws. -/
import Derived.Test.YtmbmfhpdajdpfaaJoins
import Derived.BigQuiet
namespace Go.Proofs.Ytmbmfhpdajdpfaa
open Go.RowKit

section
variable {P : Program} {C : World → Prop} {a : Act} {o : Oper} {K : Act → Prop}
theorem wp_region_class {id : Nat} {Q : Exit → Act → World → Prop} {w : World} {l : List Oper} (C : World → Prop) (hm : P.follows .mixedOrders = true) (hB : Region.lexB .any l.toArray = true) (hC : C { w with drawn := w.drawn + 1 })
    (h : wpQuiet P l.toArray C (fun a' => ∀ w', C w' → Q .normal a' w') l a) : (Code.region id l.toArray true).wp P Q a w := wp_region_quiet hm hB hC (by simpa using h)
end

/-- A world in which all that was there in w is as it was. -/
structure After (w : World) where
  world : World
  below : Below w.heap.size w world
theorem After.some (w : World) : Nonempty (After w) := ⟨⟨w, Below.refl _ _⟩⟩
theorem After.chg {w : World} (x : After w) : Chg Nil w x.world := Chg.of_below x.below
theorem After.call {P : Program} {w : World} {f : FuncId} {args : Array Value} {r : Value} (h : ∀ W : World, Below w.heap.size w W → Calls P f args W (fun e w' => e = .returned r ∧ Below W.heap.size W w')) (x : After w) :
    Calls P f args x.world (fun e w' => e = .returned r ∧ ∃ y : After w, w' = y.world) :=
  (h x.world x.below).mono fun _ w' ⟨he, hb⟩ => ⟨he, ⟨w', x.below.trans (hb.mono x.below.size)⟩, rfl⟩
theorem wp_region_after {P : Program} {a : Act} {id : Nat} {Q : Exit → Act → World → Prop} {w : World} {l : List Oper} (hm : P.follows .mixedOrders = true) (hB : Region.lexB .any l.toArray = true)
    (h : wpQuiet P l.toArray (fun W => ∃ x : After w, W = x.world) (fun a' => ∀ w', (∃ x : After w, w' = x.world) → Q .normal a' w') l a) : (Code.region id l.toArray true).wp P Q a w :=
  wp_region_class (fun W => ∃ x : After w, W = x.world) hm hB ⟨⟨{ w with drawn := w.drawn + 1 }, ⟨rfl, rfl, rfl, Nat.le_refl _, fun _ _ => rfl⟩⟩, rfl⟩ h
end Go.Proofs.Ytmbmfhpdajdpfaa
