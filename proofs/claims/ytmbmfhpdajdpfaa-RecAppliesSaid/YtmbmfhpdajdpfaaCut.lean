/- Cuts of slices as single equations, so that a walk does not part on 'is the cut at the capacity'. -/
import Derived.Test.YtmbmfhpdajdpfaaBase
namespace Go.Proofs.Ytmbmfhpdajdpfaa
open Go.RowKit

/-- The address of 's[k:]': at the capacity the address stays. -/
def cutA (sz : Nat) (A : Option Addr) (c k : Nat) : Option Addr := if c = k then A else A.map (·.add (k * sz))

theorem cutA_rds {w : World} {S : Nat → Prop} {sz n : Nat} {A : Option Addr} {xs : List Value} {c k m : Nat} (h : Rds w S sz A n xs) (hk : k ≤ m) (hm : m ≤ n) (hn : n ≤ c) :
    Rds w S sz (cutA sz A c k) (m - k) ((xs.drop (k * sz)).take ((m - k) * sz)) := h.part hk hm (by omega)
theorem cutA_rdb {w : World} {S : Nat → Prop} {n : Nat} {A : Option Addr} {bs : List UInt8} {c k m : Nat} (h : RdB w S A n bs) (hk : k ≤ m) (hm : m ≤ n) (hn : n ≤ c) :
    RdB w S (cutA 1 A c k) (m - k) ((bs.drop k).take (m - k)) := h.part hk hm (by omega)
theorem cutA_rdb_all {w : World} {S : Nat → Prop} {n : Nat} {A : Option Addr} {bs : List UInt8} {c k : Nat} (h : RdB w S A n bs) (hk : k ≤ n) (hn : n ≤ c) :
    RdB w S (cutA 1 A c k) (n - k) (bs.drop k) := by
  have := cutA_rdb h hk (Nat.le_refl n) hn
  rwa [List.take_of_length_le (by rw [List.length_drop, h.len]; exact Nat.le_refl _)] at this

theorem Rds.ex {w : World} {S : Nat → Prop} {sz n : Nat} {A : Option Addr} {xs : List Value} (h : Rds w S sz A n xs) (hn : 0 < n) : ∃ ad, A = some ad ∧ S ad.block ∧ ∀ j u, xs[j]? = some u → w.cell? (ad.add j) = some u := h.2 hn
theorem RdB.below {w w' : World} {S : Nat → Prop} {n B : Nat} {A : Option Addr} {bs : List UInt8} (h : RdB w S A n bs) (hb : Below B w w') (hS : ∀ k, S k → k < B) : RdB w' S A n bs := by
  refine ⟨h.1, fun hn => ?_⟩
  obtain ⟨ad, e, hs, hx⟩ := Rds.ex h hn
  exact ⟨ad, e, hs, fun j u hu => (hb.cell (p := ad.add j) (by rw [add_block]; exact hS _ hs)).trans (hx j u hu)⟩
/-- A row that was laid and grown: nothing that was there has changed. -/
theorem Grew.fresh {w w1 : World} {o : Obj} {n c off : Nat} {v1 : Value} (h : Grew (w.alloc o) (.slice (some ⟨w.heap.size, off, none⟩) n c) w1 v1) : Chg Nil w w1 ∧ ∀ k, Own v1 k → w.heap.size ≤ k := by
  refine ⟨h.alloc_left.chg.wider fun i hi ho => ?_, fun k hk => ?_⟩
  · have := own_at ho
    omega
  · rcases Nat.lt_or_ge k w.heap.size with hlt | hge
    · have := own_at (h.lies k (by simp; omega) hk)
      omega
    · exact hge
theorem Chg.of_below' {w w' : World} (h : Below w.heap.size w w') : Chg Nil w w' := Chg.of_below h
/-- A row of slices of bytes, one more body laid and appended. -/
theorem rows_step {wr w3 w4 : World} {B : Nat} {e : TypeId} {u4 v4 : Value} {acc : List (List UInt8)} {body : List UInt8} {vs : List Value} {F : Nat → Prop} {A3 : Option Addr} {c3 : Nat} {o : Obj} {e2 : TypeId}
    (hrl : RdL wr F vs acc) (hF : ∀ k, F k → B ≤ k ∧ k < wr.heap.size) (hFo : ∀ k, F k → Own u4 k → False) (hlt : ∀ k, Own u4 k → k < wr.heap.size) (hB : B ≤ wr.heap.size)
    (h3 : Chg Nil wr w3) (o3 : w3.ownsRow B e 1 (.slice A3 body.length c3) body.length (body.map bv)) (hn3 : ∀ k, Own (.slice A3 body.length c3) k → wr.heap.size ≤ k) (hc3 : body.length ≤ c3) (hm3 : c3 ≤ maxLen)
    (o4 : w4.ownsRow B e2 1 v4 (acc.length + 1) (vs ++ [Value.slice A3 body.length c3])) (g4 : Grew (w3.alloc o) u4 w4 v4) :
    ∃ F' : Nat → Prop, w4.ownsRow B e2 1 v4 (acc ++ [body]).length (vs ++ [Value.slice A3 body.length c3]) ∧ RdL w4 F' (vs ++ [Value.slice A3 body.length c3]) (acc ++ [body]) ∧
      (∀ k, F' k → B ≤ k ∧ k < w4.heap.size) ∧ (∀ k, F' k → Own v4 k → False) := by
  have hs3 : wr.heap.size ≤ w3.heap.size := h3.size
  have hs4 : w3.heap.size + 1 ≤ w4.heap.size := by have := g4.chg.size; simpa using this
  have hlt3 := own_lt o3
  have hr3 : RdB w3 (Own (.slice A3 body.length c3)) A3 body.length body := Rds.of_own o3
  have c34 : Chg (Own u4) w3 w4 := g4.alloc_left.chg
  refine ⟨fun k => F k ∨ Own (.slice A3 body.length c3) k, by simpa using o4, ?_, ?_, ?_⟩
  · refine RdL.snoc ?_ ?_ hc3 hm3
    · exact ((hrl.keep h3 (fun _ _ h => h)).keep c34 (fun k hk ho => hFo k hk ho)).wider (fun k _ hk => .inl hk)
    · exact (hr3.keep c34 (fun k hk ho => by have := hn3 k hk; have := hlt k ho; omega)).wider (fun k _ hk => .inr hk)
  · rintro k (hk | hk)
    · have := hF k hk
      omega
    · have := hn3 k hk
      have := hlt3 k hk
      omega
  · rintro k hk hv
    have hkl : k < w3.heap.size := by
      rcases hk with hk | hk
      · have := hF k hk
        omega
      · exact hlt3 k hk
    have hu := g4.lies k (by simp; omega) hv
    rcases hk with hk | hk
    · exact hFo k hk hu
    · have := hn3 k hk
      have := hlt k hu
      omega

section
variable {P : Program}
theorem run_bound_in (w : World) (k : IntKind) (l : Nat) (y : Nat) (code : BoundsCode) (h : l ≤ y) : (Instr.sliceBound (.int k (l : Int)) y code).run P w = .ok l w := by
  simp [Instr.sliceBound, asIntOf, h]
/-- 's[l:]'. -/
theorem run_cut_from (t e : TypeId) (i : TypeInfo) (sz : Nat) (ht : P.underlying t = some (.slice e)) (hi : P.info? e = some i) (hsz : i.size = sz) (A : Option Addr) (n c l : Nat) (k : IntKind) (hl : l ≤ n) (w : World) :
    (Instr.slice t (.slice A n c) (some (.int k (l : Int))) none none).run P w = .ok (.slice (cutA sz A c l) (n - l) (c - l)) w := by
  subst hsz
  simp [Instr.slice, Instr.sliceBounds, run_underlying ht, run_bound_in w k l n _ hl, sizeOf, typeInfo, hi, cutA]
/-- 's[l:h]'. -/
theorem run_cut_part (t e : TypeId) (i : TypeInfo) (sz : Nat) (ht : P.underlying t = some (.slice e)) (hi : P.info? e = some i) (hsz : i.size = sz) (A : Option Addr) (n c l h : Nat) (k k' : IntKind) (hl : l ≤ h) (hc : h ≤ c) (w : World) :
    (Instr.slice t (.slice A n c) (some (.int k (l : Int))) (some (.int k' (h : Int))) none).run P w = .ok (.slice (cutA sz A c l) (h - l) (c - l)) w := by
  subst hsz
  simp [Instr.slice, Instr.sliceBounds, run_underlying ht, run_bound_in w k l h _ hl, run_bound_in w k' h c _ hc, sizeOf, typeInfo, hi, cutA]
end
end Go.Proofs.Ytmbmfhpdajdpfaa
