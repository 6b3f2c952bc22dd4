/- Joined for this seat from: XOpen XOpenInts XOpenOps. -/
import Derived.ProofKit
import Derived.OpenShut
import Derived.ShutString
import Derived.ChangeOld
import Derived.Deep.Slices
import Derived.Below
import Derived.Deep.Fields
import Derived.ChangeSame
import Derived.Test.YtanipieeegeheaaSk
namespace Go.Proofs.Ytanipieeegeheaa
open Go.ChangeShapes Go.WideShapes Go.ChangeAt Go.RowKit Go.Deep

section
variable {H : Type} {enc : TypeId × Value → H} {P : Program} {w : World} {base : Nat} {spare : Nat → Bool} {held : Bool}

theorem u8_bounds {n : Int} (h : (Lit.int .u8 n).wf = true) : 0 ≤ n ∧ n < 256 := by
  have := bounds_u8 h
  omega

/-- A slice of bytes that came in. -/
theorem bv_ofNat' (m : Nat) : bv (UInt8.ofNat m) = .int .u8 ((m % 256 : Nat) : Int) := by simp [bv]
theorem open_bytes {t e : TypeId} {fuel : Nat} {v : Value} {x : DataW H × List MemPlace} (ht : P.underlying t = some (.slice e)) (he : P.underlying e = some (.int .u8)) (hc : P.cellsOf e = 1)
    (h : DataW.trod enc P w base spare held fuel t [v] = some x) :
    ∃ A c bs, v = .slice A (List.length bs) c ∧ bs.length ≤ c ∧ c ≤ maxLen ∧ RdB w (fun k => k < w.heap.size) A bs.length bs := by
  rcases open_ints ht he hc h with ⟨hcs, _⟩ | ⟨a, len, cap, zs, hcs, _, hl, hm, hz, _, hcell, hwz⟩
  · injection hcs with hv
    exact ⟨none, 0, [], hv, Nat.le_refl _, Nat.zero_le _, RdB.nil⟩
  · injection hcs with hv
    have hzl : len ≤ zs.length := by rw [hz]; split <;> omega
    have hbl : ((zs.take len).map fun z => UInt8.ofNat z.toNat).length = len := by simp; omega
    refine ⟨some a, cap, (zs.take len).map fun z => UInt8.ofNat z.toNat, by rw [hbl]; exact hv, by rw [hbl]; exact hl, hm, ?_⟩
    rw [hbl]
    have hr : RdB w (fun _ => True) (some a) len ((zs.take len).map fun z => UInt8.ofNat z.toNat) := by
      refine ⟨by simp; omega, fun _ => ⟨a, rfl, trivial, fun j u hu => ?_⟩⟩
      rw [List.map_map, List.getElem?_map, List.getElem?_take] at hu
      split at hu
      · next hj =>
        rw [List.getElem?_eq_getElem (by omega)] at hu
        simp only [Option.map_some, Option.some.injEq, Function.comp] at hu
        subst hu
        rw [hcell j (by omega)]
        have hw := u8_bounds (hwz zs[j] (List.getElem_mem _))
        have hg : zs.getD j 0 = zs[j] := by rw [List.getD_eq_getElem?_getD, List.getElem?_eq_getElem (by omega)]; rfl
        rw [hg, bv_ofNat']
        congr 2
        omega
      · cases hu
    exact hr.here.wider fun k _ h => h.2

/-- A slice of slices of bytes that came in. -/
theorem open_bodies {t e f : TypeId} {fuel : Nat} {v : Value} {x : DataW H × List MemPlace} (ht : P.underlying t = some (.slice e)) (he : P.underlying e = some (.slice f)) (hf : P.underlying f = some (.int .u8)) (hce : P.cellsOf e = 1) (hcf : P.cellsOf f = 1)
    (h : DataW.trod enc P w base spare held fuel t [v] = some x) :
    ∃ A n c vs bodies, v = .slice A n c ∧ n ≤ c ∧ c ≤ maxLen ∧ Rds w (fun k => k < w.heap.size) 1 A n vs ∧ RdL w (fun k => k < w.heap.size) vs bodies := by
  rcases open_slice1 ht hce h with ⟨hcs, _⟩ | ⟨a, len, cap, m, n, V, D, Pl, hcs, _, hl, hm, hmm, _, hx⟩
  · injection hcs with hv
    exact ⟨none, 0, 0, [], [], hv, Nat.le_refl _, Nat.zero_le _, Rds.nil, RdL.nil⟩
  · injection hcs with hv
    have hlm : len ≤ m := by rw [hmm]; split <;> omega
    obtain ⟨B, hB⟩ := choose_lt (α := List UInt8) (n := len) (p := fun i b => ∃ A c, V i = .slice A (List.length b) c ∧ b.length ≤ c ∧ c ≤ maxLen ∧ RdB w (fun k => k < w.heap.size) A b.length b) (fun i hi => by
      obtain ⟨A, c, bs, h1, h2, h3, h4⟩ := open_bytes he hf hcf (hx i (by omega)).2
      exact ⟨bs, A, c, h1, h2, h3, h4⟩)
    refine ⟨some a, len, cap, (List.range len).map V, (List.range len).map B, hv, hl, hm, ?_, by simp, fun i b hb => ?_⟩
    · have hr : Rds w (fun _ => True) 1 (some a) len ((List.range len).map V) := by
        refine ⟨by simp, fun _ => ⟨a, rfl, trivial, fun j u hu => ?_⟩⟩
        rw [List.getElem?_map] at hu
        rcases Nat.lt_or_ge j len with hj | hj
        · rw [List.getElem?_eq_getElem (by simpa using hj)] at hu
          simp only [List.getElem_range, Option.map_some, Option.some.injEq] at hu
          subst hu
          exact (hx j (by omega)).1
        · rw [List.getElem?_eq_none (by simpa using hj)] at hu; cases hu
      exact (hr.here (by omega)).wider (fun k _ h => h.2) (by omega)
    · rw [List.getElem?_map] at hb
      rcases Nat.lt_or_ge i len with hj | hj
      · rw [List.getElem?_eq_getElem (by simpa using hj)] at hb
        simp only [List.getElem_range, Option.map_some, Option.some.injEq] at hb
        subst hb
        obtain ⟨A, c, h1, h2, h3, h4⟩ := hB i hj
        exact ⟨A, c, by rw [List.getElem?_map, List.getElem?_eq_getElem (by simpa using hj)]; simp [h1], h2, h3, h4⟩
      · rw [List.getElem?_eq_none (by simpa using hj)] at hb; cases hb
end

end Go.Proofs.Ytanipieeegeheaa
namespace Go.Proofs.Ytanipieeegeheaa
open Go.ChangeShapes Go.WideShapes Go.ChangeAt Go.RowKit Go.Deep

section
variable {H : Type} {enc : TypeId × Value → H} {P : Program} {w : World} {base : Nat} {spare : Nat → Bool} {held : Bool}
theorem open_intsl {t e : TypeId} {fuel : Nat} {v : Value} {x : DataW H × List MemPlace} (ht : P.underlying t = some (.slice e)) (he : P.underlying e = some (.int .i64)) (hc : P.cellsOf e = 1)
    (h : DataW.trod enc P w base spare held fuel t [v] = some x) :
    ∃ A c zs, v = .slice A (List.length zs) c ∧ zs.length ≤ c ∧ c ≤ maxLen ∧ Rds w (fun k => k < w.heap.size) 1 A zs.length (zs.map (Value.int .i64)) ∧ ∀ z ∈ zs, -9223372036854775808 ≤ z ∧ z ≤ 9223372036854775807 := by
  rcases open_ints ht he hc h with ⟨hcs, _⟩ | ⟨a, len, cap, zs, hcs, _, hl, hm, hz, _, hcell, hwz⟩
  · injection hcs with hv
    exact ⟨none, 0, [], hv, Nat.le_refl _, Nat.zero_le _, Rds.nil, fun z hz => by simp at hz⟩
  · injection hcs with hv
    have hzl : len ≤ zs.length := by rw [hz]; split <;> omega
    have hbl : (zs.take len).length = len := by rw [List.length_take]; omega
    refine ⟨some a, cap, zs.take len, by rw [hbl]; exact hv, by rw [hbl]; exact hl, hm, ?_, fun z hz => ?_⟩
    · rw [hbl]
      have hr : Rds w (fun _ => True) 1 (some a) len ((zs.take len).map (Value.int .i64)) := by
        refine ⟨by simp; omega, fun _ => ⟨a, rfl, trivial, fun j u hu => ?_⟩⟩
        rw [List.getElem?_map, List.getElem?_take] at hu
        split at hu
        · next hj =>
          rw [List.getElem?_eq_getElem (by omega)] at hu
          simp only [Option.map_some, Option.some.injEq] at hu
          subst hu
          rw [hcell j (by omega)]
          have hg : zs.getD j 0 = zs[j] := by rw [List.getD_eq_getElem?_getD, List.getElem?_eq_getElem (by omega)]; rfl
          rw [hg]
        · cases hu
      exact (hr.here (by omega)).wider (fun k _ h => h.2) (by omega)
    · have := bounds_i64 (hwz z (List.mem_of_mem_take hz))
      omega
end

end Go.Proofs.Ytanipieeegeheaa
namespace Go.Proofs.Ytanipieeegeheaa
open Go.ChangeShapes Go.WideShapes Go.ChangeAt Go.RowKit Go.Deep

theorem choose_upto {α : Type} {n : Nat} {p : Nat → α → Prop} (h : ∀ i, i < n → ∃ a, p i a) : ∃ l : List α, l.length = n ∧ ∀ i a, l[i]? = some a → p i a := by
  induction n with
  | zero => exact ⟨[], rfl, fun i a h => by simp at h⟩
  | succ n ih =>
    obtain ⟨l, hl, hp⟩ := ih fun i hi => h i (by omega)
    obtain ⟨a, ha⟩ := h n (by omega)
    refine ⟨l ++ [a], by simp [hl], fun i b hb => ?_⟩
    rcases Nat.lt_or_ge i l.length with hlt | hge
    · rw [List.getElem?_append_left hlt] at hb
      exact hp i b hb
    · rw [List.getElem?_append_right hge] at hb
      have hi : i - l.length = 0 := by
        rcases Nat.eq_zero_or_pos (i - l.length) with h0 | h0
        · exact h0
        · rw [List.getElem?_eq_none (by simp; omega)] at hb; cases hb
      rw [hi] at hb
      simp at hb
      subst hb
      rw [show i = n by omega]
      exact ha

section
variable {H : Type} {enc : TypeId × Value → H} {w : World} {base : Nat} {spare : Nat → Bool} {held : Bool}
set_option maxRecDepth 100000 in
theorem Try.apiOpFields : ∃ f0 f1 : Field, Try.prog.underlying 32 = some (.struct #[f0, f1]) ∧ f0.offset = 0 ∧ f1.offset = 1 ∧
    f0.type = 3 ∧ f1.type = 30 := ⟨_, _, Try.underlying32, rfl, rfl, rfl, rfl⟩
set_option maxRecDepth 100000 in
theorem Try.pointFields : ∃ f0 f1 f2 f3 : Field, Try.prog.underlying 30 = some (.struct #[f0, f1, f2, f3]) ∧ f0.offset = 0 ∧ f1.offset = 1 ∧ f2.offset = 2 ∧ f3.offset = 3 ∧
    f0.type = 2 ∧ f1.type = 2 ∧ f2.type = 2 ∧ f3.type = 2 := ⟨_, _, _, _, Try.underlying30, rfl, rfl, rfl, rfl, rfl, rfl, rfl, rfl⟩
def i64fit (z : Int) : Prop := -9223372036854775808 ≤ z ∧ z ≤ 9223372036854775807
def Pt.fit (p : Pt) : Prop := i64fit p.key ∧ i64fit p.x ∧ i64fit p.y ∧ i64fit p.v
def Oq.fit (o : Oq) : Prop := i64fit o.kind ∧ o.pt.fit
set_option maxRecDepth 100000 in
theorem open_point {fuel : Nat} {cs : List Value} {x : DataW H × List MemPlace} (h : DataW.trod enc Try.prog w base spare held fuel 30 cs = some x) : ∃ p : Pt, cs = p.cs ∧ p.fit := by
  obtain ⟨f0, f1, f2, f3, hs, o0, o1, o2, o3, t0, t1, t2, t3⟩ := Try.pointFields
  have hC : Try.prog.cellsOf 30 = 4 := by kernel_rfl
  have hI : Try.prog.cellsOf 2 = 1 := by kernel_rfl
  obtain ⟨xs, n, _, hx, hlen, hxl, hf⟩ := DataW.trod_struct hs h
  rw [hC] at hlen
  match cs, hlen with
  | [a, b, c, d], _ =>
    match xs, hxl with
    | [y0, y1, y2, y3], _ =>
      have g0 := hf 0 f0 rfl
      have g1 := hf 1 f1 rfl
      have g2 := hf 2 f2 rfl
      have g3 := hf 3 f3 rfl
      rw [o0, t0, hI] at g0
      rw [o1, t1, hI] at g1
      rw [o2, t2, hI] at g2
      rw [o3, t3, hI] at g3
      obtain ⟨z0, e0, _, w0⟩ := DataW.trod_int (x := y0) Try.underlying2 g0
      obtain ⟨z1, e1, _, w1⟩ := DataW.trod_int (x := y1) Try.underlying2 g1
      obtain ⟨z2, e2, _, w2⟩ := DataW.trod_int (x := y2) Try.underlying2 g2
      obtain ⟨z3, e3, _, w3⟩ := DataW.trod_int (x := y3) Try.underlying2 g3
      simp at e0 e1 e2 e3
      subst e0 e1 e2 e3
      exact ⟨⟨z0, z1, z2, z3⟩, rfl, bounds_i64 w0, bounds_i64 w1, bounds_i64 w2, bounds_i64 w3⟩
set_option maxRecDepth 100000 in
theorem open_op {fuel : Nat} {cs : List Value} {x : DataW H × List MemPlace} (h : DataW.trod enc Try.prog w base spare held fuel 32 cs = some x) : ∃ o : Oq, cs = o.cs ∧ o.fit := by
  obtain ⟨f0, f1, hs, o0, o1, t0, t1⟩ := Try.apiOpFields
  have hC : Try.prog.cellsOf 32 = 5 := by kernel_rfl
  have hI : Try.prog.cellsOf 3 = 1 := by kernel_rfl
  have hP : Try.prog.cellsOf 30 = 4 := by kernel_rfl
  obtain ⟨xs, n, _, hx, hlen, hxl, hf⟩ := DataW.trod_struct hs h
  rw [hC] at hlen
  match cs, hlen with
  | [a, b, c, d, e], _ =>
    match xs, hxl with
    | [y0, y1], _ =>
      have g0 := hf 0 f0 rfl
      have g1 := hf 1 f1 rfl
      rw [o0, t0, hI] at g0
      rw [o1, t1, hP] at g1
      obtain ⟨z0, e0, _, w0⟩ := DataW.trod_int (x := y0) Try.underlying3 g0
      obtain ⟨p, hp, hpf⟩ := open_point (x := y1) g1
      simp at e0
      subst e0
      have hp' : [b, c, d, e] = p.cs := hp
      exact ⟨⟨z0, p⟩, by rw [hp']; rfl, bounds_i64 w0, hpf⟩
set_option maxRecDepth 100000 in
theorem open_ops {fuel : Nat} {v : Value} {x : DataW H × List MemPlace} (h : DataW.trod enc Try.prog w base spare held fuel 28 [v] = some x) :
    ∃ (A : Option Addr) (n c : Nat) (l : List Oq), v = .slice A n c ∧ n ≤ c ∧ c ≤ maxLen ∧ RdO w (fun k => k < w.heap.size) A n l ∧ ∀ o ∈ l, Oq.fit o := by
  have hC : Try.prog.cellsOf 32 = 5 := by kernel_rfl
  rcases open_slice Try.underlying28 h with ⟨hcs, _⟩ | ⟨a, len, cap, m, n, D, Pl, hcs, _, hl, hm, hmm, _, hi⟩
  · injection hcs with hv
    exact ⟨none, 0, 0, [], hv, Nat.le_refl _, Nat.zero_le _, Rds.nil, fun o ho => absurd ho (List.not_mem_nil)⟩
  · injection hcs with hv
    have hlm : len ≤ m := by rw [hmm]; split <;> omega
    obtain ⟨l, hll, hp⟩ := choose_upto (n := len) (p := fun i o => w.cells? base (a.add (i * 5)) 5 = some (Oq.cs o) ∧ o.fit) (fun i hil => by
      obtain ⟨cs', hc, ht⟩ := hi i (by omega)
      rw [hC] at hc
      obtain ⟨o, ho, hfo⟩ := open_op ht
      exact ⟨o, by rw [← ho]; exact hc, hfo⟩)
    refine ⟨some a, len, cap, l, hv, hl, hm, ?_, fun o ho => ?_⟩
    · have hr : Rds w (fun _ => True) 5 (some a) len (l.flatMap Oq.cs) := by
        refine ⟨by rw [ops_len, hll], fun _ => ⟨a, rfl, trivial, fun j u hu => ?_⟩⟩
        have hj : j < l.length * 5 := by
          rw [← ops_len]
          rcases Nat.lt_or_ge j (l.flatMap Oq.cs).length with h1 | h1
          · exact h1
          · rw [List.getElem?_eq_none h1] at hu; cases hu
        have hq : l[j / 5]? = some (l[j / 5]'(by omega)) := List.getElem?_eq_getElem (by omega)
        obtain ⟨hc, _⟩ := hp _ _ hq
        obtain ⟨_, _, hat⟩ := World.cells?_some hc
        have hjm : j % 5 < 5 := Nat.mod_lt _ (by omega)
        have h2 := hat (j % 5) hjm
        have hcs : ((l[j / 5]'(by omega)).cs)[j % 5]? = some (((l[j / 5]'(by omega)).cs)[j % 5]'(by show j % 5 < 5; omega)) := List.getElem?_eq_getElem _
        have h3 := ops_get l (j / 5) _ hq (j % 5) _ hcs
        rw [show j / 5 * 5 + j % 5 = j by omega] at h3
        rw [h3] at hu
        have hu' := Option.some.inj hu
        rw [show j = j / 5 * 5 + j % 5 by omega, ← Go.Deep.add_add, h2, hcs, hu']
      exact (hr.here (by omega)).wider (fun k _ h => h.2) (by omega)
    · obtain ⟨i, hlt, he⟩ := List.mem_iff_getElem.1 ho
      exact (hp i o (by rw [List.getElem?_eq_getElem hlt, he])).2
end

end Go.Proofs.Ytanipieeegeheaa
