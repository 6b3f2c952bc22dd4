/- Joined for this seat from: XSlG. -/
import Derived.Test.YtanipieeegeheaaSj
namespace Go.Proofs.Ytanipieeegeheaa
open Go.RowKit

theorem i64_and_mask (x : Int) (m b : Nat) (hb : m = 2 ^ b - 1) (hm : b ≤ 62) : ∃ C : Nat, bits .and .i64 x (m : Int) = (C : Int) ∧ C ≤ m := by
  refine ⟨((BitVec.ofInt 64 x &&& BitVec.ofInt 64 (m : Int)).toNat), ?_, ?_⟩
  · show IntKind.i64.wrap ((BitVec.ofInt 64 x &&& BitVec.ofInt 64 (m : Int)).toNat : Int) = _
    have h : (BitVec.ofInt 64 x &&& BitVec.ofInt 64 (m : Int)).toNat ≤ m := by
      rw [BitVec.toNat_and]
      refine Nat.le_trans Nat.and_le_right ?_
      rw [BitVec.ofInt_natCast, BitVec.toNat_ofNat]
      exact Nat.mod_le _ _
    have hp : 2 ^ b ≤ 2 ^ 62 := Nat.pow_le_pow_right (by omega) hm
    rw [IntKind.wrap_i64]
    omega
  · rw [BitVec.toNat_and]
    refine Nat.le_trans Nat.and_le_right ?_
    rw [BitVec.ofInt_natCast, BitVec.toNat_ofNat]
    exact Nat.mod_le _ _
/-- A row of points that no writing of the disk touches. -/
structure Kept (w : World) (M : Nat → Prop) (A : Option Addr) (n : Nat) (l : List Pt) : Prop where
  ex : ∃ S : Nat → Prop, RdP w S A n l ∧ ∀ k, S k → k < w.heap.size ∧ ¬ M k
section
variable {w w' : World} {g : Nat} {M R M' R' : Nat → Prop} {d : Dp} {A : Option Addr} {n : Nat} {l : List Pt}
theorem Kept.nil (h : Kept w M A n l) (hc : Chg Nil w w') : Kept w' M A n l := by
  obtain ⟨S, hr, hs⟩ := h.ex
  exact ⟨S, Rds.keep hr hc (fun _ _ h => h), fun k hk => ⟨Nat.lt_of_lt_of_le (hs k hk).1 hc.size, (hs k hk).2⟩⟩
theorem Kept.went (h : Kept w M A n l) (hw : Went w w' M R M' R') : Kept w' M' A n l := by
  obtain ⟨S, hr, hs⟩ := h.ex
  exact ⟨S, Rds.keep hr hw.chg (fun k hk hm => (hs k hk).2 hm), fun k hk => ⟨Nat.lt_of_lt_of_le (hs k hk).1 hw.chg.size, fun hm => (hs k hk).2 (hw.m k (hs k hk).1 hm)⟩⟩
theorem Kept.step (h : Kept w M A n l) (hc : Chg M w w') : Kept w' M A n l := by
  obtain ⟨S, hr, hs⟩ := h.ex
  exact ⟨S, Rds.keep hr hc (fun k hk hm => (hs k hk).2 hm), fun k hk => ⟨Nat.lt_of_lt_of_le (hs k hk).1 hc.size, (hs k hk).2⟩⟩
theorem Kept.far {T : Nat → Prop} (h : Kept w M A n l) (hc : Chg T w w') (ht : ∀ k, k < w.heap.size → T k → False) : Kept w' M A n l := by
  obtain ⟨S, hr, hs⟩ := h.ex
  exact ⟨S, Rds.keep hr hc (fun k hk hm => ht k (hs k hk).1 hm), fun k hk => ⟨Nat.lt_of_lt_of_le (hs k hk).1 hc.size, (hs k hk).2⟩⟩
theorem Kept.new {B : Nat} (hr : RdP w (fun k => B ≤ k) A n l) (hd : ∀ k, M k → k < B) : Kept w M A n l :=
  ⟨_, Rds.here hr (by omega), fun k hk => ⟨hk.2, fun hm => absurd (hd k hm) (by have := hk.1; omega)⟩⟩
theorem Kept.rd (h : Kept w M A n l) : RdP w (fun _ => True) A n l := by
  obtain ⟨S, hr, _⟩ := h.ex
  exact Rds.wider hr (fun _ _ _ => trivial) (by omega)
theorem Kept.len (h : Kept w M A n l) : l.length = n := h.rd.len
/-- A variable that no writing of the disk touches. -/
structure Var (w : World) (M : Nat → Prop) (cb : Nat) (t : TypeId) (cs : Array Value) : Prop where
  bk : Bk w cb t cs
  far : ¬ M cb
variable {cb : Nat} {t : TypeId} {cs : Array Value}
theorem Var.nil (h : Var w M cb t cs) (hc : Chg Nil w w') : Var w' M cb t cs := ⟨h.bk.keep hc (fun h => h), h.far⟩
theorem Var.went (h : Var w M cb t cs) (hw : Went w w' M R M' R') : Var w' M' cb t cs := ⟨h.bk.keep hw.chg h.far, fun hm => h.far (hw.m cb h.bk.lt hm)⟩
theorem Var.step (h : Var w M cb t cs) (hc : Chg M w w') : Var w' M cb t cs := ⟨h.bk.keep hc h.far, h.far⟩
theorem Var.new (hd : Dk w g M R d) (t : TypeId) (cs : Array Value) : Var (w.alloc (.cells cs t)) M w.heap.size t cs := ⟨Bk.new w t cs, fun hm => absurd (hd.lt _ (.inl hm)) (by omega)⟩
end

theorem Var.c3 {w : World} {M : Nat → Prop} {cb : Nat} {t : TypeId} {a b c : Value} (h : Var w M cb t #[a, b, c]) : w.cell? ⟨cb, 0, none⟩ = some a ∧ w.cell? ⟨cb, 1, none⟩ = some b ∧ w.cell? ⟨cb, 2, none⟩ = some c := ⟨h.bk.cell 0 rfl, h.bk.cell 1 rfl, h.bk.cell 2 rfl⟩
theorem Var.two {w : World} {g : Nat} {M R : Nat → Prop} {d : Dp} (hd : Dk w g M R d) (t : TypeId) (c1 c2 : Array Value) :
    Var ((w.alloc (.cells c1 t)).alloc (.cells c2 t)) M w.heap.size t c1 ∧ Var ((w.alloc (.cells c1 t)).alloc (.cells c2 t)) M (w.heap.size + 1) t c2 ∧ Chg Nil w ((w.alloc (.cells c1 t)).alloc (.cells c2 t)) := by
  have hA4 : Chg Nil w (w.alloc (.cells c1 t)) := (Chg.refl _ _).alloc _
  have hA5 : Chg Nil (w.alloc (.cells c1 t)) ((w.alloc (.cells c1 t)).alloc (.cells c2 t)) := (Chg.refl _ _).alloc _
  refine ⟨(Var.new hd t c1).nil hA5, ?_, hA4.trans hA5 (fun _ _ h => h)⟩
  have h := Var.new (hd.keep_nil hA4) t c2
  rwa [World.size_alloc] at h
/-- What Read answers, in one form. -/
def snOr (r : Option Sn) : Sn := r.getD ⟨0, 0, []⟩
theorem SnapIs.uni {B : Nat} {r : Option Sn} {e : Ending} {w' : World} (h : SnapIs B r e w') :
    ∃ A c, e = .returned (.tuple #[.agg #[.int .u64 ((snOr r).gen : Int), .int .u64 ((snOr r).u : Int), .slice A (snOr r).pts.length c], .bool r.isSome, .int .i64 0]) ∧ RdP w' (fun k => B ≤ k) A (snOr r).pts.length (snOr r).pts := by
  cases r with
  | none => exact ⟨none, 0, h, Rds.nil⟩
  | some s =>
    obtain ⟨A, c, he, ho⟩ := h
    exact ⟨A, c, he, (Rds.of_own ho).wider (fun k _ hk => own_ge ho k hk) (by omega)⟩

theorem goodL_take_len (l : List Oq) (k : Nat) : (goodL (l.take k)).length ≤ k := Nat.le_trans (goodL_len _) (by rw [List.length_take]; omega)
theorem snapP_ok (gen u : Nat) (l : List Oq) : (snapP gen u l).ok = true := by
  rw [Sn.ok_iff]
  have := Nat.mod_lt gen (show 0 < 65536 by omega)
  have := Nat.mod_lt u (show 0 < 65536 by omega)
  refine ⟨?_, ?_, ?_, ?_⟩
  · show 1 ≤ gen % 65536 + 1; omega
  · show gen % 65536 + 1 ≤ _; omega
  · show u % 65536 ≤ _; omega
  · exact doP_may _ (by have := goodL_take_len l 30; omega)
theorem snapP_len (gen u : Nat) (l : List Oq) : (snapP gen u l).bytes.length ≤ 500 := by
  rw [Sn.len]
  have h1 := do_len (goodL (l.take 30)) [] up_nil
  have h2 := goodL_take_len l 30
  have h3 : (snapP gen u l).pts.length = (doP [] (goodL (l.take 30))).length := rfl
  have h4 : ([] : List Pt).length = 0 := rfl
  omega
/-- Stop, plainly. -/
def Dp.stopAt (d : Dp) (n : Int) : Dp := { d with stop := n.toNat, dead := d.dead || n == 0 }
theorem Dp.clean_stop {d : Dp} (h : d.clean) (n : Int) : (d.stopAt n).clean := ⟨h.waits, h.same⟩
theorem stepW_le {d : Dp} (p : Nat) (ys : List UInt8) : (stepW d p ys).1.waits.length ≤ d.waits.length + 1 := by
  unfold stepW
  split
  · show d.waits.length ≤ _; omega
  · split
    · show (d.waits ++ [(p, ys)]).length ≤ _; simp
    · show (0 : Nat) ≤ _; omega
theorem slotW_le {d : Dp} (hc : d.waits = []) (p : Nat) (b : List UInt8) : (slotW d p b).1.waits.length ≤ 1 := by
  have h0 := @stepW_le d p [0]
  rw [hc] at h0
  unfold slotW
  split
  · simpa using h0
  · rename_i h1
    have h1' : (stepW d p [0]).2 = 0 := Decidable.of_not_not h1
    have w1 := stepW_waits h1'
    split
    · have := @stepW_le (stepW d p [0]).1 (p + 1) b
      rw [w1] at this
      simpa using this
    · rename_i h2
      have h2' : (stepW (stepW d p [0]).1 (p + 1) b).2 = 0 := Decidable.of_not_not h2
      have w2 := stepW_waits h2'
      have := @stepW_le (stepW (stepW d p [0]).1 (p + 1) b).1 p [197]
      rw [w2] at this
      simpa using this
theorem clean_crash_now {d : Dp} (h : d.clean) (k : Int) : (d.crash k).now = d.now := by rw [crash_nil _ _ h.waits, h.same]
theorem slotW_len {d : Dp} {p : Nat} {b : List UInt8} (h : p + 1 + b.length ≤ d.now.length) : (slotW d p b).1.now.length = d.now.length := by
  have a1 := stepW_len (d := d) (p := p) (ys := [0]) (by simp; omega)
  have a2 := stepW_len (d := (stepW d p [0]).1) (p := p + 1) (ys := b) (by rw [a1]; omega)
  have a3 := stepW_len (d := (stepW (stepW d p [0]).1 (p + 1) b).1) (p := p) (ys := [197]) (by rw [a2, a1]; simp; omega)
  unfold slotW
  split
  · exact a1
  · split
    · rw [a2, a1]
    · rw [a3, a2, a1]
end Go.Proofs.Ytanipieeegeheaa
