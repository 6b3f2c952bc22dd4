/- Ops on a disk, plainly; Write and Sync whether they answer 0 or not; a row of ops. -/
import Derived.Test.YtbaaoldcecefcaaLive2
import Derived.Test.YtbaaoldcecefcaaTxt
namespace Go.Proofs.Ytbaaoldcecefcaa
open Go.RowKit

structure Qop where
  kind : Int
  pos : Int
  n : Int
  keep : Int
def Qop.cs (o : Qop) : List Value := [.int .i64 o.kind, .int .i64 o.pos, .int .i64 o.n, .int .i64 o.keep]
def Qop.fit (o : Qop) : Prop := -9223372036854775808 ≤ o.pos ∧ o.pos ≤ 9223372036854775807 ∧ -9223372036854775808 ≤ o.n ∧ o.n ≤ 9223372036854775807 ∧ -9223372036854775808 ≤ o.keep ∧ o.keep ≤ 9223372036854775807
def Qop.long (o : Qop) : Nat := (o.n / 256 % 64).toNat
def Dp.writeA (d : Dp) (p : Int) (ys : List UInt8) : Dp := if d.opE p ys.length = 0 then d.write p.toNat ys else d
def Dp.syncA (d : Dp) : Dp := if d.dead then d else d.sync
def Dp.act (d : Dp) (o : Qop) : Dp :=
  if o.kind = 0 then d.writeA o.pos (txt o.n o.long) else if o.kind = 1 then d.syncA else if o.kind = 3 then { d with stop := o.n.toNat, dead := d.dead || o.n == 0 } else if o.kind = 4 then d.crash o.keep else d

theorem dwrite_any {g : Nat} {M R S : Nat → Prop} {d : Dp} {w : World} (h : Dk w g M R d) (p : Int) (B : Option Addr) (mc : Nat) (ys : List UInt8) (hr : RdB w S B ys.length ys) (hS : ∀ k, S k → ¬ M k) (hlong : d.waits.length ≤ 1000000) :
    Calls Try.prog 11 #[.pointer (some ⟨g, 0, none⟩), .int .i64 p, .slice B ys.length mc] w fun e w' => ∃ M' R', e = .returned (.int .i64 (d.opE p ys.length)) ∧ Went w w' M R M' R' ∧ Dk w' g M' R' (d.writeA p ys) := by
  by_cases h0 : d.opE p ys.length = 0
  · obtain ⟨hf, hd⟩ := Dp.opE_zero h0
    obtain ⟨h1, _, h3⟩ := Dp.fits_elim hf
    obtain ⟨q, rfl⟩ := Int.eq_ofNat_of_zero_le h1
    rw [h0, Dp.writeA, if_pos h0]
    exact dwrite_ok h q B ys.length mc ys hr hS (by omega) hd hlong
  · rw [Dp.writeA, if_neg h0]
    refine (dwrite_no h p B ys.length mc h0).mono ?_
    rintro e w' ⟨rfl, hc⟩
    exact ⟨M, R, rfl, Went.of_chg (hc.wider fun _ _ h => h.elim), h.keep_nil hc⟩
theorem dsync_any {g : Nat} {M R : Nat → Prop} {d : Dp} {w : World} (h : Dk w g M R d) :
    Calls Try.prog 16 #[.pointer (some ⟨g, 0, none⟩)] w fun e w' => e = .returned (.int .i64 (if d.dead then 9 else 0)) ∧ Went w w' M R M R ∧ Dk w' g M R d.syncA := by
  cases hd : d.dead with
  | true =>
    rw [Dp.syncA, hd]
    refine (dsync_dead h hd).mono ?_
    rintro e w' ⟨rfl, rfl⟩
    exact ⟨rfl, Went.refl _ _ _, h⟩
  | false =>
    rw [Dp.syncA, hd]
    refine (dsync_ok h hd).mono ?_
    rintro e w' ⟨rfl, hc, h'⟩
    exact ⟨rfl, Went.of_chg hc, h'⟩
theorem writeA_now (d : Dp) (p : Int) (ys : List UInt8) : (d.writeA p ys).now.length = d.now.length := by
  unfold Dp.writeA
  split
  · rename_i h0
    obtain ⟨hf, hd⟩ := Dp.opE_zero h0
    obtain ⟨h1, _, h3⟩ := Dp.fits_elim hf
    rw [Dp.write]
    exact splice_len _ _ _ (by omega)
  · rfl
theorem writeA_waits (d : Dp) (p : Int) (ys : List UInt8) : (d.writeA p ys).waits.length ≤ d.waits.length + 1 := by
  unfold Dp.writeA
  split
  · rw [Dp.write]; simp
  · omega
theorem syncA_now (d : Dp) : d.syncA.now.length = d.now.length := by
  unfold Dp.syncA
  split
  · rfl
  · show d.called.now.length = _
    rw [Dp.called_now]
theorem crash_now {d : Dp} (h : d.ok) (k : Int) : (d.crash k).now.length = d.now.length := crashB_len _ _ h.fits _ _ h.same
theorem act_now {d : Dp} (h : d.ok) (o : Qop) : (d.act o).now.length = d.now.length := by
  unfold Dp.act
  split
  · exact writeA_now _ _ _
  · split
    · exact syncA_now _
    · split
      · rfl
      · split
        · exact crash_now h _
        · rfl
theorem act_waits (d : Dp) (o : Qop) : (d.act o).waits.length ≤ d.waits.length + 1 := by
  unfold Dp.act
  split
  · exact writeA_waits _ _ _
  · split
    · unfold Dp.syncA
      split
      · omega
      · exact Nat.zero_le _
    · split
      · exact Nat.le_succ _
      · split
        · exact Nat.zero_le _
        · omega

/-- A slice reads ops. -/
theorem qops_get (l : List Qop) (m : Nat) (o : Qop) (h : l[m]? = some o) (j : Nat) (u : Value) (hj : o.cs[j]? = some u) : (l.flatMap Qop.cs)[m * 4 + j]? = some u := by
  induction l generalizing m with
  | nil => simp at h
  | cons a t ih =>
    cases m with
    | zero =>
      simp at h
      subst h
      have hlt : j < a.cs.length := by
        rcases Nat.lt_or_ge j a.cs.length with h | h
        · exact h
        · rw [List.getElem?_eq_none h] at hj; cases hj
      rw [List.flatMap_cons, Nat.zero_mul, Nat.zero_add, List.getElem?_append_left hlt]
      exact hj
    | succ m =>
      have ha : a.cs.length = 4 := rfl
      rw [List.flatMap_cons, List.getElem?_append_right (by rw [ha]; omega), ha, show (m + 1) * 4 + j - 4 = m * 4 + j by omega]
      exact ih m (by simpa using h)
theorem qops_len (l : List Qop) : (l.flatMap Qop.cs).length = l.length * 4 := by
  induction l with
  | nil => rfl
  | cons a t ih => rw [List.flatMap_cons, List.length_append, ih]; simp [Qop.cs]; omega
end Go.Proofs.Ytbaaoldcecefcaa
