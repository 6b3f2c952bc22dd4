/- Points and ops: what may be. The contracts of okKey, Ok, okOp. -/
import Derived.Test.YtmbmfhpdajdpfaaNum
namespace Go.Proofs.Ytmbmfhpdajdpfaa
open Go.RowKit

/-- A point. -/
structure Pt where
  key : Int
  x : Int
  y : Int
  v : Int
/-- An op. -/
structure Oq where
  kind : Int
  pt : Pt
def Pt.cs (p : Pt) : List Value := [.int .i64 p.key, .int .i64 p.x, .int .i64 p.y, .int .i64 p.v]
def Oq.cs (o : Oq) : List Value := .int .i64 o.kind :: o.pt.cs
def keyOk (k : Int) : Bool := decide (k ≥ 1) && decide (k ≤ 2147483648)
def inOk (k : Int) : Bool := decide (k ≥ 0) && decide (k < 1073741824)
def Pt.ok (p : Pt) : Bool := keyOk p.key && inOk p.x && inOk p.y && decide (p.v ≥ -2147483648) && decide (p.v ≤ 2147483647)

theorem okKey_any (k : Int) (w : World) : Calls Try.prog 56 #[.int .i64 k] w fun e w' => e = .returned (.bool (keyOk k)) ∧ w' = w := by
  go_enter Try.func56, Try.ntmps56
  unfold keyOk
  by_cases h1 : k ≥ 1
  · have d1 : decide (k ≥ 1) = true := decide_eq_true h1
    generalize hd2 : decide (k ≤ 2147483648) = d2
    go_wp2
    go_ret
    simp_all
  · have d1 : decide (k ≥ 1) = false := decide_eq_false h1
    go_wp2
    go_ret
    simp_all

theorem okIn_any (k : Int) (w : World) : Calls Try.prog 62 #[.int .i64 k] w fun e w' => e = .returned (.bool (inOk k)) ∧ w' = w := by
  go_enter Try.func62, Try.ntmps62
  unfold inOk
  by_cases h1 : k ≥ 0
  · have d1 : decide (k ≥ 0) = true := decide_eq_true h1
    generalize hd2 : decide (k < 1073741824) = d2
    go_wp2
    go_ret
    simp_all
  · have d1 : decide (k ≥ 0) = false := decide_eq_false h1
    go_wp2
    go_ret
    simp_all

set_option maxHeartbeats 1000000 in
set_option maxRecDepth 100000 in
theorem okPoint_any (p : Pt) (w : World) : Calls Try.prog 55 #[.agg p.cs.toArray] w fun e w' => e = .returned (.bool p.ok) ∧ Chg Nil w w' := by
  obtain ⟨k, x, y, v⟩ := p
  simp only [Pt.cs, Pt.ok]
  go_enter Try.func55, Try.ntmps55
  generalize hk : keyOk k = bk
  generalize hx : inOk x = bx
  generalize hy : inOk y = by'
  generalize h1 : decide (v ≥ -2147483648) = b1
  generalize h2 : decide (v ≤ 2147483647) = b2
  have HK := Hid.mk (And.intro hk (And.intro hx hy))
  clear hk hx hy
  go_wp2_with fail
  refine (okKey_any k _).mono ?_
  rintro e w1 ⟨rfl, rfl⟩
  rw [HK.out.1]
  cases bk
  · go_wp2_with fail
    all_goals (go_ret; exact ⟨rfl, (Chg.refl _ _).alloc _⟩)
  · go_wp2_with fail
    refine (okIn_any x _).mono ?_
    rintro e w1 ⟨rfl, rfl⟩
    rw [HK.out.2.1]
    cases bx
    · go_wp2_with fail
      all_goals (go_ret; exact ⟨rfl, (Chg.refl _ _).alloc _⟩)
    · go_wp2_with fail
      refine (okIn_any y _).mono ?_
      rintro e w1 ⟨rfl, rfl⟩
      rw [HK.out.2.2]
      cases by'
      · go_wp2_with fail
        all_goals (go_ret; exact ⟨rfl, (Chg.refl _ _).alloc _⟩)
      · cases b1
        · go_wp2_with fail
          all_goals (go_ret; exact ⟨rfl, (Chg.refl _ _).alloc _⟩)
        · go_wp2_with fail
          all_goals (go_ret; exact ⟨by simp, (Chg.refl _ _).alloc _⟩)

def Pt.only (p : Pt) : Bool := decide (p.x = 0) && decide (p.y = 0) && decide (p.v = 0)
def Oq.ok (o : Oq) : Bool := if o.kind = 1 then o.pt.ok else if o.kind = 2 then keyOk o.pt.key && o.pt.only else false

set_option maxHeartbeats 1000000 in
set_option maxRecDepth 100000 in
theorem okOp_any (o : Oq) (w : World) : Calls Try.prog 41 #[.agg o.cs.toArray] w fun e w' => e = .returned (.bool o.ok) ∧ Chg Nil w w' := by
  obtain ⟨kd, p⟩ := o
  by_cases h1 : kd = 1
  · subst h1
    have hok : Oq.ok ⟨1, p⟩ = p.ok := rfl
    rw [hok]
    have HP := Hid.mk (fun W => okPoint_any p W)
    generalize hb : p.ok = b at *
    obtain ⟨k, x, y, v⟩ := p
    simp only [Oq.cs, Pt.cs]
    go_enter Try.func41, Try.ntmps41
    go_wp2_with fail
    refine (HP.out _).mono ?_
    rintro e w1 ⟨rfl, hc⟩
    have HC := Hid.mk hc
    clear hc
    go_wp2_with fail
    all_goals (go_ret; exact ⟨rfl, ((Chg.refl _ _).alloc _).trans HC.out fun _ _ h => h⟩)
  · by_cases h2 : kd = 2
    · subst h2
      have hok : Oq.ok ⟨2, p⟩ = (keyOk p.key && p.only) := rfl
      rw [hok]
      obtain ⟨k, x, y, v⟩ := p
      simp only [Oq.cs, Pt.cs, Pt.only]
      generalize hk : keyOk k = b
      have HK := Hid.mk hk
      clear hk
      go_enter Try.func41, Try.ntmps41
      go_wp2_with fail
      refine (okKey_any k _).mono ?_
      rintro e w1 ⟨rfl, rfl⟩
      rw [HK.out]
      cases b
      · go_wp2_with fail
        all_goals (go_ret; exact ⟨rfl, (Chg.refl _ _).alloc _⟩)
      · go_wp2_with fail
        all_goals (go_ret; exact ⟨by simp_all, (Chg.refl _ _).alloc _⟩)
    · have hok : Oq.ok ⟨kd, p⟩ = false := by simp [Oq.ok, h1, h2]
      rw [hok]
      obtain ⟨k, x, y, v⟩ := p
      simp only [Oq.cs, Pt.cs]
      have d1 : decide (kd = 1) = false := decide_eq_false h1
      have d2 : decide (kd = 2) = false := decide_eq_false h2
      have e1 : ((kd : Int) == 1) = false := by simpa using h1
      have e2 : ((kd : Int) == 2) = false := by simpa using h2
      go_enter Try.func41, Try.ntmps41
      go_wp2_with fail
      all_goals (go_ret; exact ⟨rfl, (Chg.refl _ _).alloc _⟩)
end Go.Proofs.Ytmbmfhpdajdpfaa
