/- slices.IndexFunc and slices.ContainsFunc at rec.Batch's function: whether one of the ops may not be. -/
import Derived.Test.YtmbmfhpdajdpfaaPutPt
import Derived.Laws.Cells
namespace Go.Proofs.Ytmbmfhpdajdpfaa
open Go.RowKit

/-- A slice reads ops. -/
def RdO (w : World) (S : Nat → Prop) (A : Option Addr) (n : Nat) (l : List Oq) : Prop := Rds w S 5 A n (l.flatMap Oq.cs)

theorem ops_get (l : List Oq) (m : Nat) (o : Oq) (h : l[m]? = some o) (j : Nat) (u : Value) (hj : o.cs[j]? = some u) : (l.flatMap Oq.cs)[m * 5 + j]? = some u := by
  induction l generalizing m with
  | nil => simp at h
  | cons a t ih =>
    cases m with
    | zero =>
      simp at h
      subst h
      have hlt : j < a.cs.length := by
        rcases Nat.lt_or_ge j a.cs.length with h | h
        · exact h
        · rw [List.getElem?_eq_none h] at hj; cases hj
      rw [List.flatMap_cons, Nat.zero_mul, Nat.zero_add, List.getElem?_append_left hlt]
      exact hj
    | succ m =>
      have ha : a.cs.length = 5 := rfl
      rw [List.flatMap_cons, List.getElem?_append_right (by rw [ha]; omega), ha, show (m + 1) * 5 + j - 5 = m * 5 + j by omega]
      exact ih m (by simpa using h)
theorem ops_len (l : List Oq) : (l.flatMap Oq.cs).length = l.length * 5 := by
  induction l with
  | nil => rfl
  | cons a t ih => rw [List.flatMap_cons, List.length_append, ih]; simp [Oq.cs, Pt.cs]; omega
theorem RdO.len {w : World} {S : Nat → Prop} {A : Option Addr} {n : Nat} {l : List Oq} (h : RdO w S A n l) : l.length = n := by
  have := h.1
  rw [ops_len] at this
  omega
theorem load_list (P : Program) (W : World) (a : Addr) (cs : List Value) (k : Nat) (hk : cs.length = k) (h : ∀ j v, cs[j]? = some v → W.cell? (a.add j) = some v) :
    Sem.run P (loadCellsFrom a 0 k #[]) W = .ok cs.toArray W := by
  have := run_loadCells_list (P := P) (w := W) a cs h
  rw [hk] at this
  simpa [loadCells] using this

set_option maxHeartbeats 1000000 in
set_option maxRecDepth 100000 in
theorem badOp_any (o : Oq) (w : World) : Calls Try.prog 40 #[.agg o.cs.toArray] w fun e w' => e = .returned (.bool (!o.ok)) ∧ Chg Nil w w' := by
  have HP := Hid.mk (fun W => okOp_any o W)
  generalize hb : o.ok = b at *
  obtain ⟨kd, k, x, y, v⟩ := o
  simp only [Oq.cs, Pt.cs]
  go_enter Try.func40, Try.ntmps40
  go_wp2_with fail
  refine (HP.out _).mono ?_
  rintro e w1 ⟨rfl, hc⟩
  have HC := Hid.mk hc
  clear hc
  go_wp2_with fail
  all_goals (go_ret; exact ⟨rfl, ((Chg.refl _ _).alloc _).trans HC.out fun _ _ h => h⟩)

set_option maxHeartbeats 1000000 in
set_option maxRecDepth 100000 in
theorem index_any (A : Option Addr) (n c : Nat) (l : List Oq) (S : Nat → Prop) (w : World) (hr : RdO w S A n l) (hc : n ≤ c) (hcm : c ≤ maxLen) :
    Calls Try.prog 54 #[.slice A n c, .func (.func 40) #[] #[]] w fun e w' => ∃ r : Int, e = .returned (.int .i64 r) ∧ decide (r ≥ 0) = (l.any fun o => !o.ok) ∧ Chg Nil w w' := by
  obtain rfl := hr.len
  unfold maxLen at hcm
  have hfree : ∀ k, k < w.heap.size → Nil k → False := fun _ _ h => h
  rcases Nat.eq_zero_or_pos l.length with h0 | hpos
  · have hl : l = [] := List.length_eq_zero_iff.1 h0
    subst hl
    clear hr
    simp only [List.length_nil]
    go_enter Try.func54, Try.ntmps54
    go_wp2_with fail
    go_loopw [8] (fun i wr => i = .int .i64 0 ∧ wr = w) (fun _ _ => 0)
    case atStart => exact ⟨rfl, rfl⟩
    case round =>
      obtain ⟨rfl, rfl⟩ := hrel
      go_wp2_with fail
      all_goals (go_ret; exact ⟨-1, rfl, by simp, Chg.refl _ _⟩)
  · obtain ⟨b, off, rfl, hS, hlt, hcell⟩ := Rds.plain hr hpos (by omega)
    have HS := Hid.mk (And.intro hS (And.intro hlt (And.intro hcell hr)))
    clear hS hlt hcell hr hfree
    go_enter Try.func54, Try.ntmps54
    go_wp2_with fail
    go_loopw [8] (fun i wr => ∃ m : Nat, m ≤ l.length ∧ i = .int .i64 m ∧ Hid ((∀ o ∈ l.take m, o.ok = true) ∧ Chg Nil w wr)) (fun i _ => l.length - (intOf i).toNat)
    case atStart => exact ⟨0, Nat.zero_le _, rfl, Hid.mk ⟨by simp, Chg.refl _ _⟩⟩
    case round =>
      obtain ⟨m, hm, rfl, HR⟩ := hrel
      by_cases hml : m < l.length
      · obtain ⟨o, ho⟩ : ∃ o, l[m]? = some o := ⟨l[m], List.getElem?_eq_getElem hml⟩
        have hcl : ∀ j v, o.cs[j]? = some v → wr.cell? ⟨b, off + m * 5 + j, none⟩ = some v := fun j v hj => by
          have h1 := HS.out.2.2.1 _ v (ops_get l m o ho j v hj)
          rw [Nat.add_assoc]
          have := HR.out.2.old b HS.out.2.1 (fun h => h)
          simp only [World.cell?] at h1 ⊢
          rw [this]
          exact h1
        have q0 : wr.cell? ⟨b, off + m * 5, none⟩ = some (.int .i64 o.kind) := hcl 0 _ rfl
        have q1 : wr.cell? ⟨b, off + m * 5 + 1, none⟩ = some (.int .i64 o.pt.key) := hcl 1 _ rfl
        have q2 : wr.cell? ⟨b, off + m * 5 + 2, none⟩ = some (.int .i64 o.pt.x) := hcl 2 _ rfl
        have q3 : wr.cell? ⟨b, off + m * 5 + 3, none⟩ = some (.int .i64 o.pt.y) := hcl 3 _ rfl
        have q4 : wr.cell? ⟨b, off + m * 5 + 4, none⟩ = some (.int .i64 o.pt.v) := hcl 4 _ rfl
        have HO := Hid.mk ho
        clear ho hcl
        go_wp2_with fail
        refine (badOp_any o _).mono ?_
        rintro e w2 ⟨rfl, hc2⟩
        have HC := Hid.mk (HR.out.2.trans hc2 fun _ _ h => h)
        clear hc2 q0 q1 q2 q3 q4
        generalize hok : o.ok = bo
        have HB := Hid.mk hok
        clear hok
        cases bo
        · go_wp2_with fail
          all_goals (go_ret; refine ⟨m, rfl, ?_, HC.out⟩)
          all_goals
            have h1 : (l.any fun o => !o.ok) = true := List.any_eq_true.2 ⟨o, List.mem_of_getElem? HO.out, by simp [HB.out]⟩
            rw [h1]
            exact decide_eq_true (by omega)
        · go_wp2_with fail
          go_roundw
          case rel =>
            refine ⟨m + 1, by omega, by go_num, Hid.mk ⟨fun q hq => ?_, HC.out⟩⟩
            rw [List.take_add_one, HO.out] at hq
            rcases List.mem_append.1 hq with h | h
            · exact HR.out.1 q h
            · have : q = o := by simpa using h
              rw [this]; exact HB.out
          case measure => simp [intOf]; omega
      · have : m = l.length := by omega
        subst this
        go_wp2_with fail
        all_goals (go_ret; exact ⟨-1, rfl, by have := HR.out.1; simp at this; simpa using this, HR.out.2⟩)

set_option maxHeartbeats 1000000 in
set_option maxRecDepth 100000 in
theorem contains_any (A : Option Addr) (n c : Nat) (l : List Oq) (S : Nat → Prop) (w : World) (hr : RdO w S A n l) (hc : n ≤ c) (hcm : c ≤ maxLen) :
    Calls Try.prog 39 #[.slice A n c, .func (.func 40) #[] #[]] w fun e w' => e = .returned (.bool (l.any fun o => !o.ok)) ∧ Chg Nil w w' := by
  have H := Hid.mk (index_any A n c l S w hr hc hcm)
  clear hr hc hcm
  go_enter Try.func39, Try.ntmps39
  go_wp2_with fail
  refine H.out.mono ?_
  rintro e w1 ⟨r, rfl, hd, hc1⟩
  have HC := Hid.mk (And.intro hd hc1)
  clear hc1 hd
  go_wp2_with fail
  all_goals (go_ret; exact ⟨by rw [← HC.out.1]; rfl, HC.out.2⟩)
end Go.Proofs.Ytmbmfhpdajdpfaa
