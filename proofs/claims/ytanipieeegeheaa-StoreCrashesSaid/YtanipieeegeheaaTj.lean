/- Joined for this seat from: XStW. -/
import Derived.Test.YtanipieeegeheaaTi
namespace Go.Proofs.Ytanipieeegeheaa
open Go.RowKit

/-- The states from the nth body on. -/
structure Hist (β : Sp) (bo : List (List UInt8)) (n : Nat) (L : List Sp) : Prop where
  le : n ≤ bo.length
  len : L.length = bo.length - n + 1
  at_ : ∀ (i : Nat) (τ : Sp), L[i]? = some τ → runB β (bo.take (n + i)) = some τ
/-- No two states are of one generation and one count. -/
def Uniq (L : List Sp) : Prop := ∀ (i j : Nat) (σ τ : Sp), L[i]? = some σ → L[j]? = some τ → σ.u = τ.u → σ.gen = τ.gen → i = j
/-- A Crash brings one of the states back. -/
structure Lost (s l : Nat) (D : Dp) (L : List Sp) : Prop where
  back : ∀ keep : Int, ∃ (i : Nat) (τ β : Sp) (bo : List (List UInt8)), L[i]? = some τ ∧ Img (D.crash keep).now β τ bo
  uniq : Uniq L
  slots : ∀ τ ∈ L, τ.slots = s ∧ τ.log = l
  may : ∀ τ ∈ L, mayP τ.pts = 0
/-- A store at work on a disk that lives, and what may come back. -/
structure Work (s l : Nat) (σ : Sp) (D : Dp) (L : List Sp) : Prop where
  inv : ∃ β bo n, Inv σ D β bo n ∧ Hist β bo n L
  slots : σ.slots = s
  log : σ.log = l
  last : L[L.length - 1]? = some σ
  pos : 0 < L.length
section
variable {s l : Nat} {σ β : Sp} {D : Dp} {bo : List (List UInt8)} {n : Nat} {L : List Sp}
theorem Hist.run (h : Hist β bo n L) {i : Nat} {τ : Sp} (hi : L[i]? = some τ) : Runs β τ (bo.take (n + i)) := runB_runs _ _ _ (h.at_ i τ hi)
theorem Hist.lt (h : Hist β bo n L) {i : Nat} {τ : Sp} (hi : L[i]? = some τ) : n + i ≤ bo.length := by
  have : i < L.length := by
    rcases Nat.lt_or_ge i L.length with hx | hx
    · exact hx
    · rw [List.getElem?_eq_none hx] at hi; cases hi
  have := h.len
  have := h.le
  omega
theorem Hist.u (h : Hist β bo n L) {i : Nat} {τ : Sp} (hi : L[i]? = some τ) : τ.u = β.u + (n + i) := by
  have := (h.run hi).u
  rw [List.length_take, Nat.min_eq_left (h.lt hi)] at this
  exact this
theorem Hist.uniq (h : Hist β bo n L) : Uniq L := fun i j σ τ hi hj hu _ => by
  rw [h.u hi, h.u hj] at hu
  omega
theorem Hist.dims (h : Hist β bo n L) : ∀ τ ∈ L, τ.slots = β.slots ∧ τ.log = β.log ∧ τ.gen = β.gen := fun τ ht => by
  obtain ⟨i, hi⟩ := List.mem_iff_getElem?.1 ht
  have r := h.run hi
  exact ⟨r.slots, r.log, r.gen⟩
theorem Hist.mays (h : Hist β bo n L) (hb : BaseOk β) : ∀ τ ∈ L, mayP τ.pts = 0 := fun τ ht => by
  obtain ⟨i, hi⟩ := List.mem_iff_getElem?.1 ht
  exact (h.run hi).may hb.may
theorem Hist.snoc (h : Hist β bo n L) {b : List UInt8} {σ' : Sp} (hr : runB β (bo ++ [b]) = some σ') : Hist β (bo ++ [b]) n (L ++ [σ']) := by
  have hl := h.len
  have hle := h.le
  refine ⟨by rw [List.length_append]; omega, by rw [List.length_append, List.length_append, List.length_singleton, List.length_singleton]; omega, fun i τ hi => ?_⟩
  rcases Nat.lt_or_ge i L.length with hx | hx
  · rw [List.getElem?_append_left hx] at hi
    rw [List.take_append_of_le_length (by omega)]
    exact h.at_ i τ hi
  · rw [List.getElem?_append_right hx] at hi
    have h0 : i - L.length = 0 := by
      rcases Nat.eq_zero_or_pos (i - L.length) with h0 | h0
      · exact h0
      · rw [List.getElem?_eq_none (by rw [List.length_singleton]; omega)] at hi; cases hi
    rw [h0] at hi
    injection hi with hi
    rw [← hi, List.take_of_length_le (by rw [List.length_append, List.length_singleton]; omega)]
    exact hr
theorem Hist.one (hr : runB β bo = some σ) : Hist β bo bo.length [σ] := ⟨Nat.le_refl _, by simp, fun i τ hi => by
  have h0 : i = 0 := by
    rcases Nat.eq_zero_or_pos i with h0 | h0
    · exact h0
    · rw [List.getElem?_eq_none (by rw [List.length_singleton]; omega)] at hi; cases hi
  subst h0
  injection hi with hi
  rw [← hi, Nat.add_zero, List.take_length]
  exact hr⟩
theorem Work.of (h : Inv σ D β bo n) (hh : Hist β bo n L) : Work σ.slots σ.log σ D L := by
  have hl := hh.len
  refine ⟨⟨β, bo, n, h, hh⟩, rfl, rfl, ?_, by omega⟩
  have : ∃ τ, L[L.length - 1]? = some τ := ⟨L[L.length - 1]'(by omega), List.getElem?_eq_getElem _⟩
  obtain ⟨τ, ht⟩ := this
  have hr := hh.at_ _ _ ht
  have hle := hh.le
  rw [List.take_of_length_le (by omega), h.run] at hr
  rw [ht, hr]
/-- Opened, one state. -/
theorem Work.one (h : Inv σ D β bo bo.length) : Work σ.slots σ.log σ D [σ] := Work.of h (Hist.one h.run)
theorem Work.lost (h : Work s l σ D L) : Lost s l D L := by
  obtain ⟨β, bo, n, hi, hh⟩ := h.inv
  refine ⟨fun keep => ?_, hh.uniq, fun τ ht => ?_, hh.mays hi.img.ok⟩
  · obtain ⟨j, σj, h1, h2, _, h4, _, _, h5⟩ := hi.back keep
    have hlen := hh.len
    have hx : ∃ τ, L[j - n]? = some τ := ⟨L[j - n]'(by omega), List.getElem?_eq_getElem _⟩
    obtain ⟨τ, hτ⟩ := hx
    have hr := hh.at_ _ _ hτ
    rw [show n + (j - n) = j by omega, h4] at hr
    injection hr with hr
    subst hr
    exact ⟨j - n, σj, β, _, hτ, h5.img⟩
  · obtain ⟨d1, d2, _⟩ := hh.dims τ ht
    have r := hi.img.runs
    rw [← h.slots, ← h.log, r.slots, r.log]
    exact ⟨d1, d2⟩
theorem Inv.stopped (h : Inv σ D β bo n) (m : Int) : Inv σ (D.stopAt m) β bo n :=
  ⟨h.base, h.run, h.lens, h.log, h.room, h.slots, h.sum, h.many, h.crash, h.nle⟩
theorem Work.stopped (h : Work s l σ D L) (m : Int) : Work s l σ (D.stopAt m) L := by
  obtain ⟨β, bo, n, hi, hh⟩ := h.inv
  exact ⟨⟨β, bo, n, hi.stopped m, hh⟩, h.slots, h.log, h.last, h.pos⟩
theorem Work.few (h : Work s l σ D L) (hd : D.ok) : D.waits.length ≤ 1000000 := by
  obtain ⟨β, bo, n, hi, _⟩ := h.inv
  exact Nat.le_trans hi.few hd.most
theorem Work.unbroken (h : Work s l σ D L) : σ.broken = false := by
  obtain ⟨β, bo, n, hi, _⟩ := h.inv
  exact hi.unbroken
/-- Apply on a disk that lives. -/
theorem Work.apply (h : Work s l σ D L) (hd : D.dead = false) (ops : List Oq) (he : applyE σ ops = 0) :
    (applyP σ D ops).1 = σ.apply1 ops ∧ (applyP σ D ops).2.2 = 0 ∧ Work s l (σ.apply1 ops) (applyP σ D ops).2.1 (L ++ [σ.apply1 ops]) := by
  obtain ⟨β, bo, n, hi, hh⟩ := h.inv
  have h2 := hi.apply hd ops he
  have h1 : (applyP σ D ops).1 = σ.apply1 ops := by rw [applyP_zero he hd]; unfold Sp.apply1; rw [if_pos he]
  rw [h1] at h2
  refine ⟨h1, by rw [applyP_zero he hd], ⟨β, _, n, h2, hh.snoc h2.run⟩, ?_, ?_, ?_, by rw [List.length_append]; simp⟩
  · unfold Sp.apply1; rw [if_pos he]; exact h.slots
  · unfold Sp.apply1; rw [if_pos he]; exact h.log
  · rw [List.length_append, List.length_singleton, Nat.add_sub_cancel, List.getElem?_append_right (Nat.le_refl _), Nat.sub_self]; rfl
theorem Work.sync (h : Work s l σ D L) (hd : D.dead = false) : syncP σ D = (σ, D.sync, 0) ∧ Work s l σ D.sync [σ] := by
  obtain ⟨β, bo, n, hi, hh⟩ := h.inv
  refine ⟨?_, ?_⟩
  · unfold syncP
    rw [h.unbroken, if_neg (by decide), hd, if_neg (by decide)]
  · have := Work.one hi.sync
    rw [h.slots, h.log] at this
    exact this
/-- A checkpoint on a disk that lives: done, or the disk has died. -/
theorem Work.mark (h : Work s l σ D L) (hd : D.dead = false) (he : markE σ = 0) :
    ((markP σ D).2.2 = 0 ∧ (markP σ D).1 = σ.marked ∧ Work s l σ.marked (markP σ D).2.1 [σ.marked]) ∨
    ((markP σ D).2.2 = 9 ∧ (markP σ D).2.1.dead = true ∧ Lost s l (markP σ D).2.1 (L ++ [σ.marked])) := by
  obtain ⟨β, bo, n, hi, hh⟩ := h.inv
  rcases hi.mark hd he with ⟨h1, h2, h3⟩ | ⟨h1, h2, h3⟩
  · refine .inl ⟨h1, h2, ?_⟩
    have := Work.one (bo := []) h3
    exact ⟨this.inv, h.slots, h.log, rfl, by simp⟩
  · refine .inr ⟨h1, h2, ?_, ?_, ?_, ?_⟩
    · intro keep
      have hlen := hh.len
      rcases h3 keep with ⟨j, σj, j1, j2, j3, j4⟩ | h4
      · have hx : ∃ τ, L[j - n]? = some τ := ⟨L[j - n]'(by omega), List.getElem?_eq_getElem _⟩
        obtain ⟨τ, hτ⟩ := hx
        have hr := hh.at_ _ _ hτ
        rw [show n + (j - n) = j by omega, j3] at hr
        injection hr with hr
        subst hr
        exact ⟨j - n, σj, β, _, by rw [List.getElem?_append_left (by omega)]; exact hτ, j4⟩
      · exact ⟨L.length, σ.marked, _, _, by rw [List.getElem?_append_right (Nat.le_refl _), Nat.sub_self]; rfl, h4⟩
    · have hg : σ.gen = β.gen := hi.img.runs.gen
      intro i j x y hx hy hu hge
      rcases Nat.lt_or_ge i L.length with h5 | h5
      · rw [List.getElem?_append_left h5] at hx
        rcases Nat.lt_or_ge j L.length with h6 | h6
        · rw [List.getElem?_append_left h6] at hy
          exact hh.uniq i j x y hx hy hu hge
        · rw [List.getElem?_append_right h6] at hy
          have : y = σ.marked := by
            cases hjj : j - L.length with
            | zero => rw [hjj] at hy; injection hy with hy; exact hy.symm
            | succ q => rw [hjj] at hy; cases hy
          subst this
          have e1 := (hh.run hx).gen
          have e2 : σ.marked.gen = σ.gen + 1 := rfl
          omega
      · rw [List.getElem?_append_right h5] at hx
        have hxe : x = σ.marked ∧ i = L.length := by
          cases hjj : i - L.length with
          | zero => rw [hjj] at hx; injection hx with hx; exact ⟨hx.symm, by omega⟩
          | succ q => rw [hjj] at hx; cases hx
        rcases Nat.lt_or_ge j L.length with h6 | h6
        · rw [List.getElem?_append_left h6] at hy
          have e1 := (hh.run hy).gen
          have e2 : σ.marked.gen = σ.gen + 1 := rfl
          rw [hxe.1] at hge
          omega
        · rw [List.getElem?_append_right h6] at hy
          cases hjj : j - L.length with
          | zero => omega
          | succ q => rw [hjj] at hy; cases hy
    · intro τ ht
      rcases List.mem_append.1 ht with ht | ht
      · obtain ⟨d1, d2, _⟩ := hh.dims τ ht
        have r := hi.img.runs
        rw [← h.slots, ← h.log, r.slots, r.log]
        exact ⟨d1, d2⟩
      · have : τ = σ.marked := by simpa using ht
        rw [this]
        exact ⟨h.slots, h.log⟩
    · intro τ ht
      rcases List.mem_append.1 ht with ht | ht
      · exact hh.mays hi.img.ok τ ht
      · have : τ = σ.marked := by simpa using ht
        rw [this]
        exact hi.img.runs.may hi.img.ok.may
/-- A clean disk that opens to τ: Open, whether the disk dies of it or not, and a Crash behind it. -/
theorem img_again {d : Dp} {τ : Sp} (hc : d.clean) (h : Img d.now β τ bo) :
    ((openD d τ.slots τ.log).2 = 0 ∨ (openD d τ.slots τ.log).2 = 9) ∧ openS d τ.slots τ.log = τ ∧ ∀ keep : Int, Img ((openD d τ.slots τ.log).1.crash keep).now β τ bo := by
  rcases open_img hc h with ⟨h1, h2, _, h3⟩ | ⟨h1, _, h3⟩
  · refine ⟨.inl h1, h.opens, fun keep => ?_⟩
    rw [clean_crash_now h3]
    exact h2.img
  · exact ⟨.inr h1, h.opens, h3⟩
end

end Go.Proofs.Ytanipieeegeheaa
