/- Joined for this seat from: XStS. -/
import Derived.Test.YtanipieeegeheaaSr
namespace Go.Proofs.Ytanipieeegeheaa
section
variable {m x : List UInt8} {σ : Sp} {d : Dp} {β : Sp} {bo : List (List UInt8)} {n : Nat}
/-- The log's rest blanked from its beginning on, any way far. -/
theorem Img.blank (h : Img m β σ bo) (k : Nat) (hk : k ≤ σ.log - σ.used) : Img (splice m (2 * σ.slots + σ.used) (zeros k)) β σ bo := by
  have hroom := h.room
  have hle := h.used_le
  have hu := h.used_len
  cases k with
  | zero => rw [show zeros 0 = [] from rfl, splice_nil]; exact h
  | succ k =>
    have hl : 2 * σ.slots + σ.used + (zeros (k + 1)).length ≤ m.length := by rw [zeros_length]; omega
    obtain ⟨t, h1, h2⟩ := h.log
    have htl := congrArg List.length h1
    rw [win_len hroom, List.length_append] at htl
    refine ⟨?_, h.run, h.lens, ⟨zeros (k + 1) ++ t.drop (k + 1), ?_, ?_⟩, by rw [splice_len _ _ _ hl]; exact hroom, h.slots⟩
    · rw [winS_out hl (.inl (by omega)), winS_out hl (.inl (by omega))]; exact h.base
    · rw [winS_splice hroom (by rw [zeros_length]; omega), h1, hu, splice_end, zeros_length]
    · rw [scan_zeros _ _ _ (.inr (by omega))]; rfl
theorem open_img (hc : d.clean) (h : Img d.now β σ bo) :
    ((openD d σ.slots σ.log).2 = 0 ∧ Inv σ (openD d σ.slots σ.log).1 β bo bo.length ∧ d.dead = false ∧ (openD d σ.slots σ.log).1.clean) ∨
    ((openD d σ.slots σ.log).2 = 9 ∧ (openD d σ.slots σ.log).1.dead = true ∧ ∀ keep : Int, Img ((openD d σ.slots σ.log).1.crash keep).now β σ bo) := by
  have hroom := h.room
  have hle := h.used_le
  have hu := h.used_len
  obtain ⟨t, h1, h2⟩ := h.log
  have htl := congrArg List.length h1
  rw [win_len hroom, List.length_append] at htl
  unfold openD
  rw [h.opens]
  cases hd : d.dead with
  | true =>
    right
    simp only [if_true]
    refine ⟨trivial, hd, fun keep => ?_⟩
    rw [crash_nil _ _ hc.waits, hc.same]; exact h
  | false =>
    simp only [Bool.false_eq_true, if_false]
    have hdrop : (winS d.now (2 * σ.slots) σ.log).drop σ.used = t := by rw [h1, hu]; exact List.drop_left
    cases hdi : dirty ((winS d.now (2 * σ.slots) σ.log).drop σ.used) with
    | true =>
      simp only [if_true]
      have hb := h.blank (σ.log - σ.used) (Nat.le_refl _)
      rcases step_cases hc (2 * σ.slots + σ.used) (zeros (σ.log - σ.used)) with ⟨e1, c1, n1, hdd⟩ | ⟨e1, h3⟩
      · left
        rw [← n1] at hb
        refine ⟨e1, Inv.clean_of hb ?_ c1, trivial, c1⟩
        rw [n1, winS_splice hroom (by rw [zeros_length]; omega), h1, hu, splice_end, zeros_length, List.drop_of_length_le (by omega), List.append_nil]
      · right
        refine ⟨e1, ?_, fun keep => ?_⟩
        · unfold stepW at e1 ⊢
          rw [hd] at e1 ⊢
          simp only [Bool.false_eq_true, if_false] at e1 ⊢
          cases hw : (d.write (2 * σ.slots + σ.used) (zeros (σ.log - σ.used))).dead with
          | true => simp only [if_true]; exact hw
          | false => rw [hw] at e1; simp at e1
        · rw [h3, zeros_take]
          exact h.blank _ (by omega)
    | false =>
      left
      simp only [Bool.false_eq_true, if_false]
      refine ⟨trivial, Inv.clean_of h ?_ hc, trivial, hc⟩
      rw [h1]
      congr 1
      rw [hdrop] at hdi
      rw [zeros_of hdi]
      congr 1; omega
theorem openD_free (hf : d.free) (slots log : Nat) : (openD d slots log).2 = 0 ∧ (openD d slots log).1.free := by
  unfold openD
  rw [hf.dead]
  simp only [Bool.false_eq_true, if_false]
  split
  · exact step_free hf _ _
  · exact ⟨rfl, hf⟩

/-! ### a checkpoint -/
def Sp.marked (σ : Sp) : Sp := { σ with gen := σ.gen + 1, from_ := σ.to, used := 0 }
theorem marked_slots (σ : Sp) : σ.marked.slots = σ.slots := rfl
theorem fits_snap (hf : fitsS (σ.slots : Int) σ.snap = true) : σ.snap.ok = true ∧ σ.snap.bytes.length + 1 ≤ σ.slots := by
  unfold fitsS at hf
  rw [Bool.and_eq_true, decide_eq_true_eq] at hf
  exact ⟨hf.1, by omega⟩
theorem to_le (σ : Sp) : σ.to * σ.slots = if σ.from_ = 1 then 0 else σ.slots := by unfold Sp.to; split <;> simp
/-- The slot that is not in use is lost, or stays. -/
theorem Img.lose (h : Img m β σ bo) (hl : x.length = m.length) (hr : readS (winS x (σ.to * σ.slots) σ.slots) = readS (winS m (σ.to * σ.slots) σ.slots) ∨ readS (winS x (σ.to * σ.slots) σ.slots) = none)
    (ho : ∀ j, (j < σ.to * σ.slots ∨ σ.to * σ.slots + σ.slots ≤ j) → x[j]? = m[j]?) : Img x β σ bo := by
  have hroom := h.room
  have hfr : σ.from_ = (pick2 σ.slots σ.log (readS (winS m 0 σ.slots)) (readS (winS m σ.slots σ.slots))).from_ := by rw [← h.base]; exact h.runs.from_
  have hlog : winS x (2 * σ.slots) σ.log = winS m (2 * σ.slots) σ.log := winS_ext fun j hj => ho _ (by rw [to_le]; split <;> omega)
  refine ⟨?_, h.run, h.lens, by rw [hlog]; exact h.log, by rw [hl]; exact hroom, h.slots⟩
  rw [to_le] at hr ho
  by_cases hf : σ.from_ = 1
  · rw [if_pos hf] at hr ho
    have h1 : winS x σ.slots σ.slots = winS m σ.slots σ.slots := winS_ext fun j hj => ho _ (by omega)
    rw [h1]
    rcases hr with hr | hr
    · rw [hr]; exact h.base
    · rw [hr, pick2_lose1 (by rw [← hfr]; exact hf)]; exact h.base
  · rw [if_neg hf] at hr ho
    have h1 : winS x 0 σ.slots = winS m 0 σ.slots := winS_ext fun j hj => ho _ (by omega)
    rw [h1]
    rcases hr with hr | hr
    · rw [hr]; exact h.base
    · rw [hr, pick2_lose (by rw [← hfr]; exact hf)]; exact h.base
/-- The slot that is not in use has the new state. -/
theorem Img.gain (h : Img m β σ bo) (hl : x.length = m.length) (hr : readS (winS x (σ.to * σ.slots) σ.slots) = some σ.snap)
    (ho : ∀ j, (j < σ.to * σ.slots ∨ σ.to * σ.slots + σ.slots ≤ j) → j < 2 * σ.slots → x[j]? = m[j]?) (hs : (scanA (σ.gen + 1) (winS x (2 * σ.slots) σ.log)).1 = []) : Img x σ.marked σ.marked [] := by
  have hroom := h.room
  have hb := h.runs.broken
  rw [h.ok.broken] at hb
  have hfr : σ.from_ = (pick2 σ.slots σ.log (readS (winS m 0 σ.slots)) (readS (winS m σ.slots σ.slots))).from_ := by rw [← h.base]; exact h.runs.from_
  have hgn : σ.gen = (pick2 σ.slots σ.log (readS (winS m 0 σ.slots)) (readS (winS m σ.slots σ.slots))).gen := by rw [← h.base]; exact h.runs.gen
  refine ⟨?_, rfl, by simp, ⟨winS x (2 * σ.slots) σ.log, by simp [recsB]; rfl, by show replayP σ.marked (scanA (σ.gen + 1) _).1 = _; rw [hs]; rfl⟩, by rw [hl]; exact hroom, h.slots⟩
  rw [to_le] at hr ho
  show σ.marked = pick2 σ.slots σ.log (readS (winS x 0 σ.slots)) (readS (winS x σ.slots σ.slots))
  have hm : σ.marked = ⟨σ.slots, σ.log, σ.to, σ.snap.gen, σ.snap.u, σ.snap.pts, 0, false⟩ := by rw [← hb]; rfl
  rw [hm]
  by_cases hf : σ.from_ = 1
  · rw [if_pos hf] at hr ho
    have h1 : winS x σ.slots σ.slots = winS m σ.slots σ.slots := winS_ext fun j hj => ho _ (by omega) (by omega)
    rw [h1, hr, pick2_new1 (by rw [← hfr]; exact hf) _ (by rw [← hgn]; rfl)]
    unfold Sp.to; rw [if_pos hf]; rfl
  · rw [if_neg hf] at hr ho
    have h1 : winS x 0 σ.slots = winS m 0 σ.slots := winS_ext fun j hj => ho _ (by omega) (by omega)
    rw [h1, hr, pick2_new (by rw [← hfr]; exact hf) _ (by rw [← hgn]; rfl)]
    unfold Sp.to; rw [if_neg hf]; rfl
theorem Img.fit (h : Img m β σ bo) (hf : fitsS (σ.slots : Int) σ.snap = true) : σ.to * σ.slots + 1 + σ.snap.bytes.length ≤ m.length ∧ σ.to * σ.slots + σ.slots ≤ 2 * σ.slots ∧ σ.to * σ.slots + σ.slots ≤ m.length := by
  have := (fits_snap hf).2
  have := h.room
  rw [to_le]
  split <;> omega
theorem next_scan (hz : winS m (2 * σ.slots) σ.log = recsB σ.gen bo ++ zeros (σ.log - σ.used)) (h : Img m β σ bo) : (scanA (σ.gen + 1) (winS m (2 * σ.slots) σ.log)).1 = [] := by
  have := scan_torn_next σ.gen bo (recsB σ.gen bo).length (σ.log - σ.used) (by have := h.gens.2; omega) h.lens (Nat.le_refl _)
  unfold torn at this
  rw [List.take_length] at this
  rw [hz]
  unfold zeros
  rw [this]
theorem Img.cut3 (h : Img m β σ bo) (hz : winS m (2 * σ.slots) σ.log = recsB σ.gen bo ++ zeros (σ.log - σ.used)) (hf : fitsS (σ.slots : Int) σ.snap = true) (hx : Cut3 m (σ.to * σ.slots) σ.snap.bytes x) :
    Img x β σ bo ∨ Img x σ.marked σ.marked [] := by
  obtain ⟨f1, f2, f3⟩ := h.fit hf
  obtain ⟨hs, hb⟩ := fits_snap hf
  have hl := hx.len f1
  have ho : ∀ j, (j < σ.to * σ.slots ∨ σ.to * σ.slots + σ.slots ≤ j) → x[j]? = m[j]? := fun j hj => hx.out f1 (by omega)
  rcases cut_read hx hs f3 hb with h1 | h1 | h1
  · exact .inl (h.lose hl (.inl h1) ho)
  · exact .inl (h.lose hl (.inr h1) ho)
  · refine .inr (h.gain hl h1 (fun j hj _ => ho j hj) ?_)
    rw [winS_ext (m := m) fun j hj => ho _ (by omega)]
    exact next_scan hz h
theorem stepW_dead_of {p : Nat} {ys : List UInt8} (h : (stepW d p ys).2 ≠ 0) : (stepW d p ys).1.dead = true := by
  unfold stepW at *
  cases hd : d.dead with
  | true => simp only [if_true]; exact hd
  | false =>
    rw [hd] at h
    simp only [Bool.false_eq_true, if_false] at h ⊢
    cases hw : (d.write p ys).dead with
    | true => simp only [if_true]; exact hw
    | false => rw [hw] at h; simp at h
theorem slotW_dead_of {p : Nat} {b : List UInt8} (h : (slotW d p b).2 ≠ 0) : (slotW d p b).1.dead = true := by
  unfold slotW at *
  split at h
  · rename_i h1; rw [if_pos h1]; exact stepW_dead_of h1
  · rename_i h1
    rw [if_neg h1]
    split at h
    · rename_i h2; rw [if_pos h2]; exact stepW_dead_of h2
    · rename_i h2; rw [if_neg h2]; exact stepW_dead_of h
def Dp.washed (d : Dp) : Dp := { d with lasts := d.now, waits := [] }
theorem stepW_washed (hd : d.dead = false) (p : Nat) (ys : List UInt8) (h : (stepW d p ys).2 = 0) : stepW d.washed p ys = stepW d p ys := by
  have e : ∀ (d : Dp), (d.write p ys).dead = d.called.dead := fun _ => rfl
  have ec : d.washed.called = { d.called with lasts := d.now, waits := [] } := by
    unfold Dp.called Dp.washed
    simp only
    split <;> rfl
  cases hw : (d.write p ys).dead with
  | true => rw [stepW_die hd hw] at h; exact absurd h (by simp)
  | false =>
    have hw2 : (d.washed.write p ys).dead = false := by rw [e, ec]; exact hw
    rw [stepW_go (d := d.washed) hd hw2, stepW_go hd hw]
    congr 1
    have e3 : (d.washed.write p ys).called.stop = (d.write p ys).called.stop ∧ (d.washed.write p ys).called.dead = (d.write p ys).called.dead := by
      have a : (d.washed.write p ys).stop = (d.write p ys).stop := by show d.washed.called.stop = d.called.stop; rw [ec]
      have b : (d.washed.write p ys).dead = (d.write p ys).dead := by show d.washed.called.dead = d.called.dead; rw [ec]
      unfold Dp.called
      rw [a]
      split
      · exact ⟨rfl, rfl⟩
      · exact ⟨a, b⟩
    show Dp.mk _ _ _ _ _ = Dp.mk _ _ _ _ _
    rw [Dp.called_now, Dp.called_now]
    show Dp.mk (splice d.now p ys) (splice d.now p ys) [] (d.washed.write p ys).called.dead (d.washed.write p ys).called.stop = Dp.mk (splice d.now p ys) (splice d.now p ys) [] _ _
    rw [e3.1, e3.2]
theorem slotW_washed (hd : d.dead = false) (p : Nat) (b : List UInt8) (h : (stepW d p [0]).2 = 0) : slotW d.washed p b = slotW d p b := by
  unfold slotW
  rw [stepW_washed hd p [0] h]
/-- What a Crash leaves behind a Checkpoint that was cut. -/
def Cuts (β σ : Sp) (bo : List (List UInt8)) (n : Nat) (m : List UInt8) : Prop :=
  (∃ j σj, n ≤ j ∧ j ≤ bo.length ∧ runB β (bo.take j) = some σj ∧ Img m β σj (bo.take j)) ∨ Img m σ.marked σ.marked []
theorem Inv.mark (h : Inv σ d β bo n) (hd : d.dead = false) (he : markE σ = 0) :
    ((markP σ d).2.2 = 0 ∧ (markP σ d).1 = σ.marked ∧ Inv σ.marked (markP σ d).2.1 σ.marked [] 0) ∨
    ((markP σ d).2.2 = 9 ∧ (markP σ d).2.1.dead = true ∧ ∀ keep : Int, Cuts β σ bo n ((markP σ d).2.1.crash keep).now) := by
  have hroom := h.room
  have hle := h.used_le
  have hu := h.used_len
  have hf : fitsS (σ.slots : Int) σ.snap = true := by
    unfold markE at he
    split at he
    · contradiction
    · split at he
      · contradiction
      · split at he
        · assumption
        · contradiction
  obtain ⟨f1, f2, f3⟩ := h.img.fit hf
  obtain ⟨hs, hb⟩ := fits_snap hf
  have hbr := h.unbroken
  unfold markP
  rw [if_neg (by omega)]
  generalize hp : σ.to * σ.slots = p at *
  by_cases h1 : (stepW d p [0]).2 = 0
  · have hw := slotW_washed hd p σ.snap.bytes h1
    have hcl : d.washed.clean := ⟨rfl, rfl⟩
    rcases slot_cases hcl p σ.snap.bytes f1 with ⟨e1, c1, n1, _⟩ | ⟨e1, hx⟩
    · rw [hw] at e1 c1 n1
      rw [if_neg (by rw [e1]; decide)]
      have n1 : (slotW d p σ.snap.bytes).1.now = splice d.now p (197 :: σ.snap.bytes) := n1
      generalize (slotW d p σ.snap.bytes).1 = d1 at *
      have hlen : d1.now.length = d.now.length := by rw [n1, splice_len _ _ _ (by rw [List.length_cons]; omega)]
      have hr1 : readS (winS d1.now p σ.slots) = some σ.snap := by rw [n1]; exact new_read hs f3 hb
      have ho1 : ∀ j, (j < p ∨ p + σ.slots ≤ j) → d1.now[j]? = d.now[j]? := by
        intro j hj
        rw [n1]
        exact splice_get_out _ _ _ _ (by rw [List.length_cons]; omega) (by rw [List.length_cons]; omega)
      have hlog1 : winS d1.now (2 * σ.slots) σ.log = recsB σ.gen bo ++ zeros (σ.log - σ.used) := by
        rw [winS_ext (m := d.now) fun j hj => ho1 _ (by omega)]; exact h.log
      have key : ∀ k, k ≤ σ.used → Img (splice d1.now (2 * σ.slots) (zeros k)) σ.marked σ.marked [] := by
        intro k hk
        have hsl : 2 * σ.slots + (zeros k).length ≤ d1.now.length := by rw [zeros_length]; omega
        refine h.img.gain (by rw [splice_len _ _ _ hsl]; exact hlen) ?_ ?_ ?_
        · rw [hp, winS_out hsl (.inl (by omega))]; exact hr1
        · intro j hj hj2
          rw [splice_get_out _ _ _ _ hsl (.inl hj2)]; exact ho1 j (by omega)
        · cases k with
          | zero =>
            rw [show zeros 0 = [] from rfl, splice_nil, winS_ext (m := d.now) fun j hj => ho1 _ (by omega)]
            exact next_scan h.log h.img
          | succ k =>
            have := winS_splice (l := d1.now) (p := 2 * σ.slots) (n := σ.log) (o := 0) (ys := zeros (k + 1)) (by omega) (by rw [zeros_length]; omega)
            rw [Nat.add_zero] at this
            rw [this]
            show (scanA (σ.gen + 1) (splice _ 0 (zeros (k + 1)))).1 = []
            unfold splice
            rw [List.take_zero, List.nil_append, scan_zeros _ _ _ (.inr (by omega))]
      rcases step_cases c1 (2 * σ.slots) (zeros σ.used) with ⟨e2, c2, n2, _⟩ | ⟨e2, hx⟩
      · left
        rw [if_neg (by rw [e2]; decide)]
        refine ⟨rfl, rfl, ?_⟩
        have k2 := key σ.used (Nat.le_refl _)
        rw [← n2] at k2
        refine Inv.clean_of k2 ?_ c2
        show winS _ (2 * σ.slots) σ.log = recsB (σ.gen + 1) [] ++ zeros (σ.log - 0)
        rw [n2]
        have := winS_splice (l := d1.now) (p := 2 * σ.slots) (n := σ.log) (o := 0) (ys := zeros σ.used) (by omega) (by rw [zeros_length]; omega)
        rw [Nat.add_zero] at this
        rw [this, hlog1]
        have := splice_end [] (recsB σ.gen bo ++ zeros (σ.log - σ.used)) (zeros σ.used)
        rw [List.nil_append, List.nil_append] at this
        rw [show (0 : Nat) = ([] : List UInt8).length from rfl, this, zeros_length, hu, List.drop_left, zeros_add]
        show _ = [] ++ _
        rw [List.nil_append]
        congr 1
        show _ = σ.log - 0
        omega
      · right
        rw [if_pos (by rw [e2]; decide)]
        refine ⟨rfl, stepW_dead_of (by rw [e2]; decide), fun keep => .inr ?_⟩
        show Img ((stepW d1 (2 * σ.slots) (zeros σ.used)).1.crash keep).now _ _ _
        rw [hx, zeros_take]
        exact key _ (by omega)
    · rw [hw] at e1 hx
      right
      rw [if_pos (by rw [e1]; decide)]
      refine ⟨rfl, slotW_dead_of (by rw [e1]; decide), fun keep => ?_⟩
      have hx := hx keep
      rcases h.img.cut3 h.log hf (by rw [hp]; exact hx) with h2 | h2
      · exact .inl ⟨bo.length, σ, h.nle, Nat.le_refl _, by rw [List.take_length]; exact h.run, by rw [List.take_length]; exact h2⟩
      · exact .inr h2
  · right
    have e1 : slotW d p σ.snap.bytes = stepW d p [0] := by unfold slotW; rw [if_pos h1]
    rw [e1, if_pos h1]
    refine ⟨rfl, stepW_dead_of h1, fun keep => .inl ?_⟩
    obtain ⟨j, σj, j1, j2, j3, j4, j5⟩ := h.crashed keep
    refine ⟨j, σj, j1, j2, j4, ?_⟩
    cases hw : (d.write p [0]).dead with
    | false => rw [stepW_go hd hw] at h1; exact absurd rfl h1
    | true =>
      rw [stepW_die hd hw]
      show Img (crashB d.called.lasts keep.toNat (d.waits ++ [(p, [0])])) β σj (bo.take j)
      rw [Dp.called_lasts, crashB_append', crash_one]
      have j5 : Img (crashB d.lasts keep.toNat d.waits) β σj (bo.take j) := j5
      generalize crashB d.lasts keep.toNat d.waits = y at *
      generalize keep.toNat - sumW d.waits = q at *
      have r1 := h.img.runs
      have r2 := j5.runs
      have es : σj.slots = σ.slots := by rw [r2.slots, r1.slots]
      have ef : σj.from_ = σ.from_ := by rw [r2.from_, r1.from_]
      have et : σj.to * σj.slots = p := by rw [← hp]; unfold Sp.to; rw [es, ef]
      cases q with
      | zero => rw [List.take_zero, splice_nil]; exact j5
      | succ q =>
        have hq : [(0 : UInt8)].take (q + 1) = [0] := by simp
        rw [hq]
        have hry := j5.room
        have hsy : 21 ≤ σ.slots := h.slots
        have hpl : p + [(0 : UInt8)].length ≤ y.length := by
          rw [es] at hry
          show p + 1 ≤ y.length
          omega
        refine j5.lose (splice_len _ _ _ hpl) (.inr ?_) ?_
        · rw [et, es]
          refine readS_zero ?_
          rw [winS_get, if_pos (by omega), splice_get_in _ _ _ _ (by omega) (by omega) (by show p + 0 < p + 1; omega)]
          simp
        · intro i hi
          rw [et, es] at hi
          exact splice_get_out _ _ _ _ hpl (by show i < p ∨ p + 1 ≤ i; omega)
end

end Go.Proofs.Ytanipieeegeheaa
