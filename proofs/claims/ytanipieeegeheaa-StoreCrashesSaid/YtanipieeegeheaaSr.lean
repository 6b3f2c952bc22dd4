/- Joined for this seat from: XPlainTorn XStR. -/
import Derived.Test.YtanipieeegeheaaSq
namespace Go.Proofs.Ytanipieeegeheaa
/-- A beginning, and zeros. -/
def torn (r : List UInt8) (k Z : Nat) : List UInt8 := r.take k ++ List.replicate Z 0

theorem torn_get (r : List UInt8) (k Z i : Nat) (hk : k ≤ r.length) : (torn r k Z).getD i 0 = if i < k then r.getD i 0 else 0 := by
  unfold torn
  simp only [List.getD_eq_getElem?_getD]
  split
  · next h => rw [List.getElem?_append_left (by rw [List.length_take]; omega), List.getElem?_take, if_pos h]
  · next h =>
    rw [List.getElem?_append_right (by rw [List.length_take]; omega), List.getElem?_replicate]
    split <;> rfl
theorem torn_far (r : List UInt8) (k Z i : Nat) (hk : k ≤ r.length) (hi : k ≤ i) : (torn r k Z)[i]? ≠ some 90 := by
  intro h
  have := torn_get r k Z i hk
  rw [if_neg (by omega), List.getD_eq_getElem?_getD, h] at this
  cases this

theorem unB_mono_from : ∀ (a b : List UInt8) (n m : Nat), a.length = b.length → (∀ i, (a.getD i 0).toNat ≤ (b.getD i 0).toNat) → n ≤ m → a.foldl (fun n c => n * 256 + c.toNat) n ≤ b.foldl (fun n c => n * 256 + c.toNat) m
  | [], [], _, _, _, _, h => h
  | x :: a, y :: b, n, m, hl, hp, h => by
    have h0 := hp 0
    simp at h0
    exact unB_mono_from a b _ _ (by simpa using hl) (fun i => by simpa using hp (i + 1)) (show n * 256 + x.toNat ≤ m * 256 + y.toNat by omega)
  | [], _ :: _, _, _, hl, _, _ => by simp at hl
  | _ :: _, [], _, _, hl, _, _ => by simp at hl
theorem unB_mono (a b : List UInt8) (hl : a.length = b.length) (hp : ∀ i, (a.getD i 0).toNat ≤ (b.getD i 0).toNat) : unB a ≤ unB b := unB_mono_from a b 0 0 hl hp (Nat.le_refl _)

theorem getD_part (l : List UInt8) (d t i : Nat) : ((l.drop d).take t).getD i 0 = if i < t then l.getD (d + i) 0 else 0 := by
  simp only [List.getD_eq_getElem?_getD, List.getElem?_take]
  split
  · rw [List.getElem?_drop]
  · rfl

theorem recsB_cat (gen : Nat) (a b : List (List UInt8)) : recsB gen (a ++ b) = recsB gen a ++ recsB gen b := by simp [recsB]
/-- A record that is not whole is none. -/
theorem oneR_torn (gen : Nat) (b rest : List UInt8) (k Z : Nat) (hg : gen < 18446744073709551616) (hb : b.length ≤ 400000) (hk : k < b.length + 13) : oneR gen (torn (recB gen b ++ rest) k Z) = none := by
  have hl : k ≤ (recB gen b ++ rest).length := by rw [List.length_append, recB_len]; omega
  obtain ⟨h1, h2, h3, h4⟩ := recB_front gen b rest hg (by omega)
  cases ho : oneR gen (torn (recB gen b ++ rest) k Z) with
  | none => rfl
  | some body =>
    exfalso
    unfold oneR at ho
    split at ho; · cases ho
    split at ho; · cases ho
    split at ho; · cases ho
    split at ho; · cases ho
    split at ho; · cases ho
    split at ho; · cases ho
    next hx _ _ _ _ h90 =>
    have h90 : ((torn (recB gen b ++ rest) k Z).drop 12)[unB (((torn (recB gen b ++ rest) k Z).drop 9).take 3)]? = some 90 := Classical.byContradiction h90
    rw [List.getElem?_drop] at h90
    refine torn_far _ k Z _ hl ?_ h90
    rcases Nat.lt_or_ge k 12 with hlt | hge
    · omega
    · have : unB (((torn (recB gen b ++ rest) k Z).drop 9).take 3) = b.length := by
        rw [← h3]
        congr 1
        apply List.ext_getElem?
        intro i
        rw [List.getElem?_take, List.getElem?_take]
        split
        · next hi =>
          rw [List.getElem?_drop, List.getElem?_drop]
          unfold torn
          rw [List.getElem?_append_left (by rw [List.length_take]; omega), List.getElem?_take, if_pos (by omega)]
        · rfl
      omega

theorem torn_split (gen : Nat) (l : List (List UInt8)) (n k Z : Nat) (h1 : (recsB gen (l.take n)).length ≤ k) :
    torn (recsB gen l) k Z = recsB gen (l.take n) ++ torn (recsB gen (l.drop n)) (k - (recsB gen (l.take n)).length) Z := by
  have e : recsB gen l = recsB gen (l.take n) ++ recsB gen (l.drop n) := by
    rw [← recsB_cat, List.take_append_drop]
  unfold torn
  rw [e, List.take_append, List.take_of_length_le (by omega), List.append_assoc]

theorem scan_torn (gen : Nat) (l : List (List UInt8)) (n k Z : Nat) (hg : 1 ≤ gen ∧ gen ≤ 4611686018427387904) (hl : ∀ x ∈ l, x.length ≤ 400000) (h1 : (recsB gen (l.take n)).length ≤ k)
    (h2 : n = l.length ∨ k < (recsB gen (l.take (n + 1))).length) : scanA gen (torn (recsB gen l) k Z) = (l.take n, (recsB gen (l.take n)).length) := by
  unfold scanA
  rw [if_neg (by omega), torn_split gen l n k Z h1, scan_recs gen (l.take n) _ (by omega) (fun x hx => hl x (List.mem_of_mem_take hx))]
  have h0 : oneR gen (torn (recsB gen (l.drop n)) (k - (recsB gen (l.take n)).length) Z) = none := by
    rcases Nat.lt_or_ge n l.length with hlt | hge
    · have hd : l.drop n = l[n] :: l.drop (n + 1) := List.drop_eq_getElem_cons hlt
      have hr : recsB gen (l.drop n) = recB gen l[n] ++ recsB gen (l.drop (n + 1)) := by rw [hd]; rfl
      rw [hr]
      refine oneR_torn gen l[n] _ _ Z (by omega) (hl _ (List.getElem_mem _)) ?_
      have ht : l.take (n + 1) = l.take n ++ [l[n]] := List.take_succ_eq_append_getElem hlt
      rcases h2 with h2 | h2
      · omega
      · rw [ht, recsB_snoc, List.length_append, recB_len] at h2
        omega
    · have hd : l.drop n = [] := List.drop_eq_nil_of_le hge
      rw [hd]
      have ht : torn (recsB gen []) (k - (recsB gen (l.take n)).length) Z = List.replicate Z 0 := by simp [torn, recsB]
      rw [ht]
      unfold oneR
      split
      · rfl
      · rw [if_pos]
        rw [List.getElem?_replicate]
        split <;> simp
  rw [scanR_none h0]
  simp

/-- Of the next generation none. -/
theorem scan_torn_next (gen : Nat) (l : List (List UInt8)) (k Z : Nat) (hg : gen < 18446744073709551615) (hl : ∀ x ∈ l, x.length ≤ 400000) (hk : k ≤ (recsB gen l).length) : scanA (gen + 1) (torn (recsB gen l) k Z) = ([], 0) := by
  have h0 : oneR (gen + 1) (torn (recsB gen l) k Z) = none := by
    cases l with
    | nil =>
      have ht : torn (recsB gen []) k Z = List.replicate Z 0 := by simp [torn, recsB]
      rw [ht]
      unfold oneR
      split
      · rfl
      · rw [if_pos]
        rw [List.getElem?_replicate]
        split <;> simp
    | cons b l =>
      have hr : recsB gen (b :: l) = recB gen b ++ recsB gen l := by simp [recsB]
      obtain ⟨h1, h2, h3, h4⟩ := recB_front gen b (recsB gen l) (by omega) (by have := hl b (by simp); omega)
      rw [hr] at hk ⊢
      have hrl : 13 ≤ (recB gen b ++ recsB gen l).length := by rw [List.length_append, recB_len]; omega
      generalize recB gen b ++ recsB gen l = r at *
      unfold oneR
      split
      · rfl
      · next hlen =>
        split
        · rfl
        · rw [if_pos]
          have hle : unB (((torn r k Z).drop 1).take 8) ≤ unB ((r.drop 1).take 8) := by
            apply unB_mono
            · simp only [List.length_take, List.length_drop]
              omega
            · intro i
              rw [getD_part, getD_part]
              split
              · rw [torn_get r k Z _ hk]
                split
                · exact Nat.le_refl _
                · exact Nat.zero_le _
              · exact Nat.le_refl _
          rw [h2] at hle
          omega
  unfold scanA
  split
  · rfl
  · exact scanR_none h0

end Go.Proofs.Ytanipieeegeheaa
namespace Go.Proofs.Ytanipieeegeheaa
/-! ### lists -/
theorem crashB_append' (ps qs : List (Nat × List UInt8)) : ∀ (l : List UInt8) (k : Nat), crashB l k (ps ++ qs) = crashB (crashB l k ps) (k - sumW ps) qs := by
  induction ps with
  | nil => intro l k; simp [crashB, sumW]
  | cons p r ih =>
    intro l k
    show crashB (splice l p.1 (p.2.take (min k p.2.length))) (k - min k p.2.length) (r ++ qs) = crashB (crashB (splice l p.1 (p.2.take (min k p.2.length))) (k - min k p.2.length) r) (k - sumW (p :: r)) qs
    rw [ih]
    congr 1
    show k - min k p.2.length - sumW r = k - (p.2.length + sumW r)
    omega
theorem zeros_length (n : Nat) : (zeros n).length = n := by simp [zeros]
theorem zeros_take (n k : Nat) : (zeros n).take k = zeros (min k n) := by simp [zeros, List.take_replicate]
theorem zeros_add (a b : Nat) : zeros a ++ zeros b = zeros (a + b) := by simp [zeros, List.replicate_append_replicate]
theorem zeros_of {l : List UInt8} (h : dirty l = false) : l = zeros l.length := by
  unfold dirty at h
  rw [List.any_eq_false] at h
  exact List.eq_replicate_iff.2 ⟨rfl, fun b hb => by have := h b hb; simpa using this⟩
theorem zeros_dirty (n : Nat) : dirty (zeros n) = false := by
  unfold dirty zeros
  rw [List.any_eq_false]
  intro x hx
  rw [List.eq_of_mem_replicate hx]
  decide
theorem oneR_front {gen : Nat} {x : List UInt8} (h : x[0]? ≠ some 165) : oneR gen x = none := by
  unfold oneR
  split
  · rfl
  · first | rfl | rw [if_pos h]
theorem scan_zeros (gen n : Nat) (t : List UInt8) (h : t.length = 0 ∨ 0 < n) : scanA gen (zeros n ++ t) = ([], 0) := by
  apply scanA_stop
  apply oneR_front
  cases n with
  | zero =>
    rcases h with h | h
    · rw [List.eq_nil_of_length_eq_zero h]; simp [zeros]
    · omega
  | succ n => simp [zeros, List.replicate_succ]
/-- A window behind a change inside of it. -/
theorem winS_splice {l : List UInt8} {p n o : Nat} {ys : List UInt8} (hl : p + n ≤ l.length) (h : o + ys.length ≤ n) : winS (splice l (p + o) ys) p n = splice (winS l p n) o ys := by
  apply List.ext_getElem?
  intro j
  rw [winS_get]
  have hw : (winS l p n).length = n := win_len hl
  split
  · rename_i hj
    rcases Nat.lt_or_ge j o with h1 | h1
    · rw [splice_get_out _ _ _ _ (by omega) (.inl (by omega)), splice_get_out _ _ _ _ (by omega) (.inl h1), winS_get, if_pos hj]
    · rcases Nat.lt_or_ge j (o + ys.length) with h2 | h2
      · rw [splice_get_in _ _ _ _ (by omega) (by omega) (by omega), splice_get_in _ _ _ _ (by omega) h1 h2]
        congr 1; omega
      · rw [splice_get_out _ _ _ _ (by omega) (.inr (by omega)), splice_get_out _ _ _ _ (by omega) (.inr h2), winS_get, if_pos hj]
  · rw [List.getElem?_eq_none (by rw [splice_len _ _ _ (by omega)]; omega)]
theorem winS_out {l : List UInt8} {p n o : Nat} {ys : List UInt8} (hl : o + ys.length ≤ l.length) (h : p + n ≤ o ∨ o + ys.length ≤ p) : winS (splice l o ys) p n = winS l p n := by
  apply winS_ext
  intro j hj
  exact splice_get_out _ _ _ _ hl (by omega)
theorem splice_end (a b : List UInt8) (ys : List UInt8) : splice (a ++ b) a.length ys = a ++ (ys ++ b.drop ys.length) := by
  unfold splice
  rw [List.take_left, List.drop_append, List.drop_of_length_le (by omega), List.nil_append, show a.length + ys.length - a.length = ys.length by omega]
theorem splice_get {α : Type} {l : List α} {p : Nat} {ys : List α} (hl : p + ys.length ≤ l.length) (j : Nat) : (splice l p ys)[j]? = if p ≤ j ∧ j < p + ys.length then ys[j - p]? else l[j]? := by
  split
  · exact splice_get_in _ _ _ _ (by omega) (by omega) (by omega)
  · exact splice_get_out _ _ _ _ hl (by omega)
theorem zeros_get (n i : Nat) : (zeros n)[i]? = if i < n then some 0 else none := by simp [zeros, List.getElem?_replicate]
/-- One more record, cut. -/
theorem splice_more {l rec : List UInt8} {s used c sy k : Nat} (hsy : sy ≤ used) (hc : c = min (sy + k) used) (hl : s + used + rec.length ≤ l.length) (hz : ∀ i, used ≤ i → i < used + rec.length → l[s + i]? = some 0) :
    splice (splice l (s + c) (zeros (used - c))) (s + used) (rec.take (k - (used - sy))) = splice (splice l (s + used) rec) (s + min (sy + k) (used + rec.length)) (zeros (used + rec.length - min (sy + k) (used + rec.length))) := by
  have htl : (rec.take (k - (used - sy))).length = min (k - (used - sy)) rec.length := List.length_take
  have h1 : s + c + (zeros (used - c)).length ≤ l.length := by rw [zeros_length]; omega
  have h2 : s + used + (rec.take (k - (used - sy))).length ≤ (splice l (s + c) (zeros (used - c))).length := by rw [splice_len _ _ _ h1, htl]; omega
  have h4 : s + min (sy + k) (used + rec.length) + (zeros (used + rec.length - min (sy + k) (used + rec.length))).length ≤ (splice l (s + used) rec).length := by rw [splice_len _ _ _ hl, zeros_length]; omega
  apply List.ext_getElem?
  intro j
  rw [splice_get h2, splice_get h1, splice_get h4, splice_get hl, zeros_length, zeros_length, htl, zeros_get, zeros_get, List.getElem?_take]
  rcases Nat.lt_or_ge j (s + used) with hj | hj
  · rw [if_neg (by omega), if_neg (c := s + used ≤ j ∧ j < s + used + rec.length) (by omega)]
    by_cases h : s + c ≤ j ∧ j < s + c + (used - c)
    · rw [if_pos h, if_pos (by omega), if_pos (by omega), if_pos (by omega)]
    · rw [if_neg h, if_neg (by omega)]
  · rw [if_neg (c := s + c ≤ j ∧ j < s + c + (used - c)) (by omega)]
    rcases Nat.lt_or_ge j (s + used + rec.length) with hj2 | hj2
    · have h0 := hz (j - s) (by omega) (by omega)
      rw [show s + (j - s) = j by omega] at h0
      by_cases h : j < s + used + (k - (used - sy))
      · rw [if_pos (by omega), if_pos (by omega), if_neg (by omega), if_pos (by omega)]
      · rw [if_neg (by omega), h0, if_pos (by omega), if_pos (by omega)]
    · rw [if_neg (by omega), if_neg (by omega), if_neg (by omega)]
/-- The greatest count of records that end at or ahead of a place. -/
theorem cut_at (g : Nat) (l : List (List UInt8)) (c n : Nat) (hn : n ≤ l.length) (h : (recsB g (l.take n)).length ≤ c) :
    ∃ j, n ≤ j ∧ j ≤ l.length ∧ (recsB g (l.take j)).length ≤ c ∧ (j = l.length ∨ c < (recsB g (l.take (j + 1))).length) := by
  obtain ⟨k, hk⟩ : ∃ k, l.length - n = k := ⟨_, rfl⟩
  induction k generalizing n with
  | zero => exact ⟨n, Nat.le_refl _, hn, h, .inl (by omega)⟩
  | succ k ih =>
    rcases Nat.lt_or_ge c (recsB g (l.take (n + 1))).length with h1 | h1
    · exact ⟨n, Nat.le_refl _, hn, h, .inr h1⟩
    · obtain ⟨j, h2, h3⟩ := ih (n + 1) (by omega) h1 (by omega)
      exact ⟨j, by omega, h3⟩
theorem recs_take_le (g : Nat) (l : List (List UInt8)) (n : Nat) : (recsB g (l.take n)).length ≤ (recsB g l).length := by
  have e : recsB g l = recsB g (l.take n) ++ recsB g (l.drop n) := by rw [← recsB_cat, List.take_append_drop]
  rw [e, List.length_append]; omega

/-! ### at work -/
def synced (σ : Sp) (bo : List (List UInt8)) (n : Nat) : Nat := (recsB σ.gen (bo.take n)).length
/-- A store and its disk: β what the slots have, bo the log's bodies, of which the first n last. -/
structure Inv (σ : Sp) (d : Dp) (β : Sp) (bo : List (List UInt8)) (n : Nat) : Prop where
  base : β = pick2 σ.slots σ.log (readS (winS d.now 0 σ.slots)) (readS (winS d.now σ.slots σ.slots))
  run : runB β bo = some σ
  lens : ∀ b ∈ bo, b.length ≤ 400000
  log : winS d.now (2 * σ.slots) σ.log = recsB σ.gen bo ++ zeros (σ.log - σ.used)
  room : 2 * σ.slots + σ.log ≤ d.now.length
  slots : 21 ≤ σ.slots
  sum : sumW d.waits = σ.used - synced σ bo n
  many : d.waits.length ≤ bo.length
  crash : ∀ k, crashB d.lasts k d.waits = splice d.now (2 * σ.slots + min (synced σ bo n + k) σ.used) (zeros (σ.used - min (synced σ bo n + k) σ.used))
  nle : n ≤ bo.length
section
variable {σ : Sp} {d : Dp} {β : Sp} {bo : List (List UInt8)} {n : Nat}
theorem Inv.img (h : Inv σ d β bo n) : Img d.now β σ bo :=
  ⟨h.base, h.run, h.lens, ⟨_, h.log, by rw [show zeros (σ.log - σ.used) = zeros (σ.log - σ.used) ++ [] by simp, scan_zeros _ _ _ (.inl rfl)]; rfl⟩, h.room, h.slots⟩
theorem Inv.used_len (h : Inv σ d β bo n) : σ.used = (recsB σ.gen bo).length := h.img.used_len
theorem Inv.used_le (h : Inv σ d β bo n) : σ.used ≤ σ.log := h.img.used_le
theorem Inv.sync_le (h : Inv σ d β bo n) : synced σ bo n ≤ σ.used := by rw [h.used_len]; exact recs_take_le _ _ _
theorem Inv.few (h : Inv σ d β bo n) : d.waits.length ≤ d.now.length := by
  have := h.many; have := recsB_many σ.gen bo; have := h.used_len; have := h.used_le; have := h.room; omega
theorem Inv.unbroken (h : Inv σ d β bo n) : σ.broken = false := by rw [h.img.runs.broken, h.img.ok.broken]
/-- The disk of a store at work, cut anywhere. -/
theorem Inv.img_cut (h : Inv σ d β bo n) (c : Nat) (hc1 : synced σ bo n ≤ c) (hc2 : c ≤ σ.used) :
    ∃ j σj, n ≤ j ∧ j ≤ bo.length ∧ (c = σ.used → j = bo.length) ∧ runB β (bo.take j) = some σj ∧ Img (splice d.now (2 * σ.slots + c) (zeros (σ.used - c))) β σj (bo.take j) := by
  have hu := h.used_len
  have hle := h.used_le
  have hroom := h.room
  obtain ⟨j, hj1, hj2, hj3, hj4⟩ := cut_at σ.gen bo c n h.nle hc1
  obtain ⟨σj, hrun⟩ := runB_take h.run j
  have hr := h.img.runs
  have hr2 := runB_runs _ _ _ hrun
  have e1 : σj.slots = σ.slots := by rw [hr2.slots, hr.slots]
  have e2 : σj.log = σ.log := by rw [hr2.log, hr.log]
  have e3 : σj.gen = σ.gen := by rw [hr2.gen, hr.gen]
  have hall : c = σ.used → j = bo.length := by
    intro hcu
    rcases hj4 with h4 | h4
    · exact h4
    · have := recs_take_le σ.gen bo (j + 1); omega
  have hsl : 2 * σ.slots + c + (zeros (σ.used - c)).length ≤ d.now.length := by rw [zeros_length]; omega
  have hlog : winS (splice d.now (2 * σ.slots + c) (zeros (σ.used - c))) (2 * σ.slots) σ.log = torn (recsB σ.gen bo) c (σ.log - c) := by
    rw [winS_splice hroom (by rw [zeros_length]; omega), h.log]
    unfold torn splice
    rw [List.take_append_of_le_length (by omega), zeros_length, List.drop_append_of_le_length (by omega), List.drop_of_length_le (by omega), List.nil_append]
    rw [zeros_add]
    unfold zeros
    congr 2; omega
  refine ⟨j, σj, hj1, hj2, hall, hrun, ?_⟩
  refine ⟨?_, hrun, fun b hb => h.lens b (List.mem_of_mem_take hb), ?_, ?_, by rw [e1]; exact h.slots⟩
  · rw [e1, e2, winS_out hsl (.inl (by omega)), winS_out hsl (.inl (by omega))]; exact h.base
  · rw [e1, e2, e3, hlog, torn_split _ _ j _ _ hj3]
    refine ⟨_, rfl, ?_⟩
    have := scan_torn σ.gen (bo.drop j) 0 (c - (recsB σ.gen (bo.take j)).length) (σ.log - c) h.img.gens (fun x hx => h.lens x (List.mem_of_mem_drop hx)) (by simp [recsB]) (by
      rcases hj4 with h4 | h4
      · left; rw [List.length_drop]; omega
      · rcases Nat.lt_or_ge j bo.length with hlt | hge
        · right
          have ht : bo.take (j + 1) = bo.take j ++ (bo.drop j).take 1 := by rw [List.take_add]
          rw [ht, recsB_cat, List.length_append] at h4
          show c - _ < (recsB σ.gen ((bo.drop j).take 1)).length
          omega
        · left; rw [List.length_drop]; omega)
    rw [this]
    rfl
  · rw [splice_len _ _ _ hsl, e1, e2]; exact hroom
theorem Inv.crashed (h : Inv σ d β bo n) (keep : Int) : ∃ j σj, n ≤ j ∧ j ≤ bo.length ∧ (σ.used ≤ synced σ bo n + keep.toNat → j = bo.length) ∧ runB β (bo.take j) = some σj ∧ Img (d.crash keep).now β σj (bo.take j) := by
  have hs := h.sync_le
  obtain ⟨j, σj, h1, h2, h3, h4, h5⟩ := h.img_cut (min (synced σ bo n + keep.toNat) σ.used) (by omega) (by omega)
  refine ⟨j, σj, h1, h2, fun hk => h3 (by omega), h4, ?_⟩
  show Img (crashB d.lasts keep.toNat d.waits) β σj (bo.take j)
  rw [h.crash]
  exact h5
theorem Inv.clean_of {d : Dp} (h : Img d.now β σ bo) (hz : winS d.now (2 * σ.slots) σ.log = recsB σ.gen bo ++ zeros (σ.log - σ.used)) (hc : d.clean) : Inv σ d β bo bo.length := by
  have hs : synced σ bo bo.length = σ.used := by unfold synced; rw [List.take_length]; exact h.used_len.symm
  refine ⟨h.base, h.run, h.lens, hz, h.room, h.slots, by rw [hs, hc.waits]; simp [sumW], by rw [hc.waits]; exact Nat.zero_le _, fun k => ?_, Nat.le_refl _⟩
  rw [hs, hc.waits, hc.same, Nat.min_eq_right (by omega), Nat.sub_self]
  show d.now = _
  rw [show zeros 0 = [] from rfl, splice_nil]
theorem Inv.apply (h : Inv σ d β bo n) (hd : d.dead = false) (ops : List Oq) (he : applyE σ ops = 0) :
    Inv (applyP σ d ops).1 (applyP σ d ops).2.1 β (bo ++ [batB ops]) n := by
  have hu := h.used_len
  have hle := h.used_le
  have hroom := h.room
  have hsy := h.sync_le
  have hn := h.nle
  unfold applyE at he
  rw [h.unbroken, if_neg (by decide)] at he
  split at he
  · contradiction
  · rename_i hb
    have hb : batE ops = 0 := by omega
    split at he
    · contradiction
    · rename_i hl
      split at he
      · contradiction
      · rename_i hf
        have he2 : applyE σ ops = 0 := by unfold applyE; rw [h.unbroken, if_neg (by decide), if_neg (by omega), if_neg hl, if_neg hf]
        unfold applyP
        rw [if_neg (by omega), if_neg (by rw [hd]; decide)]
        have hbl : (batB ops).length ≤ 400000 := by have := batB_len ops; have := batE_len hb; omega
        have hrl := recB_len σ.gen (batB ops)
        have hcat : recsB σ.gen (bo ++ [batB ops]) = recsB σ.gen bo ++ recB σ.gen (batB ops) := by rw [recsB_cat]; simp [recsB]
        have hsplice : 2 * σ.slots + σ.used + (recB σ.gen (batB ops)).length ≤ d.now.length := by omega
        have htk : (bo ++ [batB ops]).take n = bo.take n := List.take_append_of_le_length hn
        refine ⟨?_, ?_, ?_, ?_, ?_, h.slots, ?_, ?_, ?_, by rw [List.length_append]; omega⟩
        · show β = pick2 σ.slots σ.log (readS (winS (splice d.now (2 * σ.slots + σ.used) (recB σ.gen (batB ops))) 0 σ.slots)) (readS (winS (splice d.now (2 * σ.slots + σ.used) (recB σ.gen (batB ops))) σ.slots σ.slots))
          rw [winS_out hsplice (.inl (by omega)), winS_out hsplice (.inl (by omega))]
          exact h.base
        · rw [runB_app _ _ _ _ h.run]
          have hdo : doneP σ ops (batB ops).length = some { σ with pts := doP σ.pts ops, u := σ.u + 1, used := σ.used + ((batB ops).length + 13) } := by unfold doneP; rw [if_neg hl]
          rw [runB_step (opsD_back ops hb) hdo]
          rfl
        · intro b hbm
          rcases List.mem_append.1 hbm with h1 | h1
          · exact h.lens b h1
          · rw [List.mem_singleton.1 h1]; exact hbl
        · show winS (splice d.now (2 * σ.slots + σ.used) (recB σ.gen (batB ops))) (2 * σ.slots) σ.log = recsB σ.gen (bo ++ [batB ops]) ++ zeros (σ.log - (σ.used + ((batB ops).length + 13)))
          rw [winS_splice hroom (by omega), h.log, hcat, hu, splice_end, List.append_assoc]
          congr 2
          unfold zeros
          rw [List.drop_replicate]
          congr 1; omega
        · show 2 * σ.slots + σ.log ≤ (splice d.now (2 * σ.slots + σ.used) (recB σ.gen (batB ops))).length
          rw [splice_len _ _ _ hsplice]; exact hroom
        · show sumW (d.waits ++ [(2 * σ.slots + σ.used, recB σ.gen (batB ops))]) = σ.used + ((batB ops).length + 13) - (recsB σ.gen ((bo ++ [batB ops]).take n)).length
          rw [htk, sumW_append, h.sum]
          show _ + ((recB σ.gen (batB ops)).length + 0) = _
          unfold synced at *
          omega
        · show (d.waits ++ [_]).length ≤ (bo ++ [batB ops]).length
          rw [List.length_append, List.length_append]
          have := h.many
          simp only [List.length_singleton]; omega
        · intro k
          show crashB d.called.lasts k (d.waits ++ [(2 * σ.slots + σ.used, recB σ.gen (batB ops))]) = splice (splice d.now (2 * σ.slots + σ.used) (recB σ.gen (batB ops))) (2 * σ.slots + min ((recsB σ.gen ((bo ++ [batB ops]).take n)).length + k) (σ.used + ((batB ops).length + 13))) (zeros (σ.used + ((batB ops).length + 13) - min ((recsB σ.gen ((bo ++ [batB ops]).take n)).length + k) (σ.used + ((batB ops).length + 13))))
          rw [htk, Dp.called_lasts, crashB_append', h.crash, h.sum, crash_one]
          have hs2 : (recsB σ.gen (bo.take n)).length = synced σ bo n := rfl
          rw [hs2, ← hrl]
          refine splice_more hsy rfl (by omega) ?_
          intro i hi1 hi2
          have := winS_get d.now (2 * σ.slots) σ.log i
          rw [if_pos (by omega), h.log, List.getElem?_append_right (by omega), zeros_get, if_pos (by omega)] at this
          exact this.symm
theorem Inv.sync (h : Inv σ d β bo n) : Inv σ d.sync β bo bo.length := by
  have hn : d.sync.now = d.now := Dp.sync_now d
  refine Inv.clean_of ?_ (by rw [hn]; exact h.log) (Dp.sync_clean d)
  rw [hn]
  exact h.img
end

end Go.Proofs.Ytanipieeegeheaa
