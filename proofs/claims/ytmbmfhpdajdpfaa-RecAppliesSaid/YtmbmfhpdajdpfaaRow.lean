/- Rows that a conversion of a string has laid: no cell of them is frozen; append onto such a row, of a slice and of so many zeros; string and bytes. -/
import Derived.Test.YtmbmfhpdajdpfaaCut
import Derived.Laws.IdiomStrings
import Derived.Laws.IdiomCopy
namespace Go.Proofs.Ytmbmfhpdajdpfaa
open Go.RowKit

/-- The slice value v, of n elements, owns the cells xs: nil, or the head of a block of which no cell is frozen. -/
def Row (w : World) (e : TypeId) (sz : Nat) (v : Value) (n : Nat) (xs : List Value) : Prop :=
  xs.length = n * sz ∧
  ((v = .slice none 0 0 ∧ n = 0) ∨
   ∃ (g cap : Nat) (cur : List Value) (lo hi : Nat), v = .slice (some ⟨g, 0, none⟩) n cap ∧ w.heap[g]? = some (.cells cur.toArray e (lo, hi)) ∧ (hi ≤ lo ∨ cur.length ≤ lo) ∧ n ≤ cap ∧ cap ≤ maxLen ∧ cur.length = cap * sz ∧ cur.take (n * sz) = xs)

section
variable {w w' : World} {e : TypeId} {sz n : Nat} {v : Value} {xs : List Value}
theorem Row.of_own {base : Nat} (h : w.ownsRow base e sz v n xs) : Row w e sz v n xs := by
  refine ⟨h.1, ?_⟩
  rcases h.2 with h0 | ⟨g, cap, cur, rfl, _, hg, hn, hm, hs, ht⟩
  · exact .inl h0
  · exact .inr ⟨g, cap, cur.toList, 0, 0, rfl, by simpa using hg, .inl (Nat.le_refl _), hn, hm, by simpa using hs, ht⟩
theorem Row.form (h : Row w e sz v n xs) : ∃ A c, v = .slice A n c ∧ n ≤ c ∧ c ≤ maxLen := by
  rcases h.2 with ⟨rfl, rfl⟩ | ⟨g, cap, cur, lo, hi, rfl, _, _, hc, hm, _⟩
  · exact ⟨none, 0, rfl, Nat.le_refl _, Nat.zero_le _⟩
  · exact ⟨_, cap, rfl, hc, hm⟩
theorem Row.keep {S : Nat → Prop} (h : Row w e sz v n xs) (hc : Chg S w w') (hd : ∀ k, Own v k → S k → False) : Row w' e sz v n xs := by
  refine ⟨h.1, ?_⟩
  rcases h.2 with h0 | ⟨g, cap, cur, lo, hi, rfl, hg, rest⟩
  · exact .inl h0
  · exact .inr ⟨g, cap, cur, lo, hi, rfl, hc.block hg (fun hs => hd g rfl hs), rest⟩
theorem Row.lt (h : Row w e sz v n xs) : ∀ k, Own v k → k < w.heap.size := by
  intro k hk
  rcases h.2 with ⟨rfl, _⟩ | ⟨g, cap, cur, lo, hi, rfl, hg, _⟩
  · simp [Own, Value.ownBlock] at hk
  · have := own_at hk
    subst this
    rcases Nat.lt_or_ge k w.heap.size with hlt | hge
    · exact hlt
    · rw [Array.getElem?_eq_none hge] at hg; cases hg
theorem cell_of_list {g lo hi : Nat} {cur : List Value} (hg : w.heap[g]? = some (.cells cur.toArray e (lo, hi))) (j : Nat) : w.cell? ⟨g, j, none⟩ = cur[j]? := by
  rw [cell_of_row w g j cur.toArray e (lo, hi) hg]
  simp
theorem free_of_list {g lo hi : Nat} {cur : List Value} (hg : w.heap[g]? = some (.cells cur.toArray e (lo, hi))) (hf : hi ≤ lo ∨ cur.length ≤ lo) {j : Nat} (hj : j < cur.length) : w.frozen? ⟨g, j, none⟩ = false := by
  unfold World.frozen?
  rw [hg]
  simp
  omega
theorem Row.rds (h : Row w e sz v n xs) : ∃ A c, v = .slice A n c ∧ Rds w (Own v) sz A n xs := by
  rcases h.2 with ⟨rfl, rfl⟩ | ⟨g, cap, cur, lo, hi, rfl, hg, hf, hc, hm, hs, ht⟩
  · have : xs = [] := List.eq_nil_of_length_eq_zero (by simpa using h.1)
    subst this
    exact ⟨none, 0, rfl, Rds.nil⟩
  · refine ⟨_, cap, rfl, h.1, fun hn => ⟨_, rfl, rfl, fun j u hu => ?_⟩⟩
    have hj : w.cell? ⟨g, 0 + j, none⟩ = some u := by
      rw [Nat.zero_add, cell_of_list hg]
      rw [← ht, List.getElem?_take] at hu
      split at hu
      · exact hu
      · cases hu
    unfold Addr.add
    split
    · next h0 => subst h0; exact hj
    · exact hj
theorem Row.rd {A : Option Addr} {c : Nat} (h : Row w e sz (.slice A n c) n xs) : Rds w (Own (.slice A n c)) sz A n xs := by
  obtain ⟨A', c', he, hr⟩ := h.rds
  injection he with h1 h2 h3
  subst h1
  exact hr
/-- The head of it: 's[:m]'. -/
theorem Row.front {A : Option Addr} {c m : Nat} (h : Row w e sz (.slice A n c) n xs) (hm : m ≤ n) : Row w e sz (.slice A m c) m (xs.take (m * sz)) := by
  refine ⟨?_, ?_⟩
  · rw [List.length_take, h.1]
    exact Nat.min_eq_left (Nat.mul_le_mul_right _ hm)
  · rcases h.2 with ⟨he, rfl⟩ | ⟨g, cap, cur, lo, hi, he, hg, hf, hc, hx, hs, ht⟩
    · injection he with h1 _ h3
      subst h1 h3
      have : m = 0 := by omega
      subst this
      exact .inl ⟨rfl, rfl⟩
    · injection he with h1 _ h3
      subst h1 h3
      refine .inr ⟨g, c, cur, lo, hi, rfl, hg, hf, by omega, hx, hs, ?_⟩
      rw [← ht, List.take_take, Nat.min_eq_left (Nat.mul_le_mul_right _ hm)]
end

section
variable {P : Program}
/-- Stores into a row. -/
theorem run_store_row (g o : Nat) (e : TypeId) (lo hi : Nat) : ∀ (vs : List Value) (i : Nat) (cur : List Value) (w : World), w.heap[g]? = some (.cells cur.toArray e (lo, hi)) → (hi ≤ lo ∨ cur.length ≤ lo) → o + i + vs.length ≤ cur.length → (∀ v ∈ vs, v.oneCell' = true) →
    ∃ w', (storeCells ⟨g, o, none⟩ vs i).run P w = .ok () w' ∧ w'.heap[g]? = some (.cells (cur.take (o + i) ++ vs ++ cur.drop (o + i + vs.length)).toArray e (lo, hi)) ∧ Chg (· = g) w w'
  | [], i, cur, w, hg, _, _, _ => ⟨w, rfl, by simpa using hg, Chg.refl _ _⟩
  | v :: r, i, cur, w, hg, hf, hl, h1 => by
    simp only [List.length_cons] at hl
    have hadd : (⟨g, o, none⟩ : Addr).add i = ⟨g, o + i, none⟩ := by unfold Addr.add; split <;> simp_all
    have hc : w.cell? ⟨g, o + i, none⟩ = some (cur[o + i]'(by omega)) := by rw [cell_of_list hg, List.getElem?_eq_getElem (by omega)]
    have hz := free_of_list (j := o + i) hg hf (by omega)
    have hst : (store ((⟨g, o, none⟩ : Addr).add i) v).run P w = .ok () (w.setCell ⟨g, o + i, none⟩ v) := by
      rw [hadd, run_store P w _ v _ (h1 v (by simp))]
      simp [hc, hz]
    have hg1 : (w.setCell ⟨g, o + i, none⟩ v).heap[g]? = some (.cells (cur.set (o + i) v).toArray e (lo, hi)) := by
      simp [World.setCell, Array.getElem?_modify, hg]
    obtain ⟨w', hr, hg', hch⟩ := run_store_row g o e lo hi r (i + 1) (cur.set (o + i) v) _ hg1 (by simpa using hf) (by simp; omega) (fun x hx => h1 x (by simp [hx]))
    refine ⟨w', ?_, ?_, ((Chg.refl (· = g) w).setCell (p := ⟨g, o + i, none⟩) (fun _ => rfl) v).trans hch (fun _ _ h => h)⟩
    · simp only [storeCells, Sem.run_bind, hst, Result.andThen_ok, hr]
    · rw [hg']
      congr 3
      rw [show o + (i + 1) = o + i + 1 by omega, show o + i + 1 + r.length = o + i + (r.length + 1) by omega, List.length_cons]
      rw [List.drop_set_of_lt (by omega), List.take_set, List.take_succ_eq_append_getElem (by omega)]
      rw [List.set_append_right _ _ (by simp; omega)]
      simp [Nat.min_eq_left (show o + i ≤ cur.length by omega)]

/-- What growing leaves. -/
theorem row_grown (w : World) (e : TypeId) (sz : Nat) (z : Value) (hzs : z.cells.size = sz) (v : Value) (n m old : Nat) (xs news : List Value) (hx : xs.length = n * sz) (hl : news.length = m * sz) (h63 : n + m ≤ maxLen) :
    Row (w.drew.alloc (.cells (xs.toArray ++ news.toArray ++ Builtin.zeroCells z.cells (grownCap w (n + m) old e - (n + m))) e)) e sz (.slice (some ⟨w.heap.size, 0, none⟩) (n + m) (grownCap w (n + m) old e)) (n + m) (xs ++ news) ∧
    Grew w v (w.drew.alloc (.cells (xs.toArray ++ news.toArray ++ Builtin.zeroCells z.cells (grownCap w (n + m) old e - (n + m))) e)) (.slice (some ⟨w.heap.size, 0, none⟩) (n + m) (grownCap w (n + m) old e)) := by
  have hge := grownCap_ge w (n + m) old e
  have hcm : grownCap w (n + m) old e ≤ maxLen := grownCap_le_maxLen w (n + m) old e h63
  refine ⟨⟨by rw [List.length_append, hx, hl, Nat.add_mul], .inr ⟨w.heap.size, _, xs ++ news ++ (Builtin.zeroCells z.cells (grownCap w (n + m) old e - (n + m))).toList, 0, 0, rfl, ?_, .inl (Nat.le_refl _), hge, hcm, ?_, ?_⟩⟩, ⟨((Chg.refl _ w).drew).alloc _, fun k hk h => ?_⟩⟩
  · refine (heap_alloc_new w.drew _).trans ?_
    congr 2
    apply Array.ext'
    simp
  · simp only [List.length_append, Array.length_toList, size_zeroCells, hzs, hx, hl, ← Nat.add_mul]
    congr 1
    omega
  · rw [List.append_assoc, ← List.append_assoc, List.take_left']
    rw [List.length_append, hx, hl, Nat.add_mul]
  · have := own_at h
    omega
/-- append within the capacity: what the stores leave. -/
theorem row_room {w : World} {e : TypeId} {sz n m g cap lo hi : Nat} {cur xs news : List Value} (hx : xs.length = n * sz) (hl : news.length = m * sz) (hg : w.heap[g]? = some (.cells cur.toArray e (lo, hi))) (hf : hi ≤ lo ∨ cur.length ≤ lo)
    (hcm : cap ≤ maxLen) (hcs : cur.length = cap * sz) (ht : cur.take (n * sz) = xs) (hroom : n + m ≤ cap) (h1 : ∀ u ∈ news, u.oneCell' = true) :
    ∃ w', (storeCells ((⟨g, 0, none⟩ : Addr).add (n * sz)) news 0).run P w = .ok () w' ∧ Row w' e sz (.slice (some ⟨g, 0, none⟩) (n + m) cap) (n + m) (xs ++ news) ∧ Grew w (.slice (some ⟨g, 0, none⟩) n cap) w' (.slice (some ⟨g, 0, none⟩) (n + m) cap) := by
  have hadd : (⟨g, 0, none⟩ : Addr).add (n * sz) = ⟨g, n * sz, none⟩ := by unfold Addr.add; split <;> simp_all
  have hfit : n * sz + 0 + news.length ≤ cur.length := by rw [hl, hcs, Nat.add_zero, ← Nat.add_mul]; exact Nat.mul_le_mul_right _ hroom
  obtain ⟨w', hr, hg', hch⟩ := run_store_row (P := P) g (n * sz) e lo hi news 0 cur w hg hf hfit h1
  refine ⟨w', by rw [hadd]; exact hr, ⟨by rw [List.length_append, hx, hl, Nat.add_mul], .inr ⟨g, cap, _, lo, hi, rfl, hg', ?_, hroom, hcm, ?_, ?_⟩⟩, ⟨hch.wider (fun k _ hk => by subst hk; rfl), fun k _ hk => hk⟩⟩
  · simp only [List.length_append, List.length_take, List.length_drop]
    omega
  · simp only [List.length_append, List.length_take, List.length_drop]
    omega
  · rw [Nat.add_zero, ht, List.take_left']
    rw [List.length_append, hx, hl, Nat.add_mul]

theorem run_append_row (w : World) (t ty e : TypeId) (i : TypeInfo) (z : Value) (sz bytes : Nat) (ht : P.underlying t = some (.slice e)) (hi : P.info? e = some i) (hz : i.zero = some z)
    (hsize : i.size = sz) (hby : i.bytes = bytes) (hzs : z.cells.size = sz) (hsz : 0 < sz)
    (v : Value) (n : Nat) (xs : List Value) (hown : Row w e sz v n xs) (S : Nat → Prop) (A : Option Addr) (m c : Nat) (news : List Value) (hr : Rds w S sz A m news) (h1 : ∀ u ∈ news, u.oneCell' = true)
    (h63 : n + m ≤ maxLen) (hbytes : (n + m) * bytes ≤ 140737488355328) :
    ∃ v' w', (Builtin.append_ #[t, t] ty #[v, .slice A m c]).run P w = .ok v' w' ∧ Row w' e sz v' (n + m) (xs ++ news) ∧ Grew w v w' v' := by
  subst hsize
  subst hby
  have hsmall : n + m ≤ 9223372036854775807 := by simp only [maxLen] at h63; omega
  rcases Nat.eq_zero_or_pos m with rfl | hm
  · have hn : news = [] := List.eq_nil_of_length_eq_zero (by simpa using hr.1)
    subst hn
    refine ⟨v, w, ?_, by simpa using hown, Grew.refl w v⟩
    rcases hown.2 with ⟨rfl, rfl⟩ | ⟨g, cap, cur, lo, hi', rfl, _, _, hnc, _⟩
    · cases A with
      | none => simp [Builtin.append_, run_underlying ht, sizeOf, typeInfo, hi, Builtin.lenOf, Builtin.firstCells]
      | some ad => simp [Builtin.append_, run_underlying ht, sizeOf, typeInfo, hi, Builtin.lenOf, Builtin.firstCells, loadCells, loadCellsFrom]
    · cases A with
      | none => simp [Builtin.append_, run_underlying ht, sizeOf, typeInfo, hi, Builtin.lenOf, Builtin.firstCells, hnc, storeCells]
      | some ad => simp [Builtin.append_, run_underlying ht, sizeOf, typeInfo, hi, Builtin.lenOf, Builtin.firstCells, hnc, storeCells, loadCells, loadCellsFrom]
  · obtain ⟨ad, rfl, _, hnews⟩ := hr.2 hm
    have hl := hr.1
    rcases hown.2 with ⟨rfl, rfl⟩ | ⟨g, cap, cur, lo, hi', rfl, hg, hf, hnc, hcm, hcs, htake⟩
    · have hx : xs = [] := List.eq_nil_of_length_eq_zero (by simpa using hown.1)
      subst hx
      have hrun := run_append_nil (P := P) w t ty e i z ht hi hz ad m c news hl hnews hm (by omega) (by have hb := hbytes; simp only [Nat.zero_add] at hb; omega)
      have hgr := row_grown w e i.size z hzs (.slice none 0 0) 0 m 0 [] news (by simp) hl h63
      simp only [Nat.zero_add, List.nil_append, Array.empty_append] at hgr ⊢
      exact ⟨_, _, hrun, hgr.1, hgr.2⟩
    · by_cases hroom : n + m ≤ cap
      · obtain ⟨w', hst, h2, h3⟩ := row_room (P := P) hown.1 hl hg hf hcm hcs htake hroom h1
        have hfc := run_firstCells_some (P := P) w i.size m ad m c news hl hnews
        exact ⟨_, w', by simp [Builtin.append_, run_underlying ht, sizeOf, typeInfo, hi, Builtin.lenOf, hroom, hfc, hst], h2, h3⟩
      · have holds : ∀ j u, xs[j]? = some u → w.cell? ((⟨g, 0, none⟩ : Addr).add j) = some u := by
          intro j u hu
          have hj : w.cell? ⟨g, j, none⟩ = some u := by
            rw [cell_of_list hg]
            rw [← htake, List.getElem?_take] at hu
            split at hu
            · exact hu
            · cases hu
          unfold Addr.add
          split
          · next h0 => subst h0; exact hj
          · simpa using hj
        have hrun := run_append_grow (P := P) w t ty e i z ht hi hz ⟨g, 0, none⟩ n cap xs hown.1 holds ad m c news hl hnews (by omega) (by omega) (growslice_fits (by omega) hbytes)
        have hgr := row_grown w e i.size z hzs (.slice (some ⟨g, 0, none⟩) n cap) n m cap xs news hown.1 hl h63
        exact ⟨_, _, hrun, hgr.1, hgr.2⟩

/-- 'append(s, make([]T, m)...)'. -/
theorem run_append_zeros (w : World) (m : Nat) (t u ty e : TypeId) (i : TypeInfo) (z : Value) (sz bytes : Nat) (ht : P.underlying t = some (.slice e)) (hu : P.underlying u = some (.int .i64)) (hi : P.info? e = some i) (hz : i.zero = some z)
    (hsize : i.size = sz) (hby : i.bytes = bytes) (hzs : z.cells.size = sz) (hsz : 0 < sz) (hone : ∀ x ∈ (Builtin.zeroCells z.cells m).toList, x.oneCell' = true)
    (v : Value) (n : Nat) (xs : List Value) (hown : Row w e sz v n xs) (hm : 0 < m) (h63 : n + m ≤ maxLen) (hbytes : (n + m) * bytes ≤ 140737488355328) :
    ∃ v' w', (Builtin.append_ #[t, u] ty #[v, .int .i64 (m : Int)]).run P w = .ok v' w' ∧ Row w' e sz v' (n + m) (xs ++ (Builtin.zeroCells z.cells m).toList) ∧ Grew w v w' v' := by
  subst hsize
  subst hby
  have hsmall : n + m ≤ 9223372036854775807 := by simp only [maxLen] at h63; omega
  have hwr : IntKind.i64.wrap (m : Int) = m := by rw [IntKind.wrap_i64]; omega
  have hneg : ¬ ((m : Int) < 0) := by omega
  have hmb : m * i.bytes ≤ 140737488355328 := Nat.le_trans (Nat.mul_le_mul_right _ (by omega)) hbytes
  have hbig : ¬ (281474976710656 < (m : Int) * (i.bytes : Int)) := by
    have : ((m * i.bytes : Nat) : Int) ≤ 140737488355328 := by omega
    rw [Int.natCast_mul] at this
    omega
  have hms : ¬ (m * i.size = 0) := by have := Nat.mul_pos hm hsz; omega
  have hl : (Builtin.zeroCells z.cells m).toList.length = m * i.size := by rw [Array.length_toList, size_zeroCells, hzs]
  rcases hown.2 with ⟨rfl, rfl⟩ | ⟨g, cap, cur, lo, hi', rfl, hg, hf, hnc, hcm, hcs, htake⟩
  · have hx : xs = [] := List.eq_nil_of_length_eq_zero (by simpa using hown.1)
    subst hx
    have hgr := row_grown w e i.size z hzs (.slice none 0 0) 0 m 0 [] (Builtin.zeroCells z.cells m).toList (by simp) hl h63
    simp only [Nat.zero_add, List.nil_append, Array.empty_append] at hgr ⊢
    refine ⟨_, _, ?_, hgr.1, hgr.2⟩
    have hm0 : ¬ (m = 0) := by omega
    have h63' : ¬ (9223372036854775807 < (m : Int)) := by omega
    have h48 : ¬ (281474976710656 < Builtin.nextslicecap m 0 * i.bytes) := by rw [nextslicecap_zero hm]; omega
    simp [Builtin.append_, run_underlying ht, run_underlying hu, sizeOf, typeInfo, zeroValue, hi, hz, hwr, hneg, hbig, hms, asInt, asIntOf, hm0, h63', h48, Question.forced, run_firstCells_none, newRow, grownCap]
  · by_cases hroom : n + m ≤ cap
    · obtain ⟨w', hst, h2, h3⟩ := row_room (P := P) hown.1 hl hg hf hcm hcs htake hroom hone
      refine ⟨_, w', ?_, h2, h3⟩
      simp [Builtin.append_, run_underlying ht, run_underlying hu, sizeOf, typeInfo, zeroValue, hi, hz, hwr, hneg, hbig, hms, hroom, asInt, asIntOf, hst]
    · have holds : ∀ j u, xs[j]? = some u → w.cell? ((⟨g, 0, none⟩ : Addr).add j) = some u := by
        obtain ⟨A, c, he, hr⟩ := hown.rds
        injection he with h1
        subst h1
        intro j u hu
        rcases Nat.eq_zero_or_pos n with h0 | h0
        · have : xs = [] := List.eq_nil_of_length_eq_zero (by rw [hown.1, h0, Nat.zero_mul])
          subst this
          simp at hu
        · obtain ⟨ad, h2, _, hx⟩ := hr.2 h0
          injection h2 with h2
          subst h2
          exact hx j u hu
      have hgr := row_grown w e i.size z hzs (.slice (some ⟨g, 0, none⟩) n cap) n m cap xs (Builtin.zeroCells z.cells m).toList hown.1 hl h63
      refine ⟨_, _, ?_, hgr.1, hgr.2⟩
      have h63' : ¬ (9223372036854775807 < ((n : Int) + (m : Int))) := by omega
      have h48 : ¬ (281474976710656 < Builtin.nextslicecap (n + m) cap * i.bytes) := by have := growslice_fits (show cap < n + m by omega) hbytes; omega
      have hfo := run_firstCells_some (P := P) w.drew i.size n ⟨g, 0, none⟩ n cap xs hown.1 (by simpa using holds)
      simp [Builtin.append_, run_underlying ht, run_underlying hu, sizeOf, typeInfo, zeroValue, hi, hz, hwr, hneg, hbig, hms, hroom, asInt, asIntOf, h63', h48, Question.forced, hfo, newRow, grownCap]
end
end Go.Proofs.Ytmbmfhpdajdpfaa
