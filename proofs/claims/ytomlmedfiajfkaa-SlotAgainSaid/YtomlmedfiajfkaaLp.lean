/- Joined for this seat from: XSlI. -/
import Derived.Test.YtomlmedfiajfkaaLo
namespace Go.Proofs.Ytomlmedfiajfkaa
open Go.ChangeShapes Go.WideShapes Go.ChangeAt Go.RowKit Go.Deep

theorem Kept.gen {w w' : World} {M M' T : Nat → Prop} {A : Option Addr} {n : Nat} {l : List Pt} (h : Kept w M A n l) (hc : Chg T w w') (ht : ∀ k, k < w.heap.size → T k → M k) (hm : ∀ k, k < w.heap.size → M' k → M k) : Kept w' M' A n l := by
  obtain ⟨S, hr, hs⟩ := h.ex
  exact ⟨S, Rds.keep hr hc (fun k hk hm => (hs k hk).2 (ht k (hs k hk).1 hm)), fun k hk => ⟨Nat.lt_of_lt_of_le (hs k hk).1 hc.size, fun h => (hs k hk).2 (hm k (hs k hk).1 h)⟩⟩
def trip (q : Sn × Value) : List Value := [.int .u64 (q.1.gen : Int), .int .u64 (q.1.u : Int), q.2]
theorem trip_len (qs : List (Sn × Value)) : (qs.flatMap trip).length = qs.length * 3 := by
  induction qs with
  | nil => rfl
  | cons a t ih => simp only [List.flatMap_cons, List.length_append, ih, trip, List.length_cons, List.length_nil]; omega
theorem trip_get (qs : List (Sn × Value)) (m : Nat) (q : Sn × Value) (h : qs[m]? = some q) (j : Nat) (u : Value) (hj : (trip q)[j]? = some u) : (qs.flatMap trip)[m * 3 + j]? = some u := by
  induction qs generalizing m with
  | nil => simp at h
  | cons a t ih =>
    cases m with
    | zero =>
      simp at h; subst h
      rw [List.flatMap_cons, Nat.zero_mul, Nat.zero_add]
      have hlt : j < (trip a).length := by
        rcases Nat.lt_or_ge j (trip a).length with h | h
        · exact h
        · rw [List.getElem?_eq_none h] at hj; cases hj
      rw [List.getElem?_append_left hlt]; exact hj
    | succ m =>
      rw [List.flatMap_cons, List.getElem?_append_right (by simp [trip]; omega)]
      have : (m + 1) * 3 + j - (trip a).length = m * 3 + j := by simp [trip]; omega
      rw [this]
      exact ih m (by simpa using h)
structure SnRow (B : Nat) (w : World) (M : Nat → Prop) (v : Value) (L : List Sn) : Prop where
  ex : ∃ qs : List (Sn × Value), qs.map (·.1) = L ∧ w.ownsRow B 29 3 v L.length (qs.flatMap trip) ∧ ∀ q ∈ qs, ∃ A c, q.2 = .slice A q.1.pts.length c ∧ Kept w (fun k => M k ∨ Own v k) A q.1.pts.length q.1.pts
  far : ∀ k, Own v k → ¬ M k
section
variable {B : Nat} {w w' : World} {M R M' R' T : Nat → Prop} {v : Value} {L : List Sn}
theorem SnRow.gen (h : SnRow B w M v L) (hc : Chg T w w') (ht : ∀ k, k < w.heap.size → T k → M k) (hm : ∀ k, k < w.heap.size → M' k → M k) : SnRow B w' M' v L := by
  obtain ⟨qs, h1, h2, h3⟩ := h.ex
  have hlt : ∀ k, Own v k → k < w.heap.size := own_lt h2
  refine ⟨⟨qs, h1, own_keep h2 hc (fun k hk hk2 => h.far k hk (ht k (hlt k hk) hk2)), fun q hq => ?_⟩, fun k hk hk2 => h.far k hk (hm k (hlt k hk) hk2)⟩
  obtain ⟨A, c, h4, h5⟩ := h3 q hq
  exact ⟨A, c, h4, h5.gen hc (fun k hk hk2 => .inl (ht k hk hk2)) (fun k hk hk2 => hk2.imp (hm k hk) id)⟩
theorem SnRow.nil (h : SnRow B w M v L) (hc : Chg Nil w w') : SnRow B w' M v L := h.gen hc (fun _ _ h => h.elim) (fun _ _ h => h)
theorem SnRow.went (h : SnRow B w M v L) (hw : Went w w' M R M' R') : SnRow B w' M' v L := h.gen hw.chg (fun _ _ h => h) hw.m
theorem SnRow.step (h : SnRow B w M v L) (hc : Chg M w w') : SnRow B w' M v L := h.gen hc (fun _ _ h => h) (fun _ _ h => h)
theorem SnRow.went2 (h : SnRow B w (fun k => M k ∨ R k) v L) (hw : Went w w' M R M' R') : SnRow B w' (fun k => M' k ∨ R' k) v L := h.gen hw.chg (fun _ _ h => .inl h) (fun k hk h => h.imp (hw.m k hk) (hw.r k hk))
theorem SnRow.step2 (h : SnRow B w (fun k => M k ∨ R k) v L) (hc : Chg M w w') : SnRow B w' (fun k => M k ∨ R k) v L := h.gen hc (fun _ _ h => .inl h) (fun _ _ h => h)
theorem Kept.went2 {A : Option Addr} {n : Nat} {l : List Pt} (h : Kept w (fun k => M k ∨ R k) A n l) (hw : Went w w' M R M' R') : Kept w' (fun k => M' k ∨ R' k) A n l := h.gen hw.chg (fun _ _ h => .inl h) (fun k hk h => h.imp (hw.m k hk) (hw.r k hk))
theorem Kept.step2 {A : Option Addr} {n : Nat} {l : List Pt} (h : Kept w (fun k => M k ∨ R k) A n l) (hc : Chg M w w') : Kept w' (fun k => M k ∨ R k) A n l := h.gen hc (fun _ _ h => .inl h) (fun _ _ h => h)
theorem SnRow.snoc (h : SnRow B w M v L) {v' : Value} {s : Sn} {A : Option Addr} {c : Nat} (hk : Kept w (fun k => M k ∨ Own v k) A s.pts.length s.pts) (hM : ∀ k, M k → k < w.heap.size)
    {qs : List (Sn × Value)} (h1 : qs.map (·.1) = L) (h3 : ∀ q ∈ qs, ∃ A c, q.2 = .slice A q.1.pts.length c ∧ Kept w (fun k => M k ∨ Own v k) A q.1.pts.length q.1.pts)
    (o : w'.ownsRow B 29 3 v' (L.length + 1) (qs.flatMap trip ++ trip (s, .slice A s.pts.length c))) (g : Grew w v w' v') : SnRow B w' M v' (L ++ [s]) := by
  refine ⟨⟨qs ++ [(s, .slice A s.pts.length c)], by simp [h1], by simpa using o, fun q hq => ?_⟩, fun k hk hk2 => ?_⟩
  · rcases List.mem_append.1 hq with hq | hq
    · obtain ⟨A', c', h4, h5⟩ := h3 q hq
      exact ⟨A', c', h4, h5.gen g.chg (fun k hk h => .inr h) (fun k hk h => h.imp id (g.lies k hk))⟩
    · simp at hq
      subst hq
      exact ⟨A, c, rfl, hk.gen g.chg (fun k hk h => .inr h) (fun k hk h => h.imp id (g.lies k hk))⟩
  · exact h.far k (g.lies k (hM k hk2) hk) hk2
end
theorem SnRow.at_ {B : Nat} {w : World} {M : Nat → Prop} {A : Option Addr} {n c : Nat} {L : List Sn} (h : SnRow B w M (.slice A n c) L) (hn : L.length = n) {j : Nat} (hj : j < n) :
    ∃ g o A' c' t, A = some ⟨g, o, none⟩ ∧ L[j]? = some t ∧ RdP w (fun _ => True) A' t.pts.length t.pts ∧ w.cell? ⟨g, o + j * 3, none⟩ = some (.int .u64 (t.gen : Int)) ∧ w.cell? ⟨g, o + j * 3 + 1, none⟩ = some (.int .u64 (t.u : Int)) ∧ w.cell? ⟨g, o + j * 3 + 2, none⟩ = some (.slice A' t.pts.length c') := by
  obtain ⟨qs, h1, h2, h3⟩ := h.ex
  subst hn
  obtain ⟨g, o, hA, _, _, hx⟩ := (Rds.of_own h2).plain (by omega) (by omega)
  have hql : qs.length = L.length := by rw [← h1, List.length_map]
  have hq : qs[j]? = some (qs[j]'(by omega)) := List.getElem?_eq_getElem _
  generalize qs[j]'(by omega) = q at hq
  obtain ⟨A', c', h4, h5⟩ := h3 q (List.mem_of_getElem? hq)
  have hc := fun i u hu => hx (j * 3 + i) u (trip_get qs j q hq i u hu)
  refine ⟨g, o, A', c', q.1, hA, by rw [← h1, List.getElem?_map, hq]; rfl, h5.rd, hc 0 _ rfl, ?_, ?_⟩
  · have := hc 1 _ rfl
    rwa [← Nat.add_assoc] at this
  · have := hc 2 _ rfl
    rw [h4, ← Nat.add_assoc] at this
    exact this
theorem Try.infoSnap : (Try.prog.info? 29).map (fun i => (i.zero, i.size, i.bytes)) = some (some (.agg #[.int .u64 0, .int .u64 0, .slice none 0 0]), 3, 40) := by kernel_rfl
theorem trip_one (qs : List (Sn × Value)) (h : ∀ q ∈ qs, ∃ A c, q.2 = .slice A q.1.pts.length c) : ∀ u ∈ qs.flatMap trip, u.oneCell' = true := by
  intro u hu
  obtain ⟨q, hq, hu⟩ := List.mem_flatMap.1 hu
  obtain ⟨A, c, h1⟩ := h q hq
  simp only [trip, h1, List.mem_cons, List.not_mem_nil, or_false] at hu
  rcases hu with rfl | rfl | rfl <;> rfl
/-- One Snap, boxed. -/
theorem rds_trip (w : World) (s : Sn) (v : Value) : Rds (w.alloc (.cells #[.int .u64 (s.gen : Int), .int .u64 (s.u : Int), v] 29)) (fun k => k = w.heap.size) 3 (some ⟨w.heap.size, 0, none⟩) 1 (trip (s, v)) := by
  refine ⟨rfl, fun _ => ⟨_, rfl, rfl, fun j u hu => ?_⟩⟩
  have hb := Bk.new w 29 #[.int .u64 (s.gen : Int), .int .u64 (s.u : Int), v]
  match j, hu with
  | 0, hu => simp only [trip] at hu; simp at hu; subst hu; exact hb.cell 0 rfl
  | 1, hu => simp only [trip] at hu; simp at hu; subst hu; exact hb.cell 1 rfl
  | 2, hu => simp only [trip] at hu; simp at hu; subst hu; exact hb.cell 2 rfl
  | n + 3, hu => simp only [trip] at hu; simp at hu

/-- The cells vs are slices of ops that read the lists. -/
def RdLO (w : World) (S : Nat → Prop) (vs : List Value) (ls : List (List Oq)) : Prop :=
  vs.length = ls.length ∧ ∀ (i : Nat) (l : List Oq), ls[i]? = some l → ∃ A c, vs[i]? = some (Value.slice A l.length c) ∧ RdO w S A l.length l
section
variable {H : Type} {enc : TypeId × Value → H} {w : World} {base : Nat} {spare : Nat → Bool} {held : Bool}
theorem open_opss {fuel : Nat} {v : Value} {x : DataW H × List MemPlace} (h : DataW.trod enc Try.prog w base spare held fuel 47 [v] = some x) :
    ∃ (A : Option Addr) (n c : Nat) (q : List Value × List (List Oq)), v = .slice A n c ∧ n ≤ c ∧ c ≤ maxLen ∧ Rds w (fun k => k < w.heap.size) 1 A n q.1 ∧ RdLO w (fun k => k < w.heap.size) q.1 q.2 := by
  rcases open_slice1 Try.underlying47 (by kernel_rfl) h with ⟨hcs, _⟩ | ⟨a, len, cap, m, n, V, D, Pl, hcs, _, hl, hm, hmm, _, hx⟩
  · injection hcs with hv
    exact ⟨none, 0, 0, ([], []), hv, Nat.le_refl _, Nat.zero_le _, Rds.nil, rfl, fun i l h => by simp at h⟩
  · injection hcs with hv
    have hlm : len ≤ m := by rw [hmm]; split <;> omega
    obtain ⟨B, hB⟩ := choose_lt (α := List Oq) (n := len) (p := fun i b => ∃ A c, V i = .slice A (List.length b) c ∧ RdO w (fun k => k < w.heap.size) A b.length b) (fun i hi => by
      obtain ⟨A, n', c, l, h1, h2, h3, h4, _⟩ := open_ops (hx i (by omega)).2
      obtain rfl := h4.len
      exact ⟨l, A, c, h1, h4⟩)
    refine ⟨some a, len, cap, ((List.range len).map V, (List.range len).map B), hv, hl, hm, ?_, by simp, fun i b hb => ?_⟩
    · have hr : Rds w (fun _ => True) 1 (some a) len ((List.range len).map V) := by
        refine ⟨by simp, fun _ => ⟨a, rfl, trivial, fun j u hu => ?_⟩⟩
        rw [List.getElem?_map] at hu
        rcases Nat.lt_or_ge j len with hj | hj
        · rw [List.getElem?_eq_getElem (by simpa using hj)] at hu
          simp only [List.getElem_range, Option.map_some, Option.some.injEq] at hu
          subst hu
          exact (hx j (by omega)).1
        · rw [List.getElem?_eq_none (by simpa using hj)] at hu; cases hu
      exact (hr.here (by omega)).wider (fun k _ h => h.2) (by omega)
    · rw [List.getElem?_map] at hb
      rcases Nat.lt_or_ge i len with hj | hj
      · rw [List.getElem?_eq_getElem (by simpa using hj)] at hb
        simp only [List.getElem_range, Option.map_some, Option.some.injEq] at hb
        subst hb
        obtain ⟨A, c, h1, h4⟩ := hB i hj
        exact ⟨A, c, by rw [List.getElem?_map, List.getElem?_eq_getElem (by simpa using hj)]; simp [h1], h4⟩
      · rw [List.getElem?_eq_none (by simpa using hj)] at hb; cases hb
end

end Go.Proofs.Ytomlmedfiajfkaa
