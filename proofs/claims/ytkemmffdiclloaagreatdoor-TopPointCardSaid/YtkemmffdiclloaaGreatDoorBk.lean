/- Joined for this seat from: XFg. -/
import Derived.Maps.Own
import Derived.WideKeyEntry
import Derived.Test.YtkemmffdiclloaaGreatDoorBd
set_option linter.unusedVariables false
set_option linter.unusedSimpArgs false
namespace Go.Proofs.YtkemmffdiclloaaGreatDoor
open Go.MapKept Go.ChangeMaps Go.ChangeShapes Go.WideShapes
def evZ (z : Int × Int) : Value := .agg #[.int .i64 z.1, .int .i64 z.2]
theorem evZ_inj {y z : Int × Int} (h : evZ y = evZ z) : y = z := by
  unfold evZ at h
  injection h with h
  have h1 := congrArg (fun a => a[0]?) h
  have h2 := congrArg (fun a => a[1]?) h
  simp at h1 h2
  exact Prod.ext h1 h2
/-- A map of counts: its keys are S, its counts from 1 to n. -/
structure SeenE (es : Array MapEntry) (clock : Nat) (S : List (Int × Int)) (n : Nat) : Prop where
  stamped : Stamped es clock
  keys : ∀ x ∈ es.toList, ∃ z c, x.key = evZ z ∧ x.val = .int .i64 c ∧ 1 ≤ c ∧ c ≤ n ∧ z ∈ S
  has : ∀ z ∈ S, ∃ x ∈ es.toList, x.key = evZ z
def Seen (w : World) (b : Nat) (S : List (Int × Int)) (n : Nat) : Prop := ∃ es clock, w.heap[b]? = some (.map es clock) ∧ SeenE es clock S n
theorem Seen.lt {w : World} {b n : Nat} {S : List (Int × Int)} (h : Seen w b S n) : b < w.heap.size := by
  obtain ⟨es, clock, h, _⟩ := h
  exact (Array.getElem?_eq_some_iff.1 h).1
section
variable {P : Program} {t k e : TypeId} {w : World} {b n : Nat} {S : List (Int × Int)}
/-- What z's entry counts; nothing: 0. -/
def CntIs (es : Array MapEntry) (z : Int × Int) (c : Int) : Prop := ((∀ x ∈ es.toList, x.key ≠ evZ z) ∧ c = 0) ∨ ∃ x ∈ es.toList, x.key = evZ z ∧ x.val = .int .i64 c
theorem nodup_key : ∀ {l : List MapEntry}, (l.map (·.key)).Nodup → ∀ x ∈ l, ∀ y ∈ l, x.key = y.key → x = y := by
  intro l
  induction l with
  | nil => intro _ x hx; cases hx
  | cons a l ih =>
    intro h x hx y hy e
    simp only [List.map_cons, List.nodup_cons] at h
    rcases List.mem_cons.1 hx with rfl | gx <;> rcases List.mem_cons.1 hy with rfl | gy
    · rfl
    · have : x.key ∈ l.map (·.key) := List.mem_map.2 ⟨y, gy, e.symm⟩
      exact absurd this h.1
    · have : y.key ∈ l.map (·.key) := List.mem_map.2 ⟨x, gx, e⟩
      exact absurd this h.1
    · exact ih h.2 x gx y gy e
theorem CntIs.one {es : Array MapEntry} {clock : Nat} (F : Stamped es clock) {z : Int × Int} {c d : Int} (h : CntIs es z c) (k : CntIs es z d) : c = d := by
  rcases h with ⟨h1, rfl⟩ | ⟨x, h1, h2, h3⟩ <;> rcases k with ⟨k1, rfl⟩ | ⟨y, k1, k2, k3⟩
  · rfl
  · exact absurd k2 (h1 y k1)
  · exact absurd h2 (k1 x h1)
  · have := nodup_key F.2.2 x h1 y k1 (h2.trans k2.symm)
    subst this
    rw [h3] at k3
    injection k3
theorem seen_keys {k : TypeId} {P : Program} {es : Array MapEntry} {clock : Nat} {S : List (Int × Int)} {n : Nat} (F : SeenE es clock S n) (hk : ∀ z ∈ S, ∃ l, keyOf P k (evZ z) = some l) : ∀ x ∈ es.toList, ∃ l, keyOf P k x.key = some l := fun x hx => by
  obtain ⟨y, c, h1, _, _, _, h2⟩ := F.keys x hx
  obtain ⟨l, hl⟩ := hk y h2
  exact ⟨l, by rw [h1]; exact hl⟩
theorem look_cnt {es : Array MapEntry} {clock : Nat} (K : Maps.Keyed P k) (hk : ∀ x ∈ es.toList, ∃ l, keyOf P k x.key = some l) (hn : (es.toList.map (·.key)).Nodup) (ht : P.underlying t = some (.map k e)) (hz : ∀ u : World, (zeroValue e).run P u = .ok (.int .i64 0) u)
    (z : Int × Int) {kl : Lit} (hkey : keyOf P k (evZ z) = some kl) {c : Int} (hc : CntIs es z c) {W : World} (hb : W.heap[b]? = some (.map es clock)) : (Instr.lookup t (.map (some b)) (evZ z) false).run P W = .ok (.int .i64 c) W := by
  rcases K.find W hkey es.toList hk with ⟨h1, h2⟩ | ⟨j, e0, h1, h2, h3⟩
  · rcases hc with ⟨_, rfl⟩ | ⟨x, g1, g2, _⟩
    · simp [Instr.lookup, run_underlying ht, MapKept.run_getObj_map hb, K.check W _ hkey, h1, hz, Result.andThen]
    · exact absurd g2 (h2 x g1)
  · have hm := List.mem_of_getElem? h2
    rcases hc with ⟨g1, _⟩ | ⟨x, g1, g2, g3⟩
    · exact absurd h3 (g1 e0 hm)
    · have := nodup_key hn x g1 e0 hm (g2.trans h3.symm)
      subst this
      simp [Instr.lookup, run_underlying ht, MapKept.run_getObj_map hb, K.check W _ hkey, h1, g3, Result.andThen]
theorem seen_look {es : Array MapEntry} {clock : Nat} (K : Maps.Keyed P k) (hk : ∀ z ∈ S, ∃ l, keyOf P k (evZ z) = some l) (ht : P.underlying t = some (.map k e)) (hz : ∀ u : World, (zeroValue e).run P u = .ok (.int .i64 0) u) (F : SeenE es clock S n)
    (z : Int × Int) {kl : Lit} (hkey : keyOf P k (evZ z) = some kl) {W : World} (hb : W.heap[b]? = some (.map es clock)) :
    ∃ c : Int, (Instr.lookup t (.map (some b)) (evZ z) false).run P W = .ok (.int .i64 c) W ∧ ((z ∈ S ∧ 1 ≤ c ∧ c ≤ n) ∨ (z ∉ S ∧ c = 0)) ∧ CntIs es z c := by
  rcases K.find W hkey es.toList (seen_keys F hk) with ⟨h1, h2⟩ | ⟨j, e0, h1, h2, h3⟩
  · refine ⟨0, by simp [Instr.lookup, run_underlying ht, MapKept.run_getObj_map hb, K.check W _ hkey, h1, hz, Result.andThen], .inr ⟨fun hm => ?_, rfl⟩, .inl ⟨h2, rfl⟩⟩
    obtain ⟨x, hx, he⟩ := F.has z hm
    exact h2 x hx he
  · obtain ⟨y, c, k1, k2, k3, k4, k5⟩ := F.keys e0 (List.mem_of_getElem? h2)
    have hyz : y = z := evZ_inj (k1.symm.trans h3)
    subst hyz
    exact ⟨c, by simp [Instr.lookup, run_underlying ht, MapKept.run_getObj_map hb, K.check W _ hkey, h1, k2, Result.andThen], .inl ⟨k5, k3, k4⟩, .inr ⟨e0, List.mem_of_getElem? h2, h3, k2⟩⟩
theorem seen_step (K : Maps.Keyed P k) (hk : ∀ z ∈ S, ∃ l, keyOf P k (evZ z) = some l) (ht : P.underlying t = some (.map k e)) (hz : ∀ u : World, (zeroValue e).run P u = .ok (.int .i64 0) u) {es : Array MapEntry} {clock : Nat} (F : SeenE es clock S n)
    (z : Int × Int) {kl : Lit} (hkey : keyOf P k (evZ z) = some kl) (hb : w.heap[b]? = some (.map es clock)) :
    ∃ (c : Int) (st : Nat) (es1 : Array MapEntry) (clock1 : Nat), (Instr.mapEntry t (.map (some b)) (evZ z)).run P w = .ok (.tuple #[.int .i64 c, goInt st]) (setBlock w b (.map es1 clock1)) ∧
      CntIs es z c ∧ (∀ W : World, W.heap[b]? = some (.map es1 clock1) → (Instr.lookup t (.map (some b)) (evZ z) false).run P W = .ok (.int .i64 c) W) ∧
      ∀ (w2 : World), w2.heap[b]? = some (.map es1 clock1) → ∃ es' clock', (Instr.entryStore t (.map (some b)) (goInt st) (.int .i64 (c + 1))).run P w2 = .ok () (setBlock w2 b (.map es' clock')) ∧
        SeenE es' clock' (z :: S) (n + 1) ∧ CntIs es' z (c + 1) := by
  obtain ⟨s1, s2, s3⟩ := F.stamped
  rcases K.find w hkey es.toList (seen_keys F hk) with ⟨h1, h2⟩ | ⟨j, e0, h1, h2, h3⟩
  · refine ⟨0, clock, es.push ⟨evZ z, .int .i64 0, clock⟩, clock + 1, ?_, .inl ⟨h2, rfl⟩, fun W hW => look_cnt K ?_ ?_ ht hz z hkey (.inr ⟨⟨evZ z, .int .i64 0, clock⟩, by simp, rfl, rfl⟩) hW, fun w2 hw2 => ⟨es.push ⟨evZ z, .int .i64 1, clock⟩, clock + 1, ?_, ?_, .inr ⟨⟨evZ z, .int .i64 1, clock⟩, by simp, rfl, rfl⟩⟩⟩
    · simp [Instr.mapEntry, run_underlying ht, MapKept.run_getObj_map hb, K.check w false hkey, h1, hz, MapKept.run_setObj_map _ hb, Result.andThen, setBlock]
    · intro x hx
      simp only [Array.toList_push, List.mem_append, List.mem_singleton] at hx
      rcases hx with hx | rfl
      · exact seen_keys F hk x hx
      · exact ⟨kl, hkey⟩
    · simp only [Array.toList_push, List.map_append, List.map_cons, List.map_nil]
      refine List.nodup_append.2 ⟨s3, by simp, fun a ha c hc e1 => ?_⟩
      simp only [List.mem_singleton] at hc
      obtain ⟨x, hx, rfl⟩ := List.mem_map.1 ha
      exact h2 x hx (e1.trans hc)
    · have hidx : (es.push ⟨evZ z, .int .i64 0, clock⟩).findIdx? (fun e => ((e.born : Nat) : Int) == ((clock : Nat) : Int)) = some es.size := by
        rw [WideElems.findIdx_arr]
        exact WideElems.findIdx_born (l := (es.push ⟨evZ z, .int .i64 0, clock⟩).toList) (j := es.size) (e0 := ⟨evZ z, .int .i64 0, clock⟩) (by
          simp only [Array.toList_push, List.map_append, List.map_cons, List.map_nil]
          refine List.nodup_append.2 ⟨s2, by simp, fun a ha c hc e1 => ?_⟩
          simp only [List.mem_singleton] at hc
          obtain ⟨x, hx, rfl⟩ := List.mem_map.1 ha
          have := s1 x hx
          omega) (by simp)
      have hmod : (es.push ⟨evZ z, .int .i64 0, clock⟩).modify es.size (fun e => { e with val := .int .i64 1 }) = es.push ⟨evZ z, .int .i64 1, clock⟩ := by
        apply Array.ext'
        rw [Array.toList_modify, Array.toList_push, Array.toList_push, ← Array.length_toList, WideElems.modify_last]
      simp [Instr.entryStore, MapKept.run_getObj_map hw2, asInt, asIntOf, goInt, hidx, hmod, MapKept.run_setObj_map _ hw2, Result.andThen, setBlock]
    · refine ⟨⟨?_, ?_, ?_⟩, fun x hx => ?_, fun y hy => ?_⟩
      · intro x hx
        simp only [Array.toList_push, List.mem_append, List.mem_singleton] at hx
        rcases hx with hx | rfl
        · have := s1 x hx; omega
        · exact Nat.lt_succ_self _
      · simp only [Array.toList_push, List.map_append, List.map_cons, List.map_nil]
        refine List.nodup_append.2 ⟨s2, by simp, fun a ha c hc e1 => ?_⟩
        simp only [List.mem_singleton] at hc
        obtain ⟨x, hx, rfl⟩ := List.mem_map.1 ha
        have := s1 x hx
        omega
      · simp only [Array.toList_push, List.map_append, List.map_cons, List.map_nil]
        refine List.nodup_append.2 ⟨s3, by simp, fun a ha c hc e1 => ?_⟩
        simp only [List.mem_singleton] at hc
        obtain ⟨x, hx, rfl⟩ := List.mem_map.1 ha
        exact h2 x hx (e1.trans hc)
      · simp only [Array.toList_push, List.mem_append, List.mem_singleton] at hx
        rcases hx with hx | rfl
        · obtain ⟨y, c, k1, k2, k3, k4, k5⟩ := F.keys x hx
          exact ⟨y, c, k1, k2, k3, by omega, List.mem_cons_of_mem _ k5⟩
        · exact ⟨z, 1, rfl, rfl, by omega, by omega, List.mem_cons_self ..⟩
      · rcases List.mem_cons.1 hy with rfl | hy
        · exact ⟨⟨evZ y, .int .i64 1, clock⟩, by simp, rfl⟩
        · obtain ⟨x, hx, he⟩ := F.has y hy
          exact ⟨x, by simp [hx], he⟩
  · have hj : es[j]? = some e0 := by simpa using h2
    obtain ⟨y, c, k1, k2, k3, k4, k5⟩ := F.keys e0 (List.mem_of_getElem? h2)
    have hyz : y = z := evZ_inj (k1.symm.trans h3)
    subst hyz
    have hsame : es.modify j (fun e => { e with key := evZ y }) = es := by
      apply Array.ext'
      rw [Array.toList_modify, modify_eq_set _ _ _ _ h2]
      have : ({ e0 with key := evZ y } : MapEntry) = e0 := by rw [← h3]
      rw [this]
      exact WideElems.set_self _ _ _ h2
    refine ⟨c, e0.born, es, clock, ?_, .inr ⟨e0, List.mem_of_getElem? h2, h3, k2⟩, fun W hW => look_cnt K (seen_keys F hk) s3 ht hz y hkey (.inr ⟨e0, List.mem_of_getElem? h2, h3, k2⟩) hW, fun w2 hw2 => ⟨es.modify j (fun e' => { e' with val := .int .i64 (c + 1) }), clock, ?_, ?_, .inr ⟨{ e0 with val := .int .i64 (c + 1) }, ?_, h3, rfl⟩⟩⟩
    · simp [Instr.mapEntry, run_underlying ht, MapKept.run_getObj_map hb, K.check w false hkey, h1, hj, h3, k2, K.stays w hkey, hsame, MapKept.run_setObj_map _ hb, Result.andThen, setBlock]
    · have hidx : es.findIdx? (fun e => ((e.born : Nat) : Int) == ((e0.born : Nat) : Int)) = some j := by
        rw [WideElems.findIdx_arr]
        exact WideElems.findIdx_born s2 h2
      simp [Instr.entryStore, MapKept.run_getObj_map hw2, asInt, asIntOf, goInt, hidx, MapKept.run_setObj_map _ hw2, Result.andThen, setBlock]
    · have hl : (es.modify j (fun e' => { e' with val := .int .i64 (c + 1) })).toList = es.toList.set j { e0 with val := .int .i64 (c + 1) } := by
        rw [Array.toList_modify, modify_eq_set _ _ _ _ h2]
      have hin : ∀ x, x ∈ es.toList.set j { e0 with val := .int .i64 (c + 1) } → x ∈ es.toList ∨ x = { e0 with val := .int .i64 (c + 1) } := fun x hx => List.mem_or_eq_of_mem_set hx
      have hb0 : (es.toList.set j { e0 with val := .int .i64 (c + 1) }).map (·.born) = es.toList.map (·.born) := by
        rw [List.map_set]
        exact WideElems.set_self _ _ _ (by simp [h2])
      have hk0 : (es.toList.set j { e0 with val := .int .i64 (c + 1) }).map (·.key) = es.toList.map (·.key) := by
        rw [List.map_set]
        exact WideElems.set_self _ _ _ (by simp [h2])
      refine ⟨⟨?_, ?_, ?_⟩, fun x hx => ?_, fun u hu => ?_⟩
      · intro x hx
        rw [hl] at hx
        rcases hin x hx with hx | rfl
        · exact s1 x hx
        · exact s1 e0 (List.mem_of_getElem? h2)
      · rw [hl, hb0]; exact s2
      · rw [hl, hk0]; exact s3
      · rw [hl] at hx
        rcases hin x hx with hx | rfl
        · obtain ⟨u, d, q1, q2, q3, q4, q5⟩ := F.keys x hx
          exact ⟨u, d, q1, q2, q3, by omega, List.mem_cons_of_mem _ q5⟩
        · exact ⟨y, c + 1, k1, rfl, by omega, by omega, List.mem_cons_self ..⟩
      · have hu : u ∈ S := by
          rcases List.mem_cons.1 hu with rfl | hu
          · exact k5
          · exact hu
        obtain ⟨x, hx, he⟩ := F.has u hu
        have : x.key ∈ (es.modify j (fun e' => { e' with val := .int .i64 (c + 1) })).toList.map (·.key) := by
          rw [hl, hk0]; exact List.mem_map.2 ⟨x, hx, rfl⟩
        obtain ⟨x', hx', e'⟩ := List.mem_map.1 this
        exact ⟨x', hx', e'.trans he⟩
    · rw [Array.toList_modify, modify_eq_set _ _ _ _ h2]
      exact List.mem_set (List.getElem?_eq_some_iff.1 h2).1 _
/-- A count is raised: what the look ahead tells, the entry, the store, the look behind. -/
theorem seen_raise (K : Maps.Keyed P k) (ht : P.underlying t = some (.map k e)) (hz : ∀ u : World, (zeroValue e).run P u = .ok (.int .i64 0) u) {es : Array MapEntry} {clock : Nat} (F : SeenE es clock S n) (hk : ∀ z ∈ S, ∃ l, keyOf P k (evZ z) = some l)
    (z : Int × Int) {kl : Lit} (hkey : keyOf P k (evZ z) = some kl) (hb : w.heap[b]? = some (.map es clock)) :
    ∃ (c : Int) (st : Nat) (es1 : Array MapEntry) (clock1 : Nat), ((z ∈ S ∧ 1 ≤ c ∧ c ≤ n) ∨ (z ∉ S ∧ c = 0)) ∧ (∀ W : World, W.heap[b]? = some (.map es clock) → (Instr.lookup t (.map (some b)) (evZ z) false).run P W = .ok (.int .i64 c) W) ∧
      (Instr.mapEntry t (.map (some b)) (evZ z)).run P w = .ok (.tuple #[.int .i64 c, goInt st]) (setBlock w b (.map es1 clock1)) ∧
      (∀ W : World, W.heap[b]? = some (.map es1 clock1) → (Instr.lookup t (.map (some b)) (evZ z) false).run P W = .ok (.int .i64 c) W) ∧
      ∀ (w2 : World), w2.heap[b]? = some (.map es1 clock1) → ∃ es' clock', (Instr.entryStore t (.map (some b)) (goInt st) (.int .i64 (c + 1))).run P w2 = .ok () (setBlock w2 b (.map es' clock')) ∧
        SeenE es' clock' (z :: S) (n + 1) ∧ ∀ W : World, W.heap[b]? = some (.map es' clock') → (Instr.lookup t (.map (some b)) (evZ z) false).run P W = .ok (.int .i64 (c + 1)) W := by
  obtain ⟨c, st, es1, clock1, h1, h2, hl1, h3⟩ := seen_step K hk ht hz F z hkey hb
  obtain ⟨c', g1, g2, g3⟩ := seen_look K hk ht hz F z hkey hb
  obtain rfl := CntIs.one F.stamped g3 h2
  refine ⟨c', st, es1, clock1, g2, fun W hW => ?_, h1, hl1, fun w2 hw2 => ?_⟩
  · obtain ⟨d, f1, _, f3⟩ := seen_look K hk ht hz F z hkey hW
    obtain rfl := CntIs.one F.stamped f3 h2
    exact f1
  · obtain ⟨es', clock', e1, e2, e3⟩ := h3 w2 hw2
    refine ⟨es', clock', e1, e2, fun W hW => ?_⟩
    obtain ⟨d, f1, _, f3⟩ := seen_look K (fun y hy => by
      rcases List.mem_cons.1 hy with rfl | hy
      · exact ⟨kl, hkey⟩
      · exact hk y hy) ht hz e2 z hkey hW
    obtain rfl := CntIs.one e2.stamped f3 e3
    exact f1
end

end Go.Proofs.YtkemmffdiclloaaGreatDoor
