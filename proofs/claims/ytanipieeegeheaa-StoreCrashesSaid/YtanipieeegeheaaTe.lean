/- Joined for this seat from: XStL. -/
import Derived.Test.YtanipieeegeheaaTd
namespace Go.Proofs.Ytanipieeegeheaa
open Go.ChangeShapes Go.WideShapes Go.ChangeAt Go.RowKit Go.Deep

theorem StAt.grow {w w' : World} {gs gd : Nat} {M R N T : Nat → Prop} {A : Option Addr} {c : Nat} {σ : Sp} {d : Dp} (h : StAt w gs gd M R N A c σ d) (hc : Chg T w w') (ht : ∀ k, k < w.heap.size → T k → N k) :
    StAt w' gs gd M R (fun k => N k ∨ (w.heap.size ≤ k ∧ k < w'.heap.size)) A c σ d :=
  { bk := (h.other hc ht).bk, dk := (h.other hc ht).dk, far := ⟨h.far.1, h.far.2.1, fun hk => hk.elim h.far.2.2 (fun hk => by have := h.bk.lt; omega)⟩,
    apart := fun k hk hn => hn.elim (h.apart k hk) (fun hn => by have := h.dk.lt k hk; omega),
    kept := by
      obtain ⟨S, hr, hs⟩ := h.kept.ex
      exact ⟨S, Rds.keep hr hc (fun k hk hh => (hs k hk).2 (.inr (.inr (ht k (hs k hk).1 hh)))), fun k hk => ⟨Nat.lt_of_lt_of_le (hs k hk).1 hc.size, fun hh => (hs k hk).2 (hh.imp id (fun h2 => h2.imp id (fun h3 => h3.elim id (fun h4 => by have := (hs k hk).1; omega))))⟩⟩,
    nlt := fun k hk => hk.elim (fun h2 => Nat.lt_of_lt_of_le (h.nlt k h2) hc.size) (fun h2 => h2.2), ok := h.ok }
theorem Run.grow {w0 w w' : World} {gs gd : Nat} {M R N T : Nat → Prop} {σ : Sp} {d : Dp} (h : Run w0 w gs gd M R N σ d) (hc : Chg T w w') (ht : ∀ k, k < w.heap.size → T k → N k) (hl : ∀ k, T k → w0.heap.size ≤ k) : Run w0 w' gs gd M R (fun k => N k ∨ (w.heap.size ≤ k ∧ k < w'.heap.size)) σ d := by
  obtain ⟨A, c, hs⟩ := h.st
  exact ⟨h.chg.trans hc (fun i hi hm => by have := hl i hm; omega), ⟨A, c, hs.grow hc ht⟩, h.low⟩
/-- A row of the call's own beside a store. -/
structure Beside (w0 w : World) (gs gd : Nat) (M R : Nat → Prop) (σ : Sp) (d : Dp) (T : TypeId) (sz : Nat) (v : Value) (n : Nat) (xs : List Value) : Prop where
  run : ∃ N, Run w0 w gs gd M R N σ d ∧ ∀ k, Own v k → N k
  row : w.ownsRow w0.heap.size T sz v n xs
section
variable {w0 w w' w2 : World} {gs gd : Nat} {M R : Nat → Prop} {σ : Sp} {d : Dp} {T : TypeId} {sz n n' : Nat} {v v' : Value} {xs xs' : List Value}
theorem Beside.nil (h : Beside w0 w gs gd M R σ d T sz v n xs) (hc : Chg Nil w w') : Beside w0 w' gs gd M R σ d T sz v n xs := by
  obtain ⟨N, hr, hn⟩ := h.run
  exact ⟨⟨N, hr.nil hc, hn⟩, own_keep h.row hc (fun _ _ h => h)⟩
theorem Beside.empty {N : Nat → Prop} (h : Run w0 w gs gd M R N σ d) : Beside w0 w gs gd M R σ d T sz (.slice none 0 0) 0 [] :=
  ⟨⟨N, h, fun k hk => by simp [Own, Value.ownBlock] at hk⟩, World.ownsRow_nil _ _ _ _⟩
theorem Beside.append (h : Beside w0 w gs gd M R σ d T sz v n xs) (hg : Grew w v w' v') (hr : w'.ownsRow w0.heap.size T sz v' n' xs') : Beside w0 w' gs gd M R σ d T sz v' n' xs' := by
  obtain ⟨N, hr0, hn⟩ := h.run
  refine ⟨⟨_, hr0.grow hg.chg (fun k _ hk => hn k hk) (fun k hk => own_ge h.row k hk), fun k hk => ?_⟩, hr⟩
  rcases Nat.lt_or_ge k w.heap.size with hlt | hge
  · exact .inl (hn k (hg.lies k hlt hk))
  · exact .inr ⟨hge, own_lt hr k hk⟩
end
theorem applyE_zero {σ : Sp} {ops : List Oq} (h1 : σ.broken = false) (h2 : batE ops = 0) (h3 : (doP σ.pts ops).length ≤ 2000) (h4 : σ.used + ((batB ops).length + 13) ≤ σ.log) (h5 : σ.u < 4611686018427387904) : applyE σ ops = 0 := by
  unfold applyE
  rw [h1, if_neg (by decide), if_neg (by omega), if_neg (by omega), if_neg (by omega)]
theorem applyP_zero {σ : Sp} {d : Dp} {ops : List Oq} (h : applyE σ ops = 0) (hd : d.dead = false) : applyP σ d ops = ({ σ with pts := doP σ.pts ops, u := σ.u + 1, used := σ.used + ((batB ops).length + 13) }, d.write (2 * σ.slots + σ.used) (recB σ.gen (batB ops)), 0) := by
  unfold applyP
  rw [if_neg (by omega), if_neg (by rw [hd]; decide)]
structure Aq where
  kind : Int
  stop : Int
  opn : Int
  keep : Int
  ops : List Oq
def Aq.cs (a : Aq) (v : Value) : List Value := [.int .i64 a.kind, .int .i64 a.stop, .int .i64 a.opn, .int .i64 a.keep, v]
def Aq.fit (a : Aq) : Prop := i64fit a.kind ∧ i64fit a.stop ∧ i64fit a.opn ∧ i64fit a.keep
def actC (q : Aq × Value) : List Value := q.1.cs q.2
theorem acts_len (qs : List (Aq × Value)) : (qs.flatMap actC).length = qs.length * 5 := by
  induction qs with
  | nil => rfl
  | cons a t ih => simp only [List.flatMap_cons, List.length_append, ih, actC, Aq.cs, List.length_cons, List.length_nil]; omega
theorem acts_get (qs : List (Aq × Value)) (m : Nat) (q : Aq × Value) (h : qs[m]? = some q) (j : Nat) (u : Value) (hj : (actC q)[j]? = some u) : (qs.flatMap actC)[m * 5 + j]? = some u := by
  induction qs generalizing m with
  | nil => simp at h
  | cons a t ih =>
    cases m with
    | zero =>
      simp at h; subst h
      rw [List.flatMap_cons, Nat.zero_mul, Nat.zero_add]
      have hlt : j < (actC a).length := by
        rcases Nat.lt_or_ge j (actC a).length with h | h
        · exact h
        · rw [List.getElem?_eq_none h] at hj; cases hj
      rw [List.getElem?_append_left hlt]; exact hj
    | succ m =>
      rw [List.flatMap_cons, List.getElem?_append_right (by simp [actC, Aq.cs]; omega)]
      have : (m + 1) * 5 + j - (actC a).length = m * 5 + j := by simp [actC, Aq.cs]; omega
      rw [this]
      exact ih m (by simpa using h)
/-- What an act's cells say. -/
def ActAt (w : World) (S : Nat → Prop) (q : Aq × Value) : Prop := q.1.fit ∧ ∃ B c, q.2 = .slice B q.1.ops.length c ∧ q.1.ops.length ≤ c ∧ c ≤ maxLen ∧ RdO w S B q.1.ops.length q.1.ops
structure RdActs (w : World) (S : Nat → Prop) (A : Option Addr) (n : Nat) (qs : List (Aq × Value)) : Prop where
  row : Rds w S 5 A n (qs.flatMap actC)
  each : ∀ q ∈ qs, ActAt w S q
section
variable {w w' : World} {S T : Nat → Prop} {A : Option Addr} {n : Nat} {qs : List (Aq × Value)}
theorem RdActs.len (h : RdActs w S A n qs) : qs.length = n := by have := h.row.1; rw [acts_len] at this; omega
theorem RdActs.keep (h : RdActs w S A n qs) (hc : Chg T w w') (ht : ∀ k, S k → ¬ T k) : RdActs w' S A n qs :=
  ⟨Rds.keep h.row hc ht, fun q hq => by
    obtain ⟨h1, B, c, h2, h3, h4, h5⟩ := h.each q hq
    exact ⟨h1, B, c, h2, h3, h4, Rds.keep h5 hc ht⟩⟩
/-- One act of the row. -/
theorem RdActs.at_ (h : RdActs w S A n qs) {j : Nat} (hj : j < n) :
    ∃ g o kd st op kp ops B c, A = some ⟨g, o, none⟩ ∧ S g ∧ qs[j]? = some (⟨kd, st, op, kp, ops⟩, .slice B ops.length c) ∧ Aq.fit ⟨kd, st, op, kp, ops⟩ ∧ ops.length ≤ c ∧ c ≤ maxLen ∧ RdO w S B ops.length ops ∧
      w.cell? ⟨g, o + j * 5, none⟩ = some (.int .i64 kd) ∧ w.cell? ⟨g, o + j * 5 + 1, none⟩ = some (.int .i64 st) ∧ w.cell? ⟨g, o + j * 5 + 2, none⟩ = some (.int .i64 op) ∧ w.cell? ⟨g, o + j * 5 + 3, none⟩ = some (.int .i64 kp) ∧ w.cell? ⟨g, o + j * 5 + 4, none⟩ = some (.slice B ops.length c) := by
  obtain ⟨g, o, hA, hS, _, hx⟩ := h.row.plain (by omega) (by omega)
  have hl := h.len
  have hq : qs[j]? = some (qs[j]'(by omega)) := List.getElem?_eq_getElem _
  generalize qs[j]'(by omega) = q at hq
  obtain ⟨h1, B, c, h2, h3, h4, h5⟩ := h.each q (List.mem_of_getElem? hq)
  have hc := fun i u hu => hx (j * 5 + i) u (acts_get qs j q hq i u hu)
  obtain ⟨⟨kd, st, op, kp, ops⟩, v⟩ := q
  simp only at h2 h3 h4 h5
  subst h2
  exact ⟨g, o, kd, st, op, kp, ops, B, c, hA, hS, hq, h1, h3, h4, h5, hc 0 _ rfl, hc 1 _ rfl, hc 2 _ rfl, hc 3 _ rfl, hc 4 _ rfl⟩
end
section
variable {H : Type} {enc : TypeId × Value → H} {w : World} {base : Nat} {spare : Nat → Bool} {held : Bool}
set_option maxRecDepth 100000 in
theorem Try.actFields : ∃ f0 f1 f2 f3 f4 : Field, Try.prog.underlying 56 = some (.struct #[f0, f1, f2, f3, f4]) ∧ f0.offset = 0 ∧ f1.offset = 1 ∧ f2.offset = 2 ∧ f3.offset = 3 ∧ f4.offset = 4 ∧
    f0.type = 3 ∧ f1.type = 3 ∧ f2.type = 3 ∧ f3.type = 3 ∧ f4.type = 28 := ⟨_, _, _, _, _, Try.underlying56, rfl, rfl, rfl, rfl, rfl, rfl, rfl, rfl, rfl, rfl⟩
set_option maxRecDepth 100000 in
theorem open_act {fuel : Nat} {cs : List Value} {x : DataW H × List MemPlace} (h : DataW.trod enc Try.prog w base spare held fuel 56 cs = some x) : ∃ q : Aq × Value, cs = actC q ∧ ActAt w (fun k => k < w.heap.size) q := by
  obtain ⟨f0, f1, f2, f3, f4, hs, o0, o1, o2, o3, o4, t0, t1, t2, t3, t4⟩ := Try.actFields
  have hC : Try.prog.cellsOf 56 = 5 := by kernel_rfl
  have hI : Try.prog.cellsOf 3 = 1 := by kernel_rfl
  have hP : Try.prog.cellsOf 28 = 1 := by kernel_rfl
  obtain ⟨xs, n, _, hx, hlen, hxl, hf⟩ := DataW.trod_struct hs h
  rw [hC] at hlen
  match cs, hlen with
  | [a, b, c, d, e], _ =>
    match xs, hxl with
    | [y0, y1, y2, y3, y4], _ =>
      have g0 := hf 0 f0 rfl
      have g1 := hf 1 f1 rfl
      have g2 := hf 2 f2 rfl
      have g3 := hf 3 f3 rfl
      have g4 := hf 4 f4 rfl
      rw [o0, t0, hI] at g0
      rw [o1, t1, hI] at g1
      rw [o2, t2, hI] at g2
      rw [o3, t3, hI] at g3
      rw [o4, t4, hP] at g4
      obtain ⟨z0, e0, _, w0⟩ := DataW.trod_int (x := y0) Try.underlying3 g0
      obtain ⟨z1, e1, _, w1⟩ := DataW.trod_int (x := y1) Try.underlying3 g1
      obtain ⟨z2, e2, _, w2⟩ := DataW.trod_int (x := y2) Try.underlying3 g2
      obtain ⟨z3, e3, _, w3⟩ := DataW.trod_int (x := y3) Try.underlying3 g3
      have g4' : DataW.trod enc Try.prog w base spare held _ 28 [e] = some y4 := g4
      obtain ⟨A, n', k, l, h1, h2, h3, h4, _⟩ := open_ops g4'
      obtain rfl := h4.len
      simp at e0 e1 e2 e3
      subst e0 e1 e2 e3 h1
      exact ⟨(⟨z0, z1, z2, z3, l⟩, .slice A l.length k), rfl, ⟨bounds_i64 w0, bounds_i64 w1, bounds_i64 w2, bounds_i64 w3⟩, A, k, rfl, h2, h3, h4⟩
set_option maxRecDepth 100000 in
theorem open_acts {fuel : Nat} {v : Value} {x : DataW H × List MemPlace} (h : DataW.trod enc Try.prog w base spare held fuel 53 [v] = some x) :
    ∃ (A : Option Addr) (n c : Nat) (l : List (Aq × Value)), v = .slice A n c ∧ n ≤ c ∧ c ≤ maxLen ∧ RdActs w (fun k => k < w.heap.size) A n l := by
  have hC : Try.prog.cellsOf 56 = 5 := by kernel_rfl
  rcases open_slice Try.underlying53 h with ⟨hcs, _⟩ | ⟨a, len, cap, m, n, D, Pl, hcs, _, hl, hm, hmm, _, hi⟩
  · injection hcs with hv
    exact ⟨none, 0, 0, [], hv, Nat.le_refl _, Nat.zero_le _, ⟨Rds.nil, fun o ho => absurd ho (List.not_mem_nil)⟩⟩
  · injection hcs with hv
    have hlm : len ≤ m := by rw [hmm]; split <;> omega
    obtain ⟨l, hll, hp⟩ := choose_upto (n := len) (p := fun i o => w.cells? base (a.add (i * 5)) 5 = some (actC o) ∧ ActAt w (fun k => k < w.heap.size) o) (fun i hil => by
      obtain ⟨cs', hc, ht⟩ := hi i (by omega)
      rw [hC] at hc
      obtain ⟨o, ho, hfo⟩ := open_act ht
      exact ⟨o, by rw [← ho]; exact hc, hfo⟩)
    refine ⟨some a, len, cap, l, hv, hl, hm, ?_, fun o ho => ?_⟩
    · have hr : Rds w (fun _ => True) 5 (some a) len (l.flatMap actC) := by
        refine ⟨by rw [acts_len, hll], fun _ => ⟨a, rfl, trivial, fun j u hu => ?_⟩⟩
        have hj : j < l.length * 5 := by
          rw [← acts_len]
          rcases Nat.lt_or_ge j (l.flatMap actC).length with h1 | h1
          · exact h1
          · rw [List.getElem?_eq_none h1] at hu; cases hu
        have hq : l[j / 5]? = some (l[j / 5]'(by omega)) := List.getElem?_eq_getElem (by omega)
        obtain ⟨hc, _⟩ := hp _ _ hq
        obtain ⟨_, _, hat⟩ := World.cells?_some hc
        have hjm : j % 5 < 5 := Nat.mod_lt _ (by omega)
        have h2 := hat (j % 5) hjm
        have hcs : (actC (l[j / 5]'(by omega)))[j % 5]? = some ((actC (l[j / 5]'(by omega)))[j % 5]'(by show j % 5 < 5; omega)) := List.getElem?_eq_getElem _
        have h3 := acts_get l (j / 5) _ hq (j % 5) _ hcs
        rw [show j / 5 * 5 + j % 5 = j by omega] at h3
        rw [h3] at hu
        have hu' := Option.some.inj hu
        rw [show j = j / 5 * 5 + j % 5 by omega, ← Go.Deep.add_add, h2, hcs, hu']
      exact (hr.here (by omega)).wider (fun k _ h => h.2) (by omega)
    · obtain ⟨i, hlt, he⟩ := List.mem_iff_getElem.1 ho
      exact (hp i o (by rw [List.getElem?_eq_getElem hlt, he])).2
end

end Go.Proofs.Ytanipieeegeheaa
