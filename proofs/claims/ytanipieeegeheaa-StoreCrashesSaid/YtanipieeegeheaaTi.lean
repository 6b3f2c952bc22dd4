/- Joined for this seat from: XStU. -/
import Derived.Deep.RegionHeld3
import Derived.Deep.CutRange
import Derived.Test.YtanipieeegeheaaTh
namespace Go.Proofs.Ytanipieeegeheaa
open Go.RowKit

/-- The last point of a key. -/
def wantL (l : List Pt) (k : Int) : Pt × Bool := l.foldl (fun a p => if p.key = k then (p, true) else a) (⟨0, 0, 0, 0⟩, false)
theorem wantL_step (l : List Pt) (k : Int) (j : Nat) (p : Pt) (h : l[j]? = some p) : wantL (l.take (j + 1)) k = if p.key = k then (p, true) else wantL (l.take j) k := by
  unfold wantL
  rw [List.take_add_one, h, List.foldl_append]
  rfl
theorem wantF_no (a : List Pt) (k : Int) : ∀ (q : Pt × Bool), (∀ p ∈ a, p.key ≠ k) → a.foldl (fun a p => if p.key = k then (p, true) else a) q = q := by
  induction a with
  | nil => intro q _; rfl
  | cons p t ih =>
    intro q h
    rw [List.foldl_cons, if_neg (h p (List.mem_cons_self ..))]
    exact ih q (fun p hp => h p (List.mem_cons_of_mem _ hp))
theorem wantL_is (l : List Pt) (k : Int) (h : Up l) : wantL l k = (pointP l k, hasP l k) := by
  obtain ⟨a, b, rfl, hpos, ha, hb⟩ := part_at l k h
  unfold wantL pointP
  rw [List.foldl_append, wantF_no a k _ (fun p hp => by have := ha p hp; omega), hpos]
  rcases hb with ⟨hh, hb⟩ | ⟨hh, q, t, rfl, hq, ht⟩
  · rw [hh, wantF_no b k _ (fun p hp => by have := hb p hp; omega)]
    rfl
  · rw [hh, List.foldl_cons, if_pos hq, wantF_no t k _ (fun p hp => by have := ht p hp; omega), if_pos rfl, List.getElem?_append_right (Nat.le_refl _), Nat.sub_self]
    rfl
section
variable {w0 w w' : World} {gs gd gw : Nat} {σ : Sp} {D : Dp}
/-- The document's Store beside a disk. -/
structure DuoL (w0 w : World) (gd gw : Nat) (σ : Sp) (d : Dp) : Prop where
  ex : ∃ M R, Live w0 w gd M R d ∧ Ref w M gw σ ∧ ¬ R gw ∧ w0.heap.size ≤ gw
theorem duo_crash (h : Duo w0 w gs gd gw σ D) (keep : Int) (hk1 : -9223372036854775808 ≤ keep) (hk2 : keep ≤ 9223372036854775807) (hlong : D.waits.length ≤ 1000000) :
    Calls Try.prog 16 #[.pointer (some ⟨gd, 0, none⟩), .int .i64 keep] w fun e w' => (∃ v, e = .returned v) ∧ DuoL w0 w' gd gw σ (D.crash keep) := by
  obtain ⟨M, R, N, rn, rf, hN, hl⟩ := h.ex
  refine (dcrash_any rn.st.dk keep hk1 hk2 hlong).mono ?_
  rintro e w1 ⟨he, c1, d1⟩
  refine ⟨he, M, R, rn.live.step c1 d1, rf.gen c1 (fun _ _ h => .inl h) (fun _ _ h => .inl h), fun hr => ?_, hl⟩
  obtain ⟨A, c, st⟩ := rn.st
  exact st.apart gw (.inr hr) hN
theorem duo_open {d D' : Dp} (h : DuoL w0 w gd gw σ d) (slots log : Nat) (hs : 21 ≤ slots) (hr : 2 * slots + log ≤ d.now.length) (hlong : d.waits.length ≤ 1000000) (h1 : openS d slots log = σ) (h2 : openD d slots log = (D', 0)) :
    Calls Try.prog 13 #[.pointer (some ⟨gd, 0, none⟩), .int .i64 (slots : Int), .int .i64 (log : Int)] w fun e w' => ∃ gs, e = .returned (.tuple #[.pointer (some ⟨gs, 0, none⟩), .int .i64 0]) ∧ Duo w0 w' gs gd gw σ D' := by
  obtain ⟨M, R, lv, rf, hR, hl⟩ := h.ex
  have hop := open_any lv.dk slots log hs hr hlong
  rw [h1, h2] at hop
  refine hop.mono ?_
  rintro e w1 ho
  obtain ⟨M1, R1, hw1, ⟨_, gs, he, hg, hst⟩ | ⟨h9, _⟩⟩ := id ho
  · have hlv := lv.went hw1 hst.dk
    refine ⟨gs, he, M1, R1, _, ⟨hlv.chg, hst, fun k hk => ?_⟩, rf.gen hw1.chg (fun _ _ h => h) (fun k hk h => h.elim (hw1.m k hk) (fun h => by omega)), ⟨rf.lt, fun hh => hh.elim rf.far hR⟩, hl⟩
    rcases hk with hk | hk | hk
    · exact hlv.low k (.inl hk)
    · exact hlv.low k (.inr hk)
    · have := lv.chg.size; omega
  · exact absurd h9 (by simp)
theorem Duo.point (h : Duo w0 w gs gd gw σ D) (k : Int) : Calls Try.prog 33 #[.pointer (some ⟨gs, 0, none⟩), .int .i64 k] w fun e w' => e = .returned (.tuple #[(pointP σ.pts k).agg, .bool (hasP σ.pts k)]) ∧ Chg Nil w w' := by
  obtain ⟨M, R, N, rn, rf, hN, hl⟩ := h.ex
  obtain ⟨A, c, st⟩ := rn.st
  exact stPoint_any st k
theorem Duo.same (h : Duo w0 w gs gd gw σ D) (hb : σ.broken = false) : Calls Try.prog 32 #[.pointer (some ⟨gs, 0, none⟩), .pointer (some ⟨gw, 0, none⟩)] w fun e w' => e = .returned (.bool true) ∧ Chg Nil w w' := by
  obtain ⟨M, R, N, rn, rf, hN, hl⟩ := h.ex
  exact same15_any rn rf (rn.st.ok.pok rn.st.dk.ok hb)
/-- Opened anew, when nothing is lost. -/
theorem again_plain {s l : Nat} (g : Gd s l σ D) (keep : Int) (hk : (l : Int) ≤ keep) : ∃ D', Gd s l σ D' ∧ openS (D.crash keep) s l = σ ∧ openD (D.crash keep) s l = (D', 0) ∧ 2 * s + l ≤ (D.crash keep).now.length := by
  obtain ⟨β, bo, n, hi⟩ := g.inv
  have hu := hi.used_le
  rw [g.log] at hu
  have o := hi.whole keep (.inr (by omega))
  have q1 := o.openS
  have q2 := o.res
  have q3 := Gd.of o
  have q4 := o.img.room
  rw [g.slots, g.log] at q1 q2 q3 q4
  exact ⟨_, q3, q1, Prod.ext rfl q2, q4⟩
end

end Go.Proofs.Ytanipieeegeheaa
