/- Joined for this seat from: XStJ. -/
import Derived.Test.YtanipieeegeheaaTb
namespace Go.Proofs.Ytanipieeegeheaa
open Go.RowKit

/-- A store and its disk, of the call's own, from w0 on. -/
structure Run (w0 w : World) (gs gd : Nat) (M R N : Nat → Prop) (σ : Sp) (d : Dp) : Prop where
  chg : Chg Nil w0 w
  st : St w gs gd M R N σ d
  low : ∀ k, M k ∨ R k ∨ k = gs → w0.heap.size ≤ k
section
variable {w0 w w' : World} {gs gd : Nat} {M R M' R' N T : Nat → Prop} {σ σ' : Sp} {d d' : Dp}
theorem St.nil (h : St w gs gd M R N σ d) (hc : Chg Nil w w') : St w' gs gd M R N σ d := by obtain ⟨A, c, h⟩ := h; exact ⟨A, c, h.nil hc⟩
theorem St.dk (h : St w gs gd M R N σ d) : Dk w gd M R d := by obtain ⟨A, c, h⟩ := h; exact h.dk
theorem St.ok (h : St w gs gd M R N σ d) : Sok σ d := by obtain ⟨A, c, h⟩ := h; exact h.ok
theorem Run.nil (h : Run w0 w gs gd M R N σ d) (hc : Chg Nil w w') : Run w0 w' gs gd M R N σ d := ⟨h.chg.trans hc (fun _ _ h => h), h.st.nil hc, h.low⟩
theorem Run.wentS (h : Run w0 w gs gd M R N σ d) (hw : WentS w w' gs M R M' R') (hs : St w' gs gd M' R' N σ' d') : Run w0 w' gs gd M' R' N σ' d' :=
  ⟨h.chg.trans hw.chg (fun i hi hm => hm.elim (fun hm => by have := h.low i (.inl hm); omega) (fun hm => by have := h.low i (.inr (.inr hm)); omega)), hs, fun k hk => by
    rcases Nat.lt_or_ge k w.heap.size with hlt | hge
    · rcases hk with hk | hk | hk
      · exact h.low k (.inl (hw.m k hlt hk))
      · exact h.low k (.inr (.inl (hw.r k hlt hk)))
      · exact h.low k (.inr (.inr hk))
    · have := h.chg.size; omega⟩
theorem Run.live (h : Run w0 w gs gd M R N σ d) : Live w0 w gd M R d := ⟨h.chg, h.st.dk, fun k hk => h.low k (hk.imp id .inl)⟩
/-- A row of the call's own, laid behind the store's last step, may change. -/
theorem StAt.more {A : Option Addr} {c : Nat} (h : StAt w gs gd M R N A c σ d) (hc : Chg Nil w w') : StAt w' gs gd M R (fun k => N k ∨ (w.heap.size ≤ k ∧ k < w'.heap.size)) A c σ d :=
  { bk := h.bk.keep hc (fun h => h), dk := h.dk.keep_nil hc, far := ⟨h.far.1, h.far.2.1, fun hk => hk.elim h.far.2.2 (fun hk => by have := h.bk.lt; omega)⟩,
    apart := fun k hk hn => hn.elim (h.apart k hk) (fun hn => by have := h.dk.lt k hk; omega),
    kept := by
      obtain ⟨S, hr, hs⟩ := h.kept.ex
      exact ⟨S, Rds.keep hr hc (fun _ _ h => h), fun k hk => ⟨Nat.lt_of_lt_of_le (hs k hk).1 hc.size, fun hh => (hs k hk).2 (hh.imp id (fun h2 => h2.imp id (fun h3 => h3.elim id (fun h4 => by have := (hs k hk).1; omega))))⟩⟩,
    nlt := fun k hk => hk.elim (fun h2 => Nat.lt_of_lt_of_le (h.nlt k h2) hc.size) (fun h2 => h2.2), ok := h.ok }
theorem Run.more (h : Run w0 w gs gd M R N σ d) (hc : Chg Nil w w') : Run w0 w' gs gd M R (fun k => N k ∨ (w.heap.size ≤ k ∧ k < w'.heap.size)) σ d := by
  obtain ⟨A, c, hs⟩ := h.st
  exact ⟨h.chg.trans hc (fun _ _ h => h), ⟨A, c, hs.more hc⟩, h.low⟩
/-- Blocks of others change. -/
theorem Run.other (h : Run w0 w gs gd M R N σ d) (hc : Chg T w w') (ht : ∀ k, k < w.heap.size → T k → N k) (hl : ∀ k, T k → w0.heap.size ≤ k) : Run w0 w' gs gd M R N σ d := by
  obtain ⟨A, c, hs⟩ := h.st
  exact ⟨h.chg.trans hc (fun i hi hm => by have := hl i hm; omega), ⟨A, c, hs.other hc ht⟩, h.low⟩
/-- What Open leaves. -/
theorem Live.opened {r : Dp × Int} {e : Ending} (h : Live w0 w gd M R d) (ho : OpenIs w gd M R r σ e w') :
    (r.2 = 0 ∧ ∃ gs M' R', e = .returned (.tuple #[.pointer (some ⟨gs, 0, none⟩), .int .i64 0]) ∧ Run w0 w' gs gd M' R' (fun k => k < w.heap.size ∧ ¬ (M k ∨ R k)) σ r.1) ∨
    (r.2 = 9 ∧ ∃ M' R', e = .returned (.tuple #[.pointer none, .int .i64 9]) ∧ Live w0 w' gd M' R' r.1) := by
  obtain ⟨M', R', hw, ⟨h1, gs, he, hg, hs⟩ | ⟨h1, he, hd⟩⟩ := ho
  · have hl := h.went hw hs.dk
    refine .inl ⟨h1, gs, M', R', he, hl.chg, hs, fun k hk => ?_⟩
    rcases hk with hk | hk | hk
    · exact hl.low k (.inl hk)
    · exact hl.low k (.inr hk)
    · have := h.chg.size; omega
  · exact .inr ⟨h1, M', R', he, h.went hw hd⟩
end
theorem new_img {n slots log : Nat} (hn : n ≤ 1000000) (h1 : 21 ≤ slots) (h2 : 2 * slots + log ≤ n) : Img (Dp.new n).now (freshS slots log) (freshS slots log) [] := by
  have hl : (Dp.new n).now.length = n := new_len hn
  have hz : winS (Dp.new n).now (2 * slots) log = zeros log := by
    have hnn : newN n = n := by unfold newN; omega
    show ((List.replicate (newN n) (0 : UInt8)).drop (2 * slots)).take log = _
    rw [List.drop_replicate, List.take_replicate]
    unfold zeros
    congr 1; omega
  refine ⟨?_, rfl, by simp, ⟨zeros log, ?_, ?_⟩, by show 2 * slots + log ≤ _; rw [hl]; exact h2, h1⟩
  · show freshS slots log = pick2 slots log (readS (winS (Dp.new n).now 0 slots)) (readS (winS (Dp.new n).now slots slots))
    rw [new_none hn (by omega) (by omega), new_none hn (by omega) (by omega)]
    rfl
  · show winS (Dp.new n).now (2 * slots) log = _
    rw [hz]; simp [recsB]
  · have := scan_zeros 1 log [] (.inl rfl)
    rw [List.append_nil] at this
    show replayP (freshS slots log) (scanA 1 (zeros log)).1 = _
    rw [this]; rfl
/-- What opens on a disk that is clean and lives. -/
structure Opened (d : Dp) (β σ : Sp) (bo : List (List UInt8)) : Prop where
  openS : openS d σ.slots σ.log = σ
  res : (openD d σ.slots σ.log).2 = 0
  inv : Inv σ (openD d σ.slots σ.log).1 β bo bo.length
  free : (openD d σ.slots σ.log).1.free
  clean : (openD d σ.slots σ.log).1.clean
  img : Img d.now β σ bo
theorem opened_free {d : Dp} {β σ : Sp} {bo : List (List UInt8)} (hc : d.clean) (hf : d.free) (h : Img d.now β σ bo) : Opened d β σ bo := by
  rcases open_img hc h with ⟨h1, h2, _, h3⟩ | ⟨h1, _⟩
  · exact ⟨h.opens, h1, h2, (openD_free hf _ _).2, h3, h⟩
  · have := (openD_free hf σ.slots σ.log).1; omega
theorem opened_new {n slots log : Nat} (hn : n ≤ 1000000) (h1 : 21 ≤ slots) (h2 : 2 * slots + log ≤ n) : Opened (Dp.new n) (freshS slots log) (freshS slots log) [] :=
  opened_free (Dp.clean_new n) (Dp.free_new n) (new_img hn h1 h2)
theorem opened_crash {d : Dp} {keep : Int} {β σ : Sp} {bo : List (List UInt8)} (h : Img (d.crash keep).now β σ bo) : Opened (d.crash keep) β σ bo :=
  opened_free (Dp.clean_crash d keep) (Dp.free_crash d keep) h

end Go.Proofs.Ytanipieeegeheaa
