/- The contract of the statements' 'text': records of up to eight short bodies one behind the other, and where each ends. -/
import Derived.Test.YtmbmfhpdajdpfaaRef
import Derived.Test.YtmbmfhpdajdpfaaScan
namespace Go.Proofs.Ytmbmfhpdajdpfaa
open Go.RowKit

/-- Records one behind the other. -/
def recsB (gen : Nat) (l : List (List UInt8)) : List UInt8 := (l.map (recB gen)).flatten
theorem recsB_snoc (gen : Nat) (l : List (List UInt8)) (b : List UInt8) : recsB gen (l ++ [b]) = recsB gen l ++ recB gen b := by simp [recsB]
theorem recsB_len (gen : Nat) (l : List (List UInt8)) (h : ∀ b ∈ l, b.length ≤ 200) : (recsB gen l).length ≤ l.length * 213 := by
  induction l with
  | nil => simp [recsB]
  | cons b l ih =>
    have h1 := ih (fun x hx => h x (by simp [hx]))
    have h2 := h b (by simp)
    simp only [recsB, List.map_cons, List.flatten_cons, List.length_append, recB_len, List.length_cons] at h1 ⊢
    omega
/-- Where they end, 0 first. -/
def endsB (gen : Nat) (l : List (List UInt8)) : List Nat := (List.range (l.length + 1)).map fun i => (recsB gen (l.take i)).length
theorem endsB_snoc (gen : Nat) (l : List (List UInt8)) (b : List UInt8) : endsB gen (l ++ [b]) = endsB gen l ++ [(recsB gen (l ++ [b])).length] := by
  unfold endsB
  rw [List.length_append, List.length_singleton, List.range_succ, List.map_append]
  congr 1
  · apply List.map_congr_left
    intro i hi
    rw [List.take_append_of_le_length (by have := List.mem_range.1 hi; omega)]
  · rw [List.map_singleton, List.take_of_length_le (by simp)]
def iv (n : Nat) : Value := .int .i64 (n : Int)

theorem Try.infoInt : (Try.prog.info? 3).map (fun i => (i.zero, i.size, i.bytes)) = some (some (.int .i64 0), 1, 8) := by kernel_rfl

/-- What 'text' answers. -/
def TextIs (B gen : Nat) (l : List (List UInt8)) (e : Ending) (w' : World) : Prop :=
  ((∀ b ∈ l, b.length ≤ 200) → ∃ v, e = .returned (.tuple #[.string ⟨(recsB gen l).toArray⟩, v, .bool true]) ∧ w'.ownsRow B 3 1 v (l.length + 1) ((endsB gen l).map iv)) ∧
  (¬ (∀ b ∈ l, b.length ≤ 200) → e = .returned (.tuple #[.string ⟨#[]⟩, .slice none 0 0, .bool false]))

theorem results_three {fn : Func} {t u v : Tmp} (h : fn.results = #[.tmp t, .tmp u, .tmp v]) (tmps : Array Value) (P : Program) (w : World) :
    (results fn tmps).run P w = .ok (.tuple #[tmps.getD t undef, tmps.getD u undef, tmps.getD v undef]) w := by simp [results, h]

set_option maxHeartbeats 1000000 in
set_option maxRecDepth 100000 in
theorem text_any (gen : Nat) (A : Option Addr) (c n : Nat) (vs : List Value) (bodies : List (List UInt8)) (S : Nat → Prop) (w : World) (hr : Rds w S 1 A n vs) (hrl : RdL w S vs bodies) :
    Calls Try.prog 12 #[.int .u64 gen, .slice A n c] w fun e w' => TextIs w.heap.size gen (bodies.take 8) e w' ∧ Below w.heap.size w w' := by
  obtain ⟨j0, hj, hy0, hy1, hy2⟩ := info_parts Try.infoInt
  have hn : bodies.length = n := by rw [← hrl.1]; exact hr.len
  have o0 : (w.alloc (.cells #[.int .i64 0] 3)).ownsRow w.heap.size 3 1 (.slice (some ⟨w.heap.size, 0, none⟩) 1 1) 1 [.int .i64 0] := World.ownsRow_lit w _ _ (Nat.le_refl _) (by simp [maxLen]) rfl
  have HH := Hid.mk (And.intro (hr.here (by omega)) (And.intro (hrl.wider (T := fun k => S k ∧ k < w.heap.size) (fun k h hs => ⟨hs, h⟩)) (And.intro hn o0)))
  clear hr hrl hn o0
  go_enter Try.func12, Try.ntmps12
  go_wp2_with fail
  go_loopw [7, 8, 9] (fun s en i wr => ∃ k : Nat, k ≤ n ∧ k ≤ 8 ∧ i = .int .i64 k ∧ s = .string ⟨(recsB gen (bodies.take k)).toArray⟩ ∧ (∀ b ∈ bodies.take k, b.length ≤ 200) ∧
      wr.ownsRow w.heap.size 3 1 en (k + 1) ((endsB gen (bodies.take k)).map iv) ∧ Below w.heap.size w wr) (fun _ _ i _ => 8 - (intOf i).toNat)
  case atStart => exact ⟨0, Nat.zero_le _, Nat.zero_le _, rfl, by simp [recsB], by simp, by simpa [endsB, recsB, iv] using HH.out.2.2.2, (Below.refl _ _).alloc (Nat.le_refl _) _⟩
  case round =>
    obtain ⟨k, hk, hk8, rfl, rfl, hshort, hown, hbel⟩ := hrel
    by_cases hlt : k < n ∧ k < 8
    · obtain ⟨h1, h2⟩ := hlt
      have hkb : k < bodies.length := by rw [HH.out.2.2.1]; exact h1
      obtain ⟨Ak, ck, hv, _, _, hrb⟩ := HH.out.2.1.2 k bodies[k] (List.getElem?_eq_getElem hkb)
      obtain ⟨g, off, hA, hS, hgl, hx⟩ := HH.out.1.plain (by omega) (by omega)
      subst hA
      have hcell : wr.cell? ⟨g, off + k, none⟩ = some (.slice Ak bodies[k].length ck) := (hbel.cell (p := ⟨g, off + k, none⟩) hgl).trans (hx k _ hv)
      have htk : bodies.take (k + 1) = bodies.take k ++ [bodies[k]] := List.take_succ_eq_append_getElem hkb
      have hRl : (recsB gen (bodies.take k)).length ≤ 8 * 213 := Nat.le_trans (recsB_len gen _ hshort) (Nat.mul_le_mul_right _ (by rw [List.length_take]; omega))
      have hrb' : RdB wr (fun k => S k ∧ k < w.heap.size) Ak bodies[k].length bodies[k] := hrb.below hbel (fun k h => h.2)
      have hmem : bodies[k] ∈ bodies.take 8 := List.mem_take_iff_getElem.2 ⟨k, by omega, rfl⟩
      generalize hb : bodies[k] = b at *
      clear hx
      by_cases h200 : b.length ≤ 200
      · have hconv := run_bytes_str (P := Try.prog) (c := ck) hrb' 30 9 5 Try.underlying30 Try.underlying5 Try.underlying9
        have hR : recsB gen (bodies.take (k + 1)) = recsB gen (bodies.take k) ++ recB gen b := by rw [htk, recsB_snoc]
        have hE : endsB gen (bodies.take (k + 1)) = endsB gen (bodies.take k) ++ [(recsB gen (bodies.take (k + 1))).length] := by rw [htk, endsB_snoc]
        have hrl : (recB gen b).length ≤ 213 := by rw [recB_len]; omega
        have hsh : ∀ x ∈ bodies.take (k + 1), x.length ≤ 200 := by
          rw [htk]
          intro x hx
          rcases List.mem_append.1 hx with h | h
          · exact hshort x h
          · have : x = b := by simpa using h
            subst this
            exact h200
        have hrec := record_any gen b wr (by omega)
        have hsum : (⟨(recsB gen (bodies.take k)).toArray⟩ : ByteArray) ++ ⟨(recB gen b).toArray⟩ = ⟨(recsB gen (bodies.take (k + 1))).toArray⟩ := by rw [ByteArray.mk_append_mk, hR]
        have hRE : (recsB gen (bodies.take (k + 1))).length = (recsB gen (bodies.take k)).length + (recB gen b).length := by rw [hR, List.length_append]
        generalize hR1 : recsB gen (bodies.take (k + 1)) = R1 at *
        have HR1 := Hid.mk hR1
        clear hR1
        generalize recsB gen (bodies.take k) = R at *
        generalize recB gen b = rb at *
        have H1 := Hid.mk (And.intro hown (And.intro hbel (And.intro hsum (And.intro hRE (And.intro hsh hE)))))
        have hadd : ∀ W : World, (Op.stringOp .add ⟨R.toArray⟩ ⟨rb.toArray⟩).run Try.prog W = .ok (.string ⟨R1.toArray⟩) W := fun W => by
          rw [run_string_add_sum W _ _ (by simp [ByteArray.size]; omega), hsum]
        have HR := Hid.mk hrec
        clear hown hbel hsum hRE hsh hE hrec hR htk hshort hrb hrb' hb hv hmem
        go_wp2_with fail
        refine (Calls.mono HR.out ?_)
        rintro e w1 ⟨rfl, b1⟩
        have B1 := Hid.mk b1
        clear b1
        go_wp2_with (at_builtin; refine wpl_append rfl (.tmp 36) (.tmp 39) 24 rfl w.heap.size 3 j0 _ 1 8 Try.underlying24 hj hy0 hy1 hy2 rfl (by omega) _ (k + 1) _ rfl ((own_keep H1.out.1 (Chg.of_below' B1.out) (fun _ _ h => h)).alloc _) _ _ 1 1 _ rfl (rds_one _ _ _) (by intro u hu; simp at hu; subst hu; rfl) (by simp only [maxLen]; omega) (by omega) (by have := H1.out.2.1.size; have := B1.out.size; simp; omega) ?_; intro v2 w2 o2 g2; have H2 := Hid.mk (And.intro o2 g2); clear o2 g2)
        go_roundw
        case rel =>
          refine ⟨k + 1, by omega, by omega, by go_num, by rw [HR1.out], H1.out.2.2.2.2.1, ?_, ?_⟩
          · have h := H2.out.1
            rw [H1.out.2.2.2.2.2, List.map_append]
            exact h
          · exact H2.out.2.alloc_left.chg.below (H1.out.2.1.trans (B1.out.mono H1.out.2.1.size)) (by have := H1.out.2.1.size; have := B1.out.size; omega) (fun i _ hi => own_ge H1.out.1 i hi)
        case measure => simp [intOf]; omega
      · have H1 := Hid.mk (And.intro hbel hmem)
        clear hown hbel htk hshort hrb hrb' hb hv hmem hRl
        go_wp2_with fail
        refine bodyPost_ret (results_three rfl _ _ _) rfl ⟨⟨fun h => absurd (h b H1.out.2) (by omega), fun _ => rfl⟩, H1.out.1⟩
    · have hk8' : bodies.take 8 = bodies.take k := by
        have := HH.out.2.2.1
        rcases Nat.lt_or_ge k 8 with h | h
        · rw [List.take_of_length_le (by omega), List.take_of_length_le (by omega)]
        · rw [show k = 8 by omega]
      have hl8 : (bodies.take k).length = k := by rw [List.length_take, HH.out.2.2.1]; omega
      have H1 := Hid.mk (And.intro hk8' (And.intro hl8 (And.intro hshort (And.intro hown hbel))))
      clear hk8' hl8 hshort hown hbel
      go_wp2_with fail
      all_goals
        refine bodyPost_ret (results_three rfl _ _ _) rfl ⟨⟨fun _ => ⟨u8, ?_, ?_⟩, fun h => absurd ?_ h⟩, H1.out.2.2.2.2⟩
        · rw [H1.out.1]
          rfl
        · rw [H1.out.1, H1.out.2.1]
          exact H1.out.2.2.2.1
        · rw [H1.out.1]
          exact H1.out.2.2.1
end Go.Proofs.Ytmbmfhpdajdpfaa
