/- The contract of rec.put: it appends a point's sixteen bytes to a row of the call's own. -/
import Derived.Test.YtmbmfhpdajdpfaaOps
namespace Go.Proofs.Ytmbmfhpdajdpfaa
open Go.RowKit

/-- What uint64 makes of an integer. -/
def un (n : Int) : Nat := (n % 18446744073709551616).toNat
theorem un_lt (n : Int) : un n < 18446744073709551616 := by unfold un; omega
theorem un_val (n : Int) : Value.int .u64 (IntKind.u64.wrap n) = .int .u64 (un n : Nat) := by
  rw [IntKind.wrap_u64]
  unfold un
  congr 1
  omega
def Pt.is (p : Pt) : List Int := [p.key, p.x, p.y, p.v]
def numsB (l : List Int) : List UInt8 := l.flatMap fun n => numB (un n) 4
def Pt.bytes (p : Pt) : List UInt8 := numsB p.is

set_option maxHeartbeats 1000000 in
set_option maxRecDepth 100000 in
theorem put_any (base : Nat) (v : Value) (n : Nat) (xs : List Value) (p : Pt) (w : World) (hn : n ≤ 900000)
    (hown : w.ownsRow base 5 1 v n xs) (hb : base ≤ w.heap.size) :
    Calls Try.prog 42 #[v, .agg p.cs.toArray] w fun e w' => ∃ v', e = .returned v' ∧ w'.ownsRow base 5 1 v' (n + 16) (xs ++ p.bytes.map bv) ∧ Grew w v w' v' := by
  have hlt := own_lt hown
  have hcs : p.cs = p.is.map fun n => Value.int .i64 n := rfl
  have hbt : p.bytes = numsB p.is := rfl
  rw [hcs, hbt]
  have hlen : p.is.length = 4 := rfl
  generalize hl : p.is = l at *
  have hsp : ∃ a b c d, l = [a, b, c, d] := ⟨p.key, p.x, p.y, p.v, hl.symm⟩
  obtain ⟨k, x, y, z, rfl⟩ := hsp
  clear hl hcs hbt
  have H0 := Hid.mk (And.intro hown (And.intro hb hlt))
  clear hown hb hlt
  simp only [List.map_cons, List.map_nil]
  go_enter Try.func42, Try.ntmps42
  go_wp2_with fail
  obtain ⟨w1, hw1⟩ : ∃ w1, w1 = (w.alloc (.cells #[.int .i64 k, .int .i64 x, .int .i64 y, .int .i64 z] 44)).alloc (.cells #[.int .i64 k, .int .i64 x, .int .i64 y, .int .i64 z] 2) := ⟨_, rfl⟩
  rw [← hw1]
  have F : Hid (w1.ownsRow base 5 1 v n xs ∧ w1.heap.size = w.heap.size + 2 ∧ Grew w v w1 v ∧ Bk w1 (w.heap.size + 1) 2 #[.int .i64 k, .int .i64 x, .int .i64 y, .int .i64 z]) := by
    subst hw1
    refine Hid.mk ⟨(H0.out.1.alloc _).alloc _, by simp, ⟨((Chg.refl _ _).alloc _).alloc _, fun _ _ h => h⟩, ?_⟩
    have := Bk.new (w.alloc (.cells #[.int .i64 k, .int .i64 x, .int .i64 y, .int .i64 z] 44)) 2 #[.int .i64 k, .int .i64 x, .int .i64 y, .int .i64 z]
    simpa using this
  clear hw1
  go_loopw [0, 17] (fun vv i wr => ∃ m : Nat, m ≤ 4 ∧ i = .int .i64 m ∧ Hid (wr.ownsRow base 5 1 vv (n + 4 * m) (xs ++ (numsB (([k, x, y, z] : List Int).take m)).map bv) ∧ Grew w1 v wr vv)) (fun _ i _ => 4 - (intOf i).toNat)
  case atStart => exact ⟨0, Nat.zero_le _, rfl, Hid.mk ⟨by simpa [numsB] using F.out.1, Grew.refl _ _⟩⟩
  case round =>
    obtain ⟨m, hm, rfl, HR⟩ := hrel
    have hB : Bk wr (w.heap.size + 1) 2 #[.int .i64 k, .int .i64 x, .int .i64 y, .int .i64 z] := F.out.2.2.2.keep HR.out.2.chg (fun h => by have := H0.out.2.2 _ h; omega)
    by_cases hm4 : m < 4
    · have hg : ∃ g, wr.cell? ⟨w.heap.size + 1, m, none⟩ = some (.int .i64 g) ∧ numsB (([k, x, y, z] : List Int).take (m + 1)) = numsB (([k, x, y, z] : List Int).take m) ++ numB (un g) 4 := by
        have hm' : m = 0 ∨ m = 1 ∨ m = 2 ∨ m = 3 := by omega
        rcases hm' with rfl | rfl | rfl | rfl
        · exact ⟨k, hB.cell 0 rfl, by simp [numsB]⟩
        · exact ⟨x, hB.cell 1 rfl, by simp [numsB]⟩
        · exact ⟨y, hB.cell 2 rfl, by simp [numsB]⟩
        · exact ⟨z, hB.cell 3 rfl, by simp [numsB]⟩
      obtain ⟨g, hc, hn1⟩ := hg
      have HN := Hid.mk (And.intro hn1 hB)
      clear hn1 hB
      go_wp2_with fail
      rw [un_val]
      refine (number_any base _ (n + 4 * m) _ (un g) 4 wr (by omega) (un_lt g) (by omega) HR.out.1 (by have := F.out.2.1; have := HR.out.2.chg.size; have := H0.out.2.1; omega)).mono ?_
      rintro e w2 ⟨v2, rfl, ho2, hg2⟩
      have G := Hid.mk (And.intro ho2 hg2)
      clear ho2 hg2
      go_wp2_with fail
      go_roundw
      case rel =>
        refine ⟨m + 1, by omega, by go_num, Hid.mk ⟨?_, HR.out.2.trans G.out.2⟩⟩
        have h := G.out.1
        rw [HN.out.1, List.map_append, ← List.append_assoc, show n + 4 * (m + 1) = n + 4 * m + 4 by omega]
        exact h
      case measure => simp [intOf]; omega
    · have : m = 4 := by omega
      subst this
      clear hB
      go_wp2_with fail
      all_goals (go_ret; exact ⟨_, rfl, by simpa using HR.out.1, F.out.2.2.1.trans HR.out.2⟩)
end Go.Proofs.Ytmbmfhpdajdpfaa
