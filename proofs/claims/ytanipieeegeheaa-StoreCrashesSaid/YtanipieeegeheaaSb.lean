/- Joined for this seat from: XNum XPlain XTake XPut XOne XScan XRef XText XPlainScan XJoins XQuiet XRowMore XTail XOps XPutPt XAnyOp XBatch XBatchOk XRefOps XGood XRefBatch XDec XTakePt XRefScan XRefDec XSame XRefOpsB XRecOps. -/
import Derived.Deep.QuietTactic
import Derived.BigQuiet
import Derived.StillTail
import Derived.Laws.Cells
import Derived.Deep.DeepCutAuto
import Derived.Test.YtanipieeegeheaaSa
namespace Go.Proofs.Ytanipieeegeheaa
open Go.RowKit

/-- A number in so many bytes, the highest first. -/
def numB (n : Nat) : Nat → List UInt8
  | 0 => []
  | k + 1 => UInt8.ofNat (n / 256 ^ k) :: numB n k

theorem numB_len (n k : Nat) : (numB n k).length = k := by
  induction k with
  | zero => rfl
  | succ k ih => simp [numB, ih]

/-- The first j of them. -/
theorem numB_take (n k j : Nat) (h : j < k) : (numB n k).take (j + 1) = (numB n k).take j ++ [UInt8.ofNat (n / 256 ^ (k - 1 - j))] := by
  induction k generalizing j with
  | zero => omega
  | succ k ih =>
    cases j with
    | zero => simp [numB]
    | succ j =>
      simp only [numB, List.take_succ_cons, List.cons_append]
      rw [ih j (by omega)]
      rw [show k + 1 - 1 - (j + 1) = k - 1 - j by omega]

theorem bv_ofNat (m : Nat) : bv (UInt8.ofNat m) = .int .u8 ((m % 256 : Nat) : Int) := by
  simp [bv]
theorem numB_val (N j : Nat) : Value.int .u8 ((N : Int) / 2 ^ (8 * j) % 256) = bv (UInt8.ofNat (N / 256 ^ j)) := by
  rw [bv_ofNat, show (256 : Nat) ^ j = 2 ^ (8 * j) by rw [Nat.pow_mul]]
  simp

theorem Try.infoByte : (Try.prog.info? 5).map (fun i => (i.zero, i.size, i.bytes)) = some (some (.int .u8 0), 1, 1) := by kernel_rfl

set_option maxHeartbeats 400000 in
set_option maxRecDepth 100000 in
theorem number_any (base : Nat) (v : Value) (n : Nat) (xs : List Value) (N long : Nat) (w : World) (hl : long ≤ 8) (hN : N < 18446744073709551616) (hn : n ≤ 1000000)
    (hown : w.ownsRow base 5 1 v n xs) (hb : base ≤ w.heap.size) :
    Calls Try.prog 76 #[v, .int .u64 N, .int .i64 long] w fun e w' => ∃ v', e = .returned v' ∧ w'.ownsRow base 5 1 v' (n + long) (xs ++ (numB N long).map bv) ∧ Grew w v w' v' := by
  obtain ⟨i0, hi, hz0, hz1, hz2⟩ := info_parts Try.infoByte
  have HN := Hid.mk hN
  clear hN
  go_enter Try.func76, Try.ntmps76
  go_wp2
  go_loopw [0, 7] (fun vv i wr => ∃ k : Nat, k ≤ long ∧ i = .int .i64 ((long : Int) - 1 - k) ∧ wr.ownsRow base 5 1 vv (n + k) (xs ++ ((numB N long).take k).map bv) ∧ Grew w v wr vv) (fun _ i _ => (intOf i + 1).toNat)
  case atStart => exact ⟨0, Nat.zero_le _, by simp, by simpa using hown, Grew.refl w v⟩
  case round =>
    obtain ⟨k, hk, rfl, hwr, hgr⟩ := hrel
    by_cases hlt : k < long
    · have h0 : (0 : Int) ≤ (long : Int) - 1 - k := by omega
      have h63 : n + k + 1 ≤ maxLen := by simp only [maxLen]; omega
      have HH := Hid.mk (And.intro hgr (And.intro hown hb))
      clear hgr hown hb
      go_wp2_with (at_builtin; refine wpl_append rfl (.tmp 14) (.tmp 21) 46 rfl base 5 i0 _ 1 1 Try.underlying46 hi hz0 hz1 hz2 rfl (by omega) _ (n + k) _ rfl (hwr.alloc _) _ (some ⟨wr.heap.size, 0, none⟩) 1 1 _ rfl (rds_one _ _ _) ?c1 ?c2 ?c3 ?c4 ?_)
      case c1 => intro u hu; simp at hu; subst hu; rfl
      case c2 => exact h63
      case c3 => omega
      case c4 => have := HH.out.1.chg.size; have := HH.out.2.2; simp; omega
      rintro v' w' hown' hg'
      rw [numB_val] at hown' hg'
      have G := Hid.mk (HH.out.1.trans hg'.alloc_left)
      have O := Hid.mk hown'
      clear hown' hg' hwr
      go_wp2
      go_roundw
      case rel =>
        refine ⟨k + 1, by omega, by go_num, ?_, G.out⟩
        have h := O.out
        rw [numB_take _ _ _ hlt, List.map_append, ← List.append_assoc]
        simpa [Nat.add_assoc] using h
      case measure => simp [intOf]; omega
    · have : k = long := by omega
      subst this
      have HH := Hid.mk (And.intro hgr (And.intro hown hwr))
      clear hgr hown hwr
      go_wp2
      go_ret
      refine ⟨_, rfl, ?_, HH.out.1⟩
      have h := HH.out.2.2
      rwa [List.take_of_length_le (by rw [numB_len]; exact Nat.le_refl _)] at h

end Go.Proofs.Ytanipieeegeheaa
namespace Go.Proofs.Ytanipieeegeheaa
/-- Bytes as a number, the highest first. -/
def unB (bs : List UInt8) : Nat := bs.foldl (fun n c => n * 256 + c.toNat) 0

theorem unB_snoc (bs : List UInt8) (c : UInt8) : unB (bs ++ [c]) = unB bs * 256 + c.toNat := by simp [unB]

theorem unB_from (bs : List UInt8) : ∀ n, bs.foldl (fun n c => n * 256 + c.toNat) n < (n + 1) * 256 ^ bs.length := by
  induction bs with
  | nil => intro n; simp
  | cons c l ih =>
    intro n
    have h := ih (n * 256 + c.toNat)
    have hc := c.toNat_lt
    have h2 : (n * 256 + c.toNat + 1) * 256 ^ l.length ≤ ((n + 1) * 256) * 256 ^ l.length := Nat.mul_le_mul_right _ (by omega)
    simp only [List.foldl_cons, List.length_cons, Nat.pow_succ]
    rw [Nat.mul_comm (256 ^ l.length) 256, ← Nat.mul_assoc]
    omega
theorem unB_lt (bs : List UInt8) : unB bs < 256 ^ bs.length := by
  have := unB_from bs 0
  simpa [unB] using this
theorem unB_lt64 (bs : List UInt8) (h : bs.length ≤ 8) : unB bs < 18446744073709551616 :=
  Nat.lt_of_lt_of_le (unB_lt bs) (Nat.pow_le_pow_right (by omega) h)
theorem unB_take (bs : List UInt8) (k : Nat) (h : k < bs.length) : unB (bs.take (k + 1)) = unB (bs.take k) * 256 + bs[k].toNat := by
  rw [List.take_succ_eq_append_getElem h, unB_snoc]

/-- What is read of a number's bytes is the number. -/
theorem unB_numB_from (N : Nat) : ∀ (k n : Nat), (numB N k).foldl (fun n c => n * 256 + c.toNat) n = n * 256 ^ k + N % 256 ^ k := by
  intro k
  induction k with
  | zero => intro n; simp [numB, Nat.mod_one]
  | succ k ih =>
    intro n
    simp only [numB, List.foldl_cons, ih, UInt8.toNat_ofNat']
    have e : N % (256 ^ k * 256) = N % 256 ^ k + 256 ^ k * (N / 256 ^ k % 256) := Nat.mod_mul
    have p : (256 : Nat) ^ (k + 1) = 256 ^ k * 256 := Nat.pow_succ _ _
    rw [p, e]
    generalize 256 ^ k = x
    generalize N / x = y
    rw [show (2 : Nat) ^ 8 = 256 from rfl, Nat.add_mul, Nat.mul_assoc, Nat.mul_comm 256 x, Nat.mul_comm (y % 256) x]
    omega
theorem unB_numB (N k : Nat) : unB (numB N k) = N % 256 ^ k := by
  have := unB_numB_from N k 0
  simpa [unB] using this

/-- A record. -/
def recB (gen : Nat) (body : List UInt8) : List UInt8 := 165 :: (numB gen 8 ++ numB body.length 3 ++ body ++ [90])
theorem recB_len (gen : Nat) (body : List UInt8) : (recB gen body).length = body.length + 13 := by simp [recB, numB_len]; omega

/-- The record at the front. -/
def oneR (gen : Nat) (bs : List UInt8) : Option (List UInt8) :=
  if bs.length ≤ 12 then none
  else if bs[0]? ≠ some 165 then none
  else if unB ((bs.drop 1).take 8) ≠ gen then none
  else if 400000 < unB ((bs.drop 9).take 3) then none
  else if bs.length - 12 ≤ unB ((bs.drop 9).take 3) then none
  else if (bs.drop 12)[unB ((bs.drop 9).take 3)]? ≠ some 90 then none
  else some ((bs.drop 12).take (unB ((bs.drop 9).take 3)))
theorem oneR_len {gen : Nat} {bs body : List UInt8} (h : oneR gen bs = some body) : body.length + 13 ≤ bs.length ∧ body.length ≤ 400000 := by
  unfold oneR at h
  repeat (split at h; · cases h)
  injection h with h
  subst h
  rw [List.length_take, List.length_drop]
  omega

/-- The records at the front, and where they end. -/
def scanR (gen : Nat) : Nat → List UInt8 → List (List UInt8) × Nat
  | 0, _ => ([], 0)
  | k + 1, bs => match oneR gen bs with
    | none => ([], 0)
    | some body => (body :: (scanR gen k (bs.drop (body.length + 13))).1, body.length + 13 + (scanR gen k (bs.drop (body.length + 13))).2)
theorem scanR_more (gen : Nat) : ∀ (k m : Nat) (bs : List UInt8), bs.length ≤ k → bs.length ≤ m → scanR gen k bs = scanR gen m bs := by
  intro k
  induction k with
  | zero =>
    intro m bs h _
    have h0 : bs = [] := List.eq_nil_of_length_eq_zero (by omega)
    subst h0
    cases m <;> simp [scanR, oneR]
  | succ k ih =>
    intro m bs h1 h2
    cases m with
    | zero =>
      have h0 : bs = [] := List.eq_nil_of_length_eq_zero (by omega)
      subst h0
      simp [scanR, oneR]
    | succ m =>
      simp only [scanR]
      cases h : oneR gen bs with
      | none => rfl
      | some body =>
        have := (oneR_len h).1
        simp only
        rw [ih m (bs.drop (body.length + 13)) (by rw [List.length_drop]; omega) (by rw [List.length_drop]; omega)]
/-- Scan. -/
def scanA (gen : Nat) (bs : List UInt8) : List (List UInt8) × Nat := if gen < 1 ∨ 4611686018427387904 < gen then ([], 0) else scanR gen bs.length bs
theorem scanR_none {gen : Nat} {bs : List UInt8} (h : oneR gen bs = none) : scanR gen bs.length bs = ([], 0) := by
  cases hb : bs.length <;> simp [scanR, h]
theorem scanR_some {gen : Nat} {bs body : List UInt8} (h : oneR gen bs = some body) :
    scanR gen bs.length bs = (body :: (scanR gen (bs.drop (body.length + 13)).length (bs.drop (body.length + 13))).1, body.length + 13 + (scanR gen (bs.drop (body.length + 13)).length (bs.drop (body.length + 13))).2) := by
  have hl := (oneR_len h).1
  obtain ⟨m, hm⟩ : ∃ m, bs.length = m + 1 := ⟨bs.length - 1, by omega⟩
  rw [hm]
  simp only [scanR, h]
  rw [scanR_more gen m (bs.drop (body.length + 13)).length _ (by rw [List.length_drop]; omega) (Nat.le_refl _)]

end Go.Proofs.Ytanipieeegeheaa
namespace Go.Proofs.Ytanipieeegeheaa
open Go.RowKit

theorem shl_or_val (n c : Nat) (hn : n < 72057594037927936) (hc : c < 256) : bits .or .u64 (IntKind.u64.wrap ((n : Int) * 256)) (c : Int) = ((n * 256 + c : Nat) : Int) := by
  rw [IntKind.wrap_u64, show ((n : Int) * 256 % 18446744073709551616) = ((n * 256 : Nat) : Int) by omega, u64_or_nat _ _ (by omega) (by omega)]
  have := Nat.two_pow_add_eq_or_of_lt (i := 8) (b := c) (by omega) n
  rw [Nat.mul_comm] at this
  exact congrArg (fun x : Nat => (x : Int)) this.symm
theorem unB_take_lt (bs : List UInt8) (k : Nat) (h : k ≤ 7) : unB (bs.take k) < 72057594037927936 :=
  Nat.lt_of_lt_of_le (unB_lt _) (Nat.le_trans (Nat.pow_le_pow_right (by omega) (by rw [List.length_take]; omega : (bs.take k).length ≤ 7)) (by decide))

set_option maxHeartbeats 400000 in
set_option maxRecDepth 100000 in
theorem take_ok (p : Nat) (A : Option Addr) (c n : Nat) (bs : List UInt8) (bad : Bool) (S : Nat → Prop) (long : Nat) (w : World)
    (hp : Bk w p 104 #[.slice A n c, .bool bad]) (hr : RdB w S A n bs) (hS : ¬ S p) (h0 : 0 < long) (hl : long ≤ 8) (hle : long ≤ n) (hc : n ≤ c) (hcm : c ≤ maxLen) :
    Calls Try.prog 66 #[.pointer (some ⟨p, 0, none⟩), .int .i64 long] w fun e w' => e = .returned (.int .u64 (unB (bs.take long) : Nat)) ∧
      w' = w.setCell ⟨p, 0, none⟩ (.slice (if c = long then A else A.map (·.add (long * 1))) (n - long) (c - long)) := by
  obtain rfl := hr.len
  have hc0 : w.cell? ⟨p, 0, none⟩ = some (.slice A bs.length c) := hp.cell 0 rfl
  have hf0 := hp.free 0
  unfold maxLen at hcm
  obtain ⟨b, off, rfl, hb, hlt, hx0⟩ := hr.plain (by omega)
  have hx := Hid.mk hx0
  clear hx0
  have HH := Hid.mk (And.intro hp (And.intro hr hS))
  clear hp hr hS
  have hd : decide (bs.length < long) = false := by simpa using hle
  go_enter Try.func66, Try.ntmps66
  go_wp2_with fail
  go_loop [5, 28] (fun n i => ∃ k : Nat, k ≤ long ∧ i = .int .i64 k ∧ n = .int .u64 (unB (bs.take k) : Nat)) (fun _ i => long - (intOf i).toNat)
  case atStart => exact ⟨0, Nat.zero_le _, rfl, rfl⟩
  case round =>
    obtain ⟨k, hk, rfl, rfl⟩ := hrel
    by_cases hlt : k < long
    · have hkb : k < bs.length := by omega
      have hcell := RdB.byte hx.out hkb
      have hs := unB_take bs k hkb
      have hN := unB_take_lt bs k (by omega)
      have h256 := bs[k].toNat_lt
      have hv := shl_or_val _ _ hN h256
      generalize bs[k].toNat = d at *
      generalize unB (bs.take k) = N at *
      have HV := Hid.mk (And.intro hv (And.intro hs hN))
      clear hv hs hN
      go_wp2_with fail
      go_round
      case rel => exact ⟨k + 1, by omega, by go_num, by rw [HV.out.1, HV.out.2.1]⟩
      case measure => simp [intOf]; omega
    · have : k = long := by omega
      subst this
      go_wp2
      all_goals (go_ret; exact ⟨rfl, rfl⟩)

theorem take_any (p : Nat) (A : Option Addr) (c n : Nat) (bs : List UInt8) (bad : Bool) (S : Nat → Prop) (long : Nat) (w : World)
    (hp : Bk w p 104 #[.slice A n c, .bool bad]) (hr : RdB w S A n bs) (hS : ¬ S p) (h0 : 0 < long) (hl : long ≤ 8) (hle : long ≤ n) (hc : n ≤ c) (hcm : c ≤ maxLen) :
    Calls Try.prog 66 #[.pointer (some ⟨p, 0, none⟩), .int .i64 long] w fun e w' => e = .returned (.int .u64 (unB (bs.take long) : Nat)) ∧
      Chg (· = p) w w' ∧ ∃ A', Bk w' p 104 #[.slice A' (n - long) (c - long), .bool bad] ∧ RdB w' S A' (n - long) (bs.drop long) := by
  refine (take_ok p A c n bs bad S long w hp hr hS h0 hl hle hc hcm).mono fun e w' ⟨he, hw⟩ => ⟨he, ?_⟩
  subst hw
  have hch : Chg (· = p) w (w.setCell ⟨p, 0, none⟩ (.slice (if c = long then A else A.map (·.add (long * 1))) (n - long) (c - long))) :=
    (Chg.refl (· = p) w).setCell (p := ⟨p, 0, none⟩) (fun _ => rfl) _
  refine ⟨hch, (if c = long then A else A.map (·.add (long * 1))), hp.set 0 _, ?_⟩
  have h := (hr.part (k := long) (m := n) (c := c = long) hle (Nat.le_refl _) (by omega)).keep hch (fun k hs hk => hS (hk ▸ hs))
  rwa [List.take_of_length_le (by rw [List.length_drop, hr.len]; exact Nat.le_refl _)] at h

set_option maxHeartbeats 400000 in
set_option maxRecDepth 100000 in
theorem take_short (p : Nat) (A : Option Addr) (c n : Nat) (bad : Bool) (long : Nat) (w : World)
    (hp : Bk w p 104 #[.slice A n c, .bool bad]) (hle : n < long) :
    Calls Try.prog 66 #[.pointer (some ⟨p, 0, none⟩), .int .i64 long] w fun e w' => e = .returned (.int .u64 0) ∧
      Chg (· = p) w w' ∧ Bk w' p 104 #[.slice none 0 0, .bool true] := by
  have hc0 : w.cell? ⟨p, 0, none⟩ = some (.slice A n c) := hp.cell 0 rfl
  have hc1 : w.cell? ⟨p, 1, none⟩ = some (.bool bad) := hp.cell 1 rfl
  have hf0 := hp.free 0
  have hf1 := hp.free 1
  have hfin := Hid.mk (And.intro (((Chg.refl (· = p) w).setCell (p := ⟨p, 0, none⟩) (fun _ => rfl) (.slice none 0 0)).setCell (p := ⟨p, 1, none⟩) (fun _ => rfl) (.bool true)) ((hp.set 0 (.slice none 0 0)).set 1 (.bool true)))
  clear hp
  go_enter Try.func66, Try.ntmps66
  go_wp2
  go_ret
  exact ⟨rfl, hfin.out.1, hfin.out.2⟩

end Go.Proofs.Ytanipieeegeheaa
namespace Go.Proofs.Ytanipieeegeheaa
open Go.RowKit

set_option maxHeartbeats 400000 in
set_option maxRecDepth 100000 in
theorem put_ok (gen : Nat) (A : Option Addr) (c n : Nat) (body : List UInt8) (S : Nat → Prop) (w : World) (hr : RdB w S A n body) (hg1 : 1 ≤ gen) (hg2 : gen ≤ 4611686018427387904) (hl : n ≤ 400000) :
    Calls Try.prog 48 #[.int .u64 gen, .slice A n c] w fun e w' => ∃ v, e = .returned (.tuple #[v, .int .i64 0]) ∧ w'.ownsRow w.heap.size 5 1 v (body.length + 13) ((recB gen body).map bv) ∧ Below w.heap.size w w' := by
  obtain rfl := hr.len
  obtain ⟨i0, hi, hz0, hz1, hz2⟩ := info_parts Try.infoByte
  have h2 : decide ((4611686018427387904 : Int) < gen) = false := by simp; omega
  have HG := Hid.mk hg2
  have HR := Hid.mk hr.here
  clear hg2 hr
  go_enter Try.func48, Try.ntmps48
  go_wp2_with fail
  have o0 : (w.alloc (.cells #[.int .u8 165] 5)).ownsRow w.heap.size 5 1 (.slice (some ⟨w.heap.size, 0, none⟩) 1 1) 1 [.int .u8 165] := World.ownsRow_lit w _ _ (Nat.le_refl _) (by simp [maxLen]) rfl
  refine (number_any w.heap.size _ 1 _ gen 8 _ (by omega) (by have := HG.out; omega) (by omega) o0 (by simp)).mono ?_
  rintro e w1 ⟨v1, rfl, o1, g1⟩
  have O0 := Hid.mk o0
  have O1 := Hid.mk (And.intro o1 g1)
  clear o0 o1 g1
  go_wp2_with fail
  refine (number_any w.heap.size _ (1 + 8) _ body.length 3 w1 (by omega) (by omega) (by omega) O1.out.1 (by have := O1.out.2.chg.size; simp at this; omega)).mono ?_
  rintro e w2 ⟨v2, rfl, o2, g2⟩
  have O2 := Hid.mk (And.intro o2 (O1.out.2.trans g2))
  clear o2 g2
  have hz2' : w.heap.size + 1 ≤ w2.heap.size := by have := O2.out.2.chg.size; simpa using this
  have R2 := Hid.mk (HR.out.keep O2.out.2.alloc_left.chg (fun k hk ho => by have := own_at ho; omega))
  go_wp2_with (first
    | (at_builtin; refine wpl_append rfl (.tmp 26) (.tmp 27) 46 rfl w.heap.size 5 i0 _ 1 1 Try.underlying46 hi hz0 hz1 hz2 rfl (by omega) _ _ _ rfl O2.out.1 _ _ _ _ _ rfl R2.out (bv_one _) (by simp only [maxLen]; omega) (by omega) (by omega) ?_; intro v3 w3 o3 g3; have O3 := Hid.mk (And.intro o3 (O2.out.2.trans g3)); clear o3 g3; have hz3 : w.heap.size ≤ w3.heap.size := (by have := O3.out.2.chg.size; simp at this; omega))
    | (at_builtin; refine wpl_append rfl (.tmp 28) (.tmp 29) 46 rfl w.heap.size 5 i0 _ 1 1 Try.underlying46 hi hz0 hz1 hz2 rfl (by omega) _ _ _ rfl (O3.out.1.alloc _) _ _ _ _ _ rfl (rds_one _ _ _) (by intro u hu; simp at hu; subst hu; rfl) (by simp only [maxLen]; omega) (by omega) (by simp; omega) ?_; intro v4 w4 o4 g4; have O4 := Hid.mk (And.intro o4 (O3.out.2.trans g4.alloc_left)); clear o4 g4))
  go_ret2
  refine ⟨v4, rfl, ?_, ?_⟩
  · have h := O4.out.1
    rw [show body.length + 13 = 1 + 8 + 3 + body.length + 1 by omega]
    simpa [recB, bv] using h
  · exact O4.out.2.alloc_left.below (Below.refl _ _) (Nat.le_refl _) (fun k hk => by have := own_at hk; omega)

set_option maxHeartbeats 400000 in
set_option maxRecDepth 100000 in
theorem put_long (gen : Nat) (A : Option Addr) (c n : Nat) (w : World) (hl : 400000 < n) :
    Calls Try.prog 48 #[.int .u64 gen, .slice A n c] w fun e w' => e = .returned (.tuple #[.slice none 0 0, .int .i64 11]) ∧ w = w' := by
  go_enter Try.func48, Try.ntmps48
  go_wp2
  go_ret2
  exact ⟨rfl, rfl⟩

set_option maxHeartbeats 400000 in
set_option maxRecDepth 100000 in
theorem put_arg (gen : Nat) (A : Option Addr) (c n : Nat) (w : World) (hl : n ≤ 400000) (hg : gen < 1 ∨ 4611686018427387904 < gen) :
    Calls Try.prog 48 #[.int .u64 gen, .slice A n c] w fun e w' => e = .returned (.tuple #[.slice none 0 0, .int .i64 1]) ∧ w = w' := by
  by_cases h1 : gen < 1
  · obtain rfl : gen = 0 := by omega
    clear hg h1
    go_enter Try.func48, Try.ntmps48
    go_wp2
    go_ret2
    exact ⟨rfl, rfl⟩
  · have h2 : decide ((4611686018427387904 : Int) < gen) = true := by simp; omega
    clear hg
    go_enter Try.func48, Try.ntmps48
    go_wp2
    go_ret2
    exact ⟨rfl, rfl⟩

end Go.Proofs.Ytanipieeegeheaa
namespace Go.Proofs.Ytanipieeegeheaa
open Go.RowKit

/-- What 'one' answers. -/
def OneIs (S : Nat → Prop) (o : Option (List UInt8)) (e : Ending) (w' : World) : Prop :=
  match o with
  | none => e = .returned (.tuple #[.slice none 0 0, .bool false])
  | some body => ∃ A c, e = .returned (.tuple #[.slice A body.length c, .bool true]) ∧ body.length ≤ c ∧ c ≤ maxLen ∧ RdB w' S A body.length body

set_option maxHeartbeats 1000000 in
set_option maxRecDepth 100000 in
theorem one_any (gen : Nat) (A : Option Addr) (c n : Nat) (bs : List UInt8) (S : Nat → Prop) (w : World) (hr : RdB w S A n bs) (hc : n ≤ c) (hcm : c ≤ maxLen) :
    Calls Try.prog 91 #[.slice A n c, .int .u64 gen] w fun e w' => OneIs S (oneR gen bs) e w' ∧ Below w.heap.size w w' := by
  have hn := hr.len
  by_cases h12 : n ≤ 12
  · have ho : oneR gen bs = none := by simp [oneR, hn, h12]
    rw [ho]
    clear hr ho hn
    go_enter Try.func91, Try.ntmps91
    go_wp2
    go_ret2
    exact ⟨rfl, Below.refl _ _⟩
  · unfold maxLen at hcm
    obtain ⟨b, off, rfl, hb, hlt, hx0⟩ := hr.plain (by omega)
    have hcell : w.cell? ⟨b, off, none⟩ = some (.int .u8 (bs[0].toNat : Int)) := RdB.byte hx0 (j := 0) (by omega)
    have h256 := bs[0].toNat_lt
    have hx := Hid.mk hx0
    clear hx0
    have hb0 : bs[0]? = some bs[0] := List.getElem?_eq_getElem (by omega)
    by_cases hd : bs[0].toNat = 165
    · have hce : w.cell? ⟨b, off, none⟩ = some (.int .u8 165) := by rw [hcell, hd]; rfl
      have h165 : bs[0]? = some 165 := by rw [hb0]; exact congrArg some (UInt8.toNat_inj.1 hd)
      have hone : oneR gen bs = if unB ((bs.drop 1).take 8) ≠ gen then none else if 400000 < unB ((bs.drop 9).take 3) then none else if n - 12 ≤ unB ((bs.drop 9).take 3) then none
          else if (bs.drop 12)[unB ((bs.drop 9).take 3)]? ≠ some 90 then none else some ((bs.drop 12).take (unB ((bs.drop 9).take 3))) := by
        unfold oneR
        rw [hn, if_neg h12, if_neg (by simp [h165])]
      have e1 : (bs.drop 1).drop 8 = bs.drop 9 := by rw [List.drop_drop]
      have e2 : (bs.drop 9).drop 3 = bs.drop 12 := by rw [List.drop_drop]
      have hlr : (bs.drop 12).length = n - 12 := by simp [hn]
      have rd1 : RdB w (fun k => S k ∧ k < w.heap.size) (some ⟨b, off + 1, none⟩) (n - 1) (bs.drop 1) := RdB.of_cells (by simp [hn]) ⟨hb, hlt⟩ (RdB.shift 1 hx.out)
      have hL : unB ((bs.drop 9).take 3) < 16777216 := Nat.lt_of_lt_of_le (unB_lt _) (Nat.pow_le_pow_right (by omega) (by rw [List.length_take]; omega) : 256 ^ _ ≤ 256 ^ 3)
      generalize hG : unB ((bs.drop 1).take 8) = G at *
      generalize hLe : unB ((bs.drop 9).take 3) = L at *
      generalize oneR gen bs = o at *
      generalize bs.drop 1 = b1 at *
      generalize bs.drop 9 = b9 at *
      generalize bs.drop 12 = rest at *
      have HB := Hid.mk (And.intro e1 (And.intro e2 (And.intro hlr (And.intro hG (And.intro hLe (And.intro hone rd1))))))
      clear hcell hb0 hd h256 hr hone e1 e2 hlr rd1 hG hLe h165 hx hn
      go_enter Try.func91, Try.ntmps91
      go_wp2_with fail
      have hw1 : Below w.heap.size w (w.alloc (.cells #[.slice (some ⟨b, off + 1, none⟩) (n - 1) (c - 1), .bool false] 104)) := (Below.refl _ _).alloc (Nat.le_refl _) _
      refine (take_any w.heap.size (some ⟨b, off + 1, none⟩) (c - 1) (n - 1) b1 false (fun k => S k ∧ k < w.heap.size) 8 _ (Bk.new w _ _) (HB.out.2.2.2.2.2.2.keep (Chg.of_below hw1 (S := Nil)) (fun _ _ h => h)) (fun h => by omega) (by omega) (by omega) (by omega) (by omega) (by unfold maxLen; omega)).mono ?_
      rintro e w2 ⟨he, ch2, A2, bk2, rd2⟩
      rw [HB.out.2.2.2.1] at he
      subst he
      have hbel2 : Below w.heap.size w w2 := ch2.below hw1 (by simp) (fun i _ h => by omega)
      have H2 := Hid.mk (And.intro hbel2 (And.intro bk2 rd2))
      clear ch2 bk2 rd2 hw1 hbel2
      go_wp2_with fail
      refine (take_any w.heap.size A2 (c - 1 - 8) (n - 1 - 8) (b1.drop 8) false (fun k => S k ∧ k < w.heap.size) 3 w2 H2.out.2.1 H2.out.2.2 (fun h => by omega) (by omega) (by omega) (by omega) (by omega) (by unfold maxLen; omega)).mono ?_
      rintro e w3 ⟨he, ch3, A3, bk3, rd3⟩
      rw [HB.out.1, HB.out.2.2.2.2.1] at he
      subst he
      rw [HB.out.1, HB.out.2.1] at rd3
      have hbel : Below w.heap.size w w3 := ch3.below H2.out.1 H2.out.1.size (fun i _ h => by omega)
      have hcp : w3.cell? ⟨w.heap.size, 0, none⟩ = some (.slice A3 (n - 1 - 8 - 3) (c - 1 - 8 - 3)) := bk3.cell 0 rfl
      have H3 := Hid.mk (And.intro rd3 (And.intro hbel bk3))
      clear hbel rd3 ch3 bk3
      have hone := HB.out.2.2.2.2.2.1
      by_cases hG : G = gen
      · subst hG
        rw [if_neg (by simp)] at hone
        by_cases h4 : 400000 < L
        · rw [if_pos h4] at hone
          have HO := Hid.mk hone
          clear hone
          go_wp2_with fail
          go_ret2
          rw [HO.out]
          exact ⟨rfl, H3.out.2.1⟩
        · rw [if_neg h4] at hone
          by_cases h5 : n - 12 ≤ L
          · rw [if_pos h5] at hone
            have HO := Hid.mk hone
            clear hone
            go_wp2_with fail
            go_ret2
            rw [HO.out]
            exact ⟨rfl, H3.out.2.1⟩
          · rw [if_neg h5] at hone
            have hLr : L < rest.length := by have := HB.out.2.2.1; omega
            obtain ⟨b3, off3, rfl, _, _, hx3⟩ := H3.out.1.plain (by omega)
            have hcL : w3.cell? ⟨b3, off3 + L, none⟩ = some (.int .u8 (rest[L].toNat : Int)) := RdB.byte hx3 hLr
            have hrl := H3.out.1.len
            rw [List.getElem?_eq_getElem hLr] at hone
            by_cases h90 : rest[L].toNat = 90
            · have h9 : rest[L] = 90 := UInt8.toNat_inj.1 h90
              rw [if_neg (by simp [h9])] at hone
              have hc9 : w3.cell? ⟨b3, off3 + L, none⟩ = some (.int .u8 90) := by rw [hcL, h90]; rfl
              clear hcL
              have HO := Hid.mk (And.intro hone (And.intro hx3 hrl))
              clear hone h9 h90 hx3 hrl
              go_wp2_with fail
              go_ret2
              rw [HO.out.1]
              have hlt : (rest.take L).length = L := by rw [List.length_take]; omega
              refine ⟨⟨some ⟨b3, off3, none⟩, c - 1 - 8 - 3, by rw [hlt]; rfl, by rw [hlt]; omega, by unfold maxLen; omega, ?_⟩, H3.out.2.1⟩
              rw [hlt]
              exact (H3.out.1.front (by omega)).wider (fun k _ h => h.1)
            · have h9 : some rest[L] ≠ some 90 := fun e => h90 (by injection e with e; rw [e]; rfl)
              rw [if_pos h9] at hone
              have HO := Hid.mk hone
              have hb9 : ((rest[L].toNat : Int) != 90) = true := by simp; omega
              clear hone h9 h90 hx3 hrl
              generalize rest[L].toNat = d at *
              go_wp2_with fail
              go_ret2
              rw [HO.out]
              exact ⟨rfl, H3.out.2.1⟩
      · have hGb : ((G : Int) != gen) = true := by simp; omega
        rw [if_pos hG] at hone
        have HO := Hid.mk hone
        clear hG hone
        go_wp2_with fail
        go_ret2
        rw [HO.out]
        exact ⟨rfl, H3.out.2.1⟩
    · have ho : oneR gen bs = none := by
        have : bs[0] ≠ 165 := fun e => hd (by rw [e]; rfl)
        simp [oneR, hn, h12, hb0, this]
      rw [ho]
      have hdb : ((bs[0].toNat : Int) != 165) = true := by simp; omega
      clear hb0 hr ho hx
      generalize bs[0].toNat = d at *
      clear hn
      go_enter Try.func91, Try.ntmps91
      go_wp2
      go_ret2
      exact ⟨rfl, Below.refl _ _⟩

end Go.Proofs.Ytanipieeegeheaa
namespace Go.Proofs.Ytanipieeegeheaa
open Go.RowKit

theorem Try.infoBytes : (Try.prog.info? 46).map (fun i => (i.zero, i.size, i.bytes)) = some (some (.slice none 0 0), 1, 24) := by kernel_rfl

/-- What 'Scan' answers: the bodies in new memory, the place. -/
def ScanIs (B : Nat) (r : List (List UInt8) × Nat) (e : Ending) (w' : World) : Prop :=
  ∃ v vs, e = .returned (.tuple #[v, .int .i64 r.2]) ∧ w'.ownsRow B 46 1 v r.1.length vs ∧ RdL w' (fun k => B ≤ k) vs r.1

set_option maxHeartbeats 1000000 in
set_option maxRecDepth 100000 in
theorem scan_any (gen : Nat) (A : Option Addr) (c n : Nat) (bs : List UInt8) (S : Nat → Prop) (w : World) (hr : RdB w S A n bs) (hc : n ≤ c) (hcm : c ≤ maxLen) (hn : n ≤ 1000000) :
    Calls Try.prog 69 #[.slice A n c, .int .u64 gen] w fun e w' => ScanIs w.heap.size (scanA gen bs) e w' ∧ Below w.heap.size w w' := by
  have hlen := hr.len
  by_cases hg1 : gen < 1
  · obtain rfl : gen = 0 := by omega
    have hs : scanA 0 bs = ([], 0) := by simp [scanA]
    rw [hs]
    clear hr hlen hg1 hs
    go_enter Try.func69, Try.ntmps69
    go_wp2
    go_ret2
    exact ⟨⟨.slice none 0 0, [], rfl, World.ownsRow_nil _ _ _ _, RdL.nil⟩, Below.refl _ _⟩
  · by_cases hg2 : 4611686018427387904 < gen
    · have h2 : decide ((4611686018427387904 : Int) < gen) = true := by simp; omega
      have hs : scanA gen bs = ([], 0) := by simp [scanA, hg2]
      rw [hs]
      have h1 : 1 ≤ gen := by omega
      clear hr hlen hg1 hs hg2
      go_enter Try.func69, Try.ntmps69
      go_wp2
      go_ret2
      exact ⟨⟨.slice none 0 0, [], rfl, World.ownsRow_nil _ _ _ _, RdL.nil⟩, Below.refl _ _⟩
    · have h2 : decide ((4611686018427387904 : Int) < gen) = false := by simp; omega
      have hg1 : 1 ≤ gen := by omega
      have hs : scanA gen bs = scanR gen n bs := by simp [scanA, hg2, ← hlen]; omega
      rw [hs]
      have HH := Hid.mk (And.intro hr.here hlen)
      clear hr hlen hg2 hs
      obtain ⟨i0, hi, hz0, hz1, hz2⟩ := info_parts Try.infoByte
      obtain ⟨j0, hj, hy0, hy1, hy2⟩ := info_parts Try.infoBytes
      go_enter Try.func69, Try.ntmps69
      go_wp2_with fail
      go_loopw [4, 5] (fun vb ve wr => ∃ (acc : List (List UInt8)) (e : Nat) (vs : List Value) (F : Nat → Prop), ve = .int .i64 e ∧ e ≤ n ∧
          scanR gen n bs = (acc ++ (scanR gen (n - e) (bs.drop e)).1, e + (scanR gen (n - e) (bs.drop e)).2) ∧ acc.length ≤ e ∧ wr.ownsRow w.heap.size 46 1 vb acc.length vs ∧ RdL wr F vs acc ∧
          (∀ k, F k → w.heap.size ≤ k ∧ k < wr.heap.size) ∧ (∀ k, F k → Own vb k → False) ∧ Below w.heap.size w wr) (fun _ ve _ => n - (intOf ve).toNat)
      case atStart => exact ⟨[], 0, [], fun _ => False, rfl, Nat.zero_le _, by simp, Nat.le_refl _, World.ownsRow_nil _ _ _ _, RdL.nil, fun _ h => h.elim, fun _ h => h.elim, Below.refl _ _⟩
      case round =>
        obtain ⟨acc, e, vs, F, rfl, he, hscan, hacc, hown, hrl, hF, hFo, hbel⟩ := hrel
        have hbsz := hbel.size
        have hlen : (bs.drop e).length = n - e := by rw [List.length_drop, HH.out.2]
        have hrd : RdB wr (fun k => S k ∧ k < w.heap.size) (cutA 1 A c e) (n - e) (bs.drop e) := (cutA_rdb_all HH.out.1 he hc).below hbel (fun k h => h.2)
        have hsl := fun W => run_cut_from (P := Try.prog) 46 5 i0 1 Try.underlying46 hi hz1 A n c e .i64 he W
        have hltu := own_lt hown
        cases hone : oneR gen (bs.drop e) with
        | none =>
          have hsc : scanR gen n bs = (acc, e) := by
            rw [hscan]
            have := scanR_none hone
            rw [hlen] at this
            simp [this]
          have HR := Hid.mk (And.intro hsc (And.intro hown (And.intro hrl (And.intro hF (And.intro hbel (And.intro hrd hone))))))
          clear hscan hown hrl hF hFo hbel hrd hone hsc hlen hltu
          go_wp2_with (go_at_call 91; refine (one_any gen (cutA 1 A c e) (c - e) (n - e) (bs.drop e) _ wr HR.out.2.2.2.2.2.1 (by omega) (by omega)).mono ?_; rintro er w2 ⟨h1, hb2⟩; rw [HR.out.2.2.2.2.2.2] at h1; have h1' : er = .returned (.tuple #[.slice none 0 0, .bool false]) := h1; subst h1'; have HB2 := Hid.mk hb2; clear hb2 h1)
          go_ret2
          rw [HR.out.1]
          refine ⟨⟨u4, vs, rfl, own_keep HR.out.2.1 (Chg.of_below' HB2.out) (fun _ _ h => h), (HR.out.2.2.1.keep (Chg.of_below' HB2.out) (fun _ _ h => h)).wider (fun k _ hk => (HR.out.2.2.2.1 k hk).1)⟩, HR.out.2.2.2.2.1.trans (HB2.out.mono hbsz)⟩
        | some body =>
          have hol := oneR_len hone
          rw [hlen] at hol
          have hsc : scanR gen n bs = ((acc ++ [body]) ++ (scanR gen (n - (e + (12 + body.length + 1))) (bs.drop (e + (12 + body.length + 1)))).1, e + (12 + body.length + 1) + (scanR gen (n - (e + (12 + body.length + 1))) (bs.drop (e + (12 + body.length + 1)))).2) := by
            rw [hscan]
            have h := scanR_some hone
            rw [hlen, List.drop_drop, List.length_drop, HH.out.2] at h
            rw [h, show e + (body.length + 13) = e + (12 + body.length + 1) by omega]
            simp
            omega
          have HR := Hid.mk (And.intro hsc (And.intro hown (And.intro hrl (And.intro hF (And.intro hbel (And.intro hrd (And.intro hone (And.intro hFo hltu))))))))
          clear hscan hown hrl hF hFo hbel hrd hone hsc hlen hltu
          obtain ⟨hb1, hb2⟩ := hol
          go_wp2_with (first
            | (go_at_call 91; refine (one_any gen (cutA 1 A c e) (c - e) (n - e) (bs.drop e) _ wr HR.out.2.2.2.2.2.1 (by omega) (by omega)).mono ?_; rintro er w2 ⟨h1, hbb⟩; rw [HR.out.2.2.2.2.2.2.1] at h1; obtain ⟨Ab, cb, rfl, hcb, hmb, hrb⟩ := h1; have HB2 := Hid.mk (And.intro hbb hrb); clear hbb hrb)
            | (at_builtin; refine wpl_append rfl (.tmp 27) (.tmp 28) 46 rfl w.heap.size 5 i0 _ 1 1 Try.underlying46 hi hz0 hz1 hz2 rfl (by omega) _ 0 [] rfl (World.ownsRow_lit w2 #[] 0 (by have := HB2.out.1.size; omega) (Nat.zero_le _) rfl) _ Ab body.length cb _ rfl (HB2.out.2.keep ((Chg.refl Nil w2).alloc _) (fun _ _ h => h)) (bv_one _) (by simp only [maxLen]; omega) (by omega) (by have := HB2.out.1.size; simp; omega) ?_; intro v3 w3 o3 g3; obtain ⟨A3, c3, hv3, hc3, hm3⟩ := own_form o3; simp only [Nat.zero_add, List.nil_append] at o3 hv3 hc3; subst hv3; have H3 := Hid.mk (And.intro o3 (And.intro g3.fresh (And.intro hc3 hm3))); clear o3 g3 hc3 hm3)
            | (at_builtin; refine wpl_append rfl (.tmp 26) (.tmp 30) 110 rfl w.heap.size 46 j0 _ 1 24 Try.underlying110 hj hy0 hy1 hy2 rfl (by omega) _ _ _ rfl ((own_keep (own_keep HR.out.2.1 (Chg.of_below' HB2.out.1) (fun _ _ h => h)) H3.out.2.1.1 (fun _ _ h => h)).alloc _) _ _ _ _ _ rfl (rds_one _ _ _) (by intro u hu; simp at hu; subst hu; rfl) (by simp only [maxLen]; omega) (by omega) (by have := HB2.out.1.size; have := H3.out.2.1.1.size; simp; omega) ?_; intro v4 w4 o4 g4; have H4 := Hid.mk (And.intro o4 g4); clear o4 g4))
          have hB3 : wr.heap.size ≤ w2.heap.size := HB2.out.1.size
          have c3w : Chg Nil wr w3 := (Chg.of_below' HB2.out.1).trans H3.out.2.1.1 (fun _ _ h => h)
          obtain ⟨F', h41, h42, h43, h44⟩ := rows_step HR.out.2.2.1 HR.out.2.2.2.1 HR.out.2.2.2.2.2.2.2.1 HR.out.2.2.2.2.2.2.2.2 hbsz c3w H3.out.1 (fun k hk => Nat.le_trans hB3 (H3.out.2.1.2 k hk)) H3.out.2.2.1 H3.out.2.2.2 H4.out.1 H4.out.2
          have hbel4 : Below w.heap.size w w4 := (H4.out.2.alloc_left.chg).below (c3w.below HR.out.2.2.2.2.1 hbsz (fun _ _ h => h.elim)) (by have := c3w.size; omega) (fun k _ hk => own_ge HR.out.2.1 k hk)
          have HF := Hid.mk (And.intro h41 (And.intro h42 (And.intro h43 (And.intro h44 hbel4))))
          clear h41 h42 h43 h44 hbel4 c3w
          go_wp2
          go_roundw
          case rel => exact ⟨acc ++ [body], e + (12 + body.length + 1), _, F', by go_num, by omega, HR.out.1, by simp; omega, HF.out.1, HF.out.2.1, HF.out.2.2.1, HF.out.2.2.2.1, HF.out.2.2.2.2⟩
          case measure => simp [intOf]; omega

end Go.Proofs.Ytanipieeegeheaa
namespace Go.Proofs.Ytanipieeegeheaa
open Go.RowKit

/-- The bytes that the loop has written so far. -/
def numPre (N long k : Nat) : List Value := ((numB N long).take k).map bv ++ List.replicate (long - k) (.int .u8 0)
theorem numPre_len (N long k : Nat) (h : k ≤ long) : (numPre N long k).length = long := by
  simp [numPre, numB_len]
  omega
theorem numPre_get (N long k : Nat) (h : k < long) : (numPre N long k)[k]? = some (.int .u8 0) := by
  have hl : (((numB N long).take k).map bv).length = k := by simp [numB_len]; omega
  rw [numPre, List.getElem?_append_right (by omega), hl, Nat.sub_self]
  have : long - k = (long - k - 1) + 1 := by omega
  rw [this, List.replicate_succ]
  rfl
theorem numPre_set (N long k : Nat) (h : k < long) : (numPre N long k).set k (bv (UInt8.ofNat (N / 256 ^ (long - 1 - k)))) = numPre N long (k + 1) := by
  have hl : (((numB N long).take k).map bv).length = k := by simp [numB_len]; omega
  rw [numPre, List.set_append_right _ _ (by omega), hl, Nat.sub_self, numPre, numB_take _ _ _ h, List.map_append]
  have : long - k = (long - (k + 1)) + 1 := by omega
  rw [this, List.replicate_succ, List.set_cons_zero]
  simp

set_option maxHeartbeats 400000 in
set_option maxRecDepth 100000 in
theorem rnumber_any (N long : Nat) (w : World) (hl : long ≤ 8) :
    Calls Try.prog 86 #[.int .u64 N, .int .i64 long] w fun e w' => e = .returned (.string ⟨(numB N long).toArray⟩) ∧ Below w.heap.size w w' := by
  obtain ⟨i0, hi, hz0, hz1, hz2⟩ := info_parts Try.infoByte
  go_enter Try.func86, Try.ntmps86
  go_wp2_with (at_make; refine wpl_make rfl (.tmp 7) (.tmp 7) 46 rfl 5 i0 _ 1 Try.underlying46 hi hz0 hz1 hz2 rfl long rfl rfl (by omega) (by simp only [maxLen]; omega) ?_; intro w1 o1 c1 l1; have H1 := Hid.mk (And.intro o1 c1); clear o1 c1)
  go_loopw [6] (fun i wr => ∃ k : Nat, k ≤ long ∧ i = .int .i64 k ∧ wr.ownsRow w.heap.size 5 1 (.slice (some ⟨w.heap.size, 0, none⟩) long long) long (numPre N long k) ∧ Below w.heap.size w wr) (fun i _ => long - (intOf i).toNat)
  case atStart => exact ⟨0, Nat.zero_le _, rfl, by simpa [numPre] using H1.out.1, H1.out.2.below_nil⟩
  case round =>
    obtain ⟨k, hk, rfl, hown, hbel⟩ := hrel
    by_cases hlt : k < long
    · have hcell : wr.cell? ⟨w.heap.size, k, none⟩ = some (.int .u8 0) := (hown.cellAt k (by omega)).trans (numPre_get N long k hlt)
      have hfr := hown.frozenAt k
      have H2 := Hid.mk (And.intro hown hbel)
      clear hown hbel
      go_wp2_with fail
      go_roundw
      case rel =>
        refine ⟨k + 1, by omega, by go_num, ?_, H2.out.2.setCell (p := ⟨w.heap.size, k, none⟩) (Nat.le_refl _) _⟩
        have h := (H2.out.1.stored k (bv (UInt8.ofNat (N / 256 ^ (long - 1 - k))))).1
        rw [numPre_set N long k hlt] at h
        rw [numB_val]
        exact h
      case measure => simp [intOf]; omega
    · have : k = long := by omega
      subst this
      have hr : RdB wr (Own (.slice (some ⟨w.heap.size, 0, none⟩) k k)) (some ⟨w.heap.size, 0, none⟩) k (numB N k) := by
        have h := Rds.of_own hown
        unfold RdB
        simpa [numPre, List.take_of_length_le (show (numB N k).length ≤ k by rw [numB_len]; exact Nat.le_refl _)] using h
      have hconv := run_bytes_str (P := Try.prog) (c := k) hr 46 9 5 Try.underlying46 Try.underlying5 Try.underlying9
      have H2 := Hid.mk hbel
      clear hown hbel hr
      go_wp2_with fail
      go_ret
      exact ⟨rfl, H2.out⟩

end Go.Proofs.Ytanipieeegeheaa
namespace Go.Proofs.Ytanipieeegeheaa
open Go.RowKit

/-- Records one behind the other. -/
def recsB (gen : Nat) (l : List (List UInt8)) : List UInt8 := (l.map (recB gen)).flatten
theorem recsB_snoc (gen : Nat) (l : List (List UInt8)) (b : List UInt8) : recsB gen (l ++ [b]) = recsB gen l ++ recB gen b := by simp [recsB]
theorem recsB_len (gen : Nat) (l : List (List UInt8)) (h : ∀ b ∈ l, b.length ≤ 200) : (recsB gen l).length ≤ l.length * 213 := by
  induction l with
  | nil => simp [recsB]
  | cons b l ih =>
    have h1 := ih (fun x hx => h x (by simp [hx]))
    have h2 := h b (by simp)
    simp only [recsB, List.map_cons, List.flatten_cons, List.length_append, recB_len, List.length_cons] at h1 ⊢
    omega
/-- Where they end, 0 first. -/
def endsB (gen : Nat) (l : List (List UInt8)) : List Nat := (List.range (l.length + 1)).map fun i => (recsB gen (l.take i)).length
theorem endsB_snoc (gen : Nat) (l : List (List UInt8)) (b : List UInt8) : endsB gen (l ++ [b]) = endsB gen l ++ [(recsB gen (l ++ [b])).length] := by
  unfold endsB
  rw [List.length_append, List.length_singleton, List.range_succ, List.map_append]
  congr 1
  · apply List.map_congr_left
    intro i hi
    rw [List.take_append_of_le_length (by have := List.mem_range.1 hi; omega)]
  · rw [List.map_singleton, List.take_of_length_le (by simp)]
def iv (n : Nat) : Value := .int .i64 (n : Int)

theorem Try.infoInt : (Try.prog.info? 3).map (fun i => (i.zero, i.size, i.bytes)) = some (some (.int .i64 0), 1, 8) := by kernel_rfl

/-- What 'text' answers. -/
def TextIs (B gen : Nat) (l : List (List UInt8)) (e : Ending) (w' : World) : Prop :=
  ((∀ b ∈ l, b.length ≤ 200) → ∃ v, e = .returned (.tuple #[.string ⟨(recsB gen l).toArray⟩, v, .bool true]) ∧ w'.ownsRow B 3 1 v (l.length + 1) ((endsB gen l).map iv)) ∧
  (¬ (∀ b ∈ l, b.length ≤ 200) → e = .returned (.tuple #[.string ⟨#[]⟩, .slice none 0 0, .bool false]))

theorem results_three {fn : Func} {t u v : Tmp} (h : fn.results = #[.tmp t, .tmp u, .tmp v]) (tmps : Array Value) (P : Program) (w : World) :
    (results fn tmps).run P w = .ok (.tuple #[tmps.getD t undef, tmps.getD u undef, tmps.getD v undef]) w := by simp [results, h]

end Go.Proofs.Ytanipieeegeheaa
namespace Go.Proofs.Ytanipieeegeheaa
theorem recB_front (gen : Nat) (body rest : List UInt8) (hg : gen < 18446744073709551616) (hb : body.length < 16777216) :
    (recB gen body ++ rest)[0]? = some 165 ∧ unB (((recB gen body ++ rest).drop 1).take 8) = gen ∧ unB (((recB gen body ++ rest).drop 9).take 3) = body.length ∧ (recB gen body ++ rest).drop 12 = body ++ (90 :: rest) := by
  have e : recB gen body ++ rest = 165 :: (numB gen 8 ++ (numB body.length 3 ++ (body ++ (90 :: rest)))) := by simp [recB]
  rw [e]
  have l8 : (numB gen 8).length = 8 := numB_len _ _
  have l3 : (numB body.length 3).length = 3 := numB_len _ _
  refine ⟨rfl, ?_, ?_, ?_⟩
  · rw [List.drop_succ_cons, List.drop_zero, List.take_left' l8, unB_numB]
    exact Nat.mod_eq_of_lt (by omega)
  · rw [List.drop_succ_cons, List.drop_left' l8, List.take_left' l3, unB_numB]
    exact Nat.mod_eq_of_lt (by omega)
  · rw [List.drop_succ_cons]
    have : (11 : Nat) = 8 + 3 := rfl
    rw [this, ← List.drop_drop, List.drop_left' l8, List.drop_left' l3]

theorem oneR_rec (gen : Nat) (body rest : List UInt8) (hg : gen < 18446744073709551616) (hb : body.length ≤ 400000) : oneR gen (recB gen body ++ rest) = some body := by
  obtain ⟨h1, h2, h3, h4⟩ := recB_front gen body rest hg (by omega)
  have hl : (recB gen body ++ rest).length = body.length + 13 + rest.length := by rw [List.length_append, recB_len]
  unfold oneR
  rw [if_neg (by omega), if_neg (by rw [h1]; simp), if_neg (by rw [h2]; simp), h3, if_neg (by omega), if_neg (by omega), h4, if_neg, List.take_left' rfl]
  rw [List.getElem?_append_right (Nat.le_refl _)]
  simp

theorem oneR_other (gen gen' : Nat) (body rest : List UInt8) (hg : gen' < 18446744073709551616) (hne : gen' ≠ gen) (hb : body.length ≤ 400000) : oneR gen (recB gen' body ++ rest) = none := by
  obtain ⟨h1, h2, h3, h4⟩ := recB_front gen' body rest hg (by omega)
  unfold oneR
  split
  · rfl
  · rw [if_neg (by rw [h1]; simp), if_pos (by rw [h2]; exact hne)]

theorem scan_recs (gen : Nat) (l : List (List UInt8)) (rest : List UInt8) (hg : gen < 18446744073709551616) (hl : ∀ b ∈ l, b.length ≤ 400000) :
    scanR gen (recsB gen l ++ rest).length (recsB gen l ++ rest) = (l ++ (scanR gen rest.length rest).1, (recsB gen l).length + (scanR gen rest.length rest).2) := by
  induction l with
  | nil => simp [recsB]
  | cons b l ih =>
    have ih := ih (fun x hx => hl x (by simp [hx]))
    have e : recsB gen (b :: l) ++ rest = recB gen b ++ (recsB gen l ++ rest) := by simp [recsB]
    have h1 := oneR_rec gen b (recsB gen l ++ rest) hg (hl b (by simp))
    rw [e, scanR_some h1]
    have hd : (recB gen b ++ (recsB gen l ++ rest)).drop (b.length + 13) = recsB gen l ++ rest := List.drop_left' (recB_len _ _)
    rw [hd, ih]
    simp [recsB, recB_len]
    omega

theorem oneR_nil (gen : Nat) : oneR gen [] = none := by simp [oneR]
theorem scan_other (gen gen' : Nat) (l : List (List UInt8)) (hg : gen' < 18446744073709551616) (hne : gen' ≠ gen) (hl : ∀ b ∈ l, b.length ≤ 400000) :
    scanR gen (recsB gen' l).length (recsB gen' l) = ([], 0) := by
  apply scanR_none
  cases l with
  | nil => exact oneR_nil gen
  | cons b l =>
    have e : recsB gen' (b :: l) = recB gen' b ++ recsB gen' l := by simp [recsB]
    rw [e]
    exact oneR_other gen gen' b _ hg hne (hl b (by simp))

theorem scan_joins (gen gen' : Nat) (a b : List (List UInt8)) (hg : 1 ≤ gen ∧ gen ≤ 4611686018427387904) (hg' : gen' < 18446744073709551616) (hne : gen' ≠ gen) (ha : ∀ x ∈ a, x.length ≤ 400000) (hb : ∀ x ∈ b, x.length ≤ 400000) :
    scanA gen (recsB gen a ++ recsB gen' b) = (a, (recsB gen a).length) := by
  unfold scanA
  rw [if_neg (by omega), scan_recs gen a _ (by omega) ha, scan_other gen gen' b hg' hne hb]
  simp

end Go.Proofs.Ytanipieeegeheaa
namespace Go.Proofs.Ytanipieeegeheaa
open Go.RowKit

theorem Rds.drewN {w : World} {S : Nat → Prop} {sz n : Nat} {A : Option Addr} {xs : List Value} (h : Rds w S sz A n xs) (k : Nat) : Rds (w.drewN k) S sz A n xs := h
theorem RdB.drewN {w : World} {S : Nat → Prop} {n : Nat} {A : Option Addr} {bs : List UInt8} (h : RdB w S A n bs) (k : Nat) : RdB (w.drewN k) S A n bs := h
theorem RdL.drewN {w : World} {S : Nat → Prop} {vs : List Value} {bodies : List (List UInt8)} (h : RdL w S vs bodies) (k : Nat) : RdL (w.drewN k) S vs bodies := h
theorem Own.drewN {w : World} {base : Nat} {e : TypeId} {sz n : Nat} {v : Value} {xs : List Value} (h : w.ownsRow base e sz v n xs) (k : Nat) : (w.drewN k).ownsRow base e sz v n xs := h
theorem below_dN {B : Nat} {w w' : World} (h : Below B w w') (k : Nat) : Below B w (w'.drewN k) := ⟨h.os, h.tape, h.output, h.size, h.block⟩
theorem and_ffff (g : Nat) (hg : g < 18446744073709551616) : bits .and .u64 (g : Int) 65535 = ((g % 65536 : Nat) : Int) := by
  have h := u64_and_nat g 65535 hg (by omega)
  rw [show ((65535 : Nat) : Int) = 65535 from rfl] at h
  rw [h]
  congr 1
  exact Nat.and_two_pow_sub_one_eq_mod g 16

end Go.Proofs.Ytanipieeegeheaa
namespace Go.Proofs.Ytanipieeegeheaa
open Go.RowKit

section
variable {P : Program} {C : World → Prop} {a : Act} {o : Oper} {K : Act → Prop}
theorem wp_region_class {id : Nat} {Q : Exit → Act → World → Prop} {w : World} {l : List Oper} (C : World → Prop) (hm : P.follows .mixedOrders = true) (hB : Region.lexB .any l.toArray = true) (hC : C { w with drawn := w.drawn + 1 })
    (h : wpQuiet P l.toArray C (fun a' => ∀ w', C w' → Q .normal a' w') l a) : (Code.region id l.toArray true).wp P Q a w := wp_region_quiet hm hB hC (by simpa using h)
end

/-- A world in which all that was there in w is as it was. -/
structure After (w : World) where
  world : World
  below : Below w.heap.size w world
theorem After.some (w : World) : Nonempty (After w) := ⟨⟨w, Below.refl _ _⟩⟩
theorem After.chg {w : World} (x : After w) : Chg Nil w x.world := Chg.of_below x.below
theorem After.call {P : Program} {w : World} {f : FuncId} {args : Array Value} {r : Value} (h : ∀ W : World, Below w.heap.size w W → Calls P f args W (fun e w' => e = .returned r ∧ Below W.heap.size W w')) (x : After w) :
    Calls P f args x.world (fun e w' => e = .returned r ∧ ∃ y : After w, w' = y.world) :=
  (h x.world x.below).mono fun _ w' ⟨he, hb⟩ => ⟨he, ⟨w', x.below.trans (hb.mono x.below.size)⟩, rfl⟩
theorem wp_region_after {P : Program} {a : Act} {id : Nat} {Q : Exit → Act → World → Prop} {w : World} {l : List Oper} (hm : P.follows .mixedOrders = true) (hB : Region.lexB .any l.toArray = true)
    (h : wpQuiet P l.toArray (fun W => ∃ x : After w, W = x.world) (fun a' => ∀ w', (∃ x : After w, w' = x.world) → Q .normal a' w') l a) : (Code.region id l.toArray true).wp P Q a w :=
  wp_region_class (fun W => ∃ x : After w, W = x.world) hm hB ⟨⟨{ w with drawn := w.drawn + 1 }, ⟨rfl, rfl, rfl, Nat.le_refl _, fun _ _ => rfl⟩⟩, rfl⟩ h

end Go.Proofs.Ytanipieeegeheaa
namespace Go.Proofs.Ytanipieeegeheaa
open Go.RowKit
theorem xor_byte (x : UInt8) (y : Nat) (hy : y < 256) : Value.int .u8 (bits .xor .u8 (x.toNat : Int) (y : Int)) = bv (UInt8.ofNat (x.toNat ^^^ y)) := by
  have hx := x.toNat_lt
  have h := u8_xor_nat x.toNat y (by omega) hy
  have hl : x.toNat ^^^ y < 2 ^ 8 := Nat.xor_lt_two_pow (by omega) (by omega)
  rw [h, bv_ofNat, Nat.mod_eq_of_lt (by omega)]
/-- One of three. -/
def pickL {α : Type} (i : Nat) (a b c : α) : α := if i = 0 then a else if i = 1 then b else c
theorem pick3 {w : World} {i : Nat} (hi : i < 3) {A B D : Option Addr} {n m k c d e : Nat} {S T U : Nat → Prop} {l1 l2 l3 : List UInt8} (h1 : RdB w S A n l1) (hc1 : n ≤ c) (hm1 : c ≤ maxLen) (h2 : RdB w T B m l2) (hc2 : m ≤ d) (hm2 : d ≤ maxLen)
    (h3 : RdB w U D k l3) (hc3 : k ≤ e) (hm3 : e ≤ maxLen) :
    ∃ A' n' c', (∀ h, ([Value.slice A n c, Value.slice B m d, Value.slice D k e])[i]'h = Value.slice A' n' c') ∧ n' ≤ c' ∧ c' ≤ maxLen ∧ RdB w (fun _ => True) A' n' (pickL i l1 l2 l3) := by
  match i, hi with
  | 0, _ => exact ⟨A, n, c, fun _ => rfl, hc1, hm1, h1.wider (fun _ _ _ => trivial)⟩
  | 1, _ => exact ⟨B, m, d, fun _ => rfl, hc2, hm2, h2.wider (fun _ _ _ => trivial)⟩
  | 2, _ => exact ⟨D, k, e, fun _ => rfl, hc3, hm3, h3.wider (fun _ _ _ => trivial)⟩
theorem pickL_len {i n : Nat} {l1 l2 l3 : List UInt8} (h1 : l1.length ≤ n) (h2 : l2.length ≤ n) (h3 : l3.length ≤ n) : (pickL i l1 l2 l3).length ≤ n := by
  unfold pickL
  split
  · exact h1
  · split
    · exact h2
    · exact h3

end Go.Proofs.Ytanipieeegeheaa
namespace Go.Proofs.Ytanipieeegeheaa
open Go.RowKit
section
variable {P : Program} {ops : Array Oper} {W : World} {Q : Act → Prop}
theorem still_of_quiet {o : Oper} {a : Act} {K : Act → Prop} (h : o.quiet P a (fun w' => w' = W) K) : o.still P a W K := by
  obtain ⟨v, h1, h2⟩ := h
  have h3 := h1 W rfl
  unfold Oper.quietAt at h3
  unfold Oper.still
  generalize Sem.run P (execOp a.eval o) W = r at h3
  cases r with
  | ok x w' =>
    cases x with
    | value u => exact ⟨h3.1, by rw [h3.2]; exact h2⟩
    | skip => exact ⟨h3.1, by rw [← h3.2]; exact h2⟩
    | enter f args =>
      exact ⟨h3.1, v, h3.2.mono (fun _ _ h => h), h2⟩
    | _ => exact h3.elim
  | _ => exact h3.elim
theorem wpStill_of_quiet : ∀ (l : List Oper) (a : Act), wpQuiet P ops (fun w' => w' = W) Q l a → wpStill P ops W Q l a
  | [], _, h => h
  | o :: rest, a, h => by
    unfold wpQuiet at h
    unfold wpStill
    split
    · rename_i hw
      rw [if_pos hw] at h
      exact Oper.still_mono (fun a' h' => wpStill_of_quiet rest a' h') (still_of_quiet h)
    · rename_i hw
      rw [if_neg hw] at h
      exact wpStill_of_quiet rest _ h
end
theorem wp_region_tail {P : Program} {id : Nat} {Q : Exit → Act → World → Prop} {a : Act} {w : World} {l : List Oper} (n : Nat) (hm : P.follows .mixedOrders = true) (hB : Region.lexTailB .any l.toArray n = true)
    (h : ∀ W, W = w.drew → wpQuiet P l.toArray (fun w' => w' = W) (fun a' => wpList P l.toArray Q (l.drop n) a' W) (l.take n) a) : (Code.region id l.toArray true).wp P Q a w :=
  wp_region_still_tail n hm hB (wpStill_of_quiet _ _ (h _ rfl))

end Go.Proofs.Ytanipieeegeheaa
namespace Go.Proofs.Ytanipieeegeheaa
open Go.RowKit

/-- A point. -/
structure Pt where
  key : Int
  x : Int
  y : Int
  v : Int
/-- An op. -/
structure Oq where
  kind : Int
  pt : Pt
def Pt.cs (p : Pt) : List Value := [.int .i64 p.key, .int .i64 p.x, .int .i64 p.y, .int .i64 p.v]
def Oq.cs (o : Oq) : List Value := .int .i64 o.kind :: o.pt.cs
def keyOk (k : Int) : Bool := decide (k ≥ 1) && decide (k ≤ 2147483648)
def inOk (k : Int) : Bool := decide (k ≥ 0) && decide (k < 1073741824)
def Pt.ok (p : Pt) : Bool := keyOk p.key && inOk p.x && inOk p.y && decide (p.v ≥ -2147483648) && decide (p.v ≤ 2147483647)

theorem okKey_any (k : Int) (w : World) : Calls Try.prog 94 #[.int .i64 k] w fun e w' => e = .returned (.bool (keyOk k)) ∧ w' = w := by
  go_enter Try.func94, Try.ntmps94
  unfold keyOk
  by_cases h1 : k ≥ 1
  · have d1 : decide (k ≥ 1) = true := decide_eq_true h1
    generalize hd2 : decide (k ≤ 2147483648) = d2
    go_wp2
    go_ret
    simp_all
  · have d1 : decide (k ≥ 1) = false := decide_eq_false h1
    go_wp2
    go_ret
    simp_all

theorem okIn_any (k : Int) (w : World) : Calls Try.prog 97 #[.int .i64 k] w fun e w' => e = .returned (.bool (inOk k)) ∧ w' = w := by
  go_enter Try.func97, Try.ntmps97
  unfold inOk
  by_cases h1 : k ≥ 0
  · have d1 : decide (k ≥ 0) = true := decide_eq_true h1
    generalize hd2 : decide (k < 1073741824) = d2
    go_wp2
    go_ret
    simp_all
  · have d1 : decide (k ≥ 0) = false := decide_eq_false h1
    go_wp2
    go_ret
    simp_all

set_option maxHeartbeats 1000000 in
set_option maxRecDepth 100000 in
theorem okPoint_any (p : Pt) (w : World) : Calls Try.prog 93 #[.agg p.cs.toArray] w fun e w' => e = .returned (.bool p.ok) ∧ Chg Nil w w' := by
  obtain ⟨k, x, y, v⟩ := p
  simp only [Pt.cs, Pt.ok]
  go_enter Try.func93, Try.ntmps93
  generalize hk : keyOk k = bk
  generalize hx : inOk x = bx
  generalize hy : inOk y = by'
  generalize h1 : decide (v ≥ -2147483648) = b1
  generalize h2 : decide (v ≤ 2147483647) = b2
  have HK := Hid.mk (And.intro hk (And.intro hx hy))
  clear hk hx hy
  go_wp2_with fail
  refine (okKey_any k _).mono ?_
  rintro e w1 ⟨rfl, rfl⟩
  rw [HK.out.1]
  cases bk
  · go_wp2_with fail
    all_goals (go_ret; exact ⟨rfl, (Chg.refl _ _).alloc _⟩)
  · go_wp2_with fail
    refine (okIn_any x _).mono ?_
    rintro e w1 ⟨rfl, rfl⟩
    rw [HK.out.2.1]
    cases bx
    · go_wp2_with fail
      all_goals (go_ret; exact ⟨rfl, (Chg.refl _ _).alloc _⟩)
    · go_wp2_with fail
      refine (okIn_any y _).mono ?_
      rintro e w1 ⟨rfl, rfl⟩
      rw [HK.out.2.2]
      cases by'
      · go_wp2_with fail
        all_goals (go_ret; exact ⟨rfl, (Chg.refl _ _).alloc _⟩)
      · cases b1
        · go_wp2_with fail
          all_goals (go_ret; exact ⟨rfl, (Chg.refl _ _).alloc _⟩)
        · go_wp2_with fail
          all_goals (go_ret; exact ⟨by simp, (Chg.refl _ _).alloc _⟩)

def Pt.only (p : Pt) : Bool := decide (p.x = 0) && decide (p.y = 0) && decide (p.v = 0)
def Oq.ok (o : Oq) : Bool := if o.kind = 1 then o.pt.ok else if o.kind = 2 then keyOk o.pt.key && o.pt.only else false

set_option maxHeartbeats 1000000 in
set_option maxRecDepth 100000 in
theorem okOp_any (o : Oq) (w : World) : Calls Try.prog 74 #[.agg o.cs.toArray] w fun e w' => e = .returned (.bool o.ok) ∧ Chg Nil w w' := by
  obtain ⟨kd, p⟩ := o
  by_cases h1 : kd = 1
  · subst h1
    have hok : Oq.ok ⟨1, p⟩ = p.ok := rfl
    rw [hok]
    have HP := Hid.mk (fun W => okPoint_any p W)
    generalize hb : p.ok = b at *
    obtain ⟨k, x, y, v⟩ := p
    simp only [Oq.cs, Pt.cs]
    go_enter Try.func74, Try.ntmps74
    go_wp2_with fail
    refine (HP.out _).mono ?_
    rintro e w1 ⟨rfl, hc⟩
    have HC := Hid.mk hc
    clear hc
    go_wp2_with fail
    all_goals (go_ret; exact ⟨rfl, ((Chg.refl _ _).alloc _).trans HC.out fun _ _ h => h⟩)
  · by_cases h2 : kd = 2
    · subst h2
      have hok : Oq.ok ⟨2, p⟩ = (keyOk p.key && p.only) := rfl
      rw [hok]
      obtain ⟨k, x, y, v⟩ := p
      simp only [Oq.cs, Pt.cs, Pt.only]
      generalize hk : keyOk k = b
      have HK := Hid.mk hk
      clear hk
      go_enter Try.func74, Try.ntmps74
      go_wp2_with fail
      refine (okKey_any k _).mono ?_
      rintro e w1 ⟨rfl, rfl⟩
      rw [HK.out]
      cases b
      · go_wp2_with fail
        all_goals (go_ret; exact ⟨rfl, (Chg.refl _ _).alloc _⟩)
      · go_wp2_with fail
        all_goals (go_ret; exact ⟨by simp_all, (Chg.refl _ _).alloc _⟩)
    · have hok : Oq.ok ⟨kd, p⟩ = false := by simp [Oq.ok, h1, h2]
      rw [hok]
      obtain ⟨k, x, y, v⟩ := p
      simp only [Oq.cs, Pt.cs]
      have d1 : decide (kd = 1) = false := decide_eq_false h1
      have d2 : decide (kd = 2) = false := decide_eq_false h2
      have e1 : ((kd : Int) == 1) = false := by simpa using h1
      have e2 : ((kd : Int) == 2) = false := by simpa using h2
      go_enter Try.func74, Try.ntmps74
      go_wp2_with fail
      all_goals (go_ret; exact ⟨rfl, (Chg.refl _ _).alloc _⟩)

end Go.Proofs.Ytanipieeegeheaa
namespace Go.Proofs.Ytanipieeegeheaa
open Go.RowKit

/-- What uint64 makes of an integer. -/
def un (n : Int) : Nat := (n % 18446744073709551616).toNat
theorem un_lt (n : Int) : un n < 18446744073709551616 := by unfold un; omega
theorem un_val (n : Int) : Value.int .u64 (IntKind.u64.wrap n) = .int .u64 (un n : Nat) := by
  rw [IntKind.wrap_u64]
  unfold un
  congr 1
  omega
def Pt.is (p : Pt) : List Int := [p.key, p.x, p.y, p.v]
def numsB (l : List Int) : List UInt8 := l.flatMap fun n => numB (un n) 4
def Pt.bytes (p : Pt) : List UInt8 := numsB p.is

set_option maxHeartbeats 1000000 in
set_option maxRecDepth 100000 in
theorem put_any (base : Nat) (v : Value) (n : Nat) (xs : List Value) (p : Pt) (w : World) (hn : n ≤ 900000)
    (hown : w.ownsRow base 5 1 v n xs) (hb : base ≤ w.heap.size) :
    Calls Try.prog 75 #[v, .agg p.cs.toArray] w fun e w' => ∃ v', e = .returned v' ∧ w'.ownsRow base 5 1 v' (n + 16) (xs ++ p.bytes.map bv) ∧ Grew w v w' v' := by
  have hlt := own_lt hown
  have hcs : p.cs = p.is.map fun n => Value.int .i64 n := rfl
  have hbt : p.bytes = numsB p.is := rfl
  rw [hcs, hbt]
  have hlen : p.is.length = 4 := rfl
  generalize hl : p.is = l at *
  have hsp : ∃ a b c d, l = [a, b, c, d] := ⟨p.key, p.x, p.y, p.v, hl.symm⟩
  obtain ⟨k, x, y, z, rfl⟩ := hsp
  clear hl hcs hbt
  have H0 := Hid.mk (And.intro hown (And.intro hb hlt))
  clear hown hb hlt
  simp only [List.map_cons, List.map_nil]
  go_enter Try.func75, Try.ntmps75
  go_wp2_with fail
  obtain ⟨w1, hw1⟩ : ∃ w1, w1 = (w.alloc (.cells #[.int .i64 k, .int .i64 x, .int .i64 y, .int .i64 z] 30)).alloc (.cells #[.int .i64 k, .int .i64 x, .int .i64 y, .int .i64 z] 2) := ⟨_, rfl⟩
  rw [← hw1]
  have F : Hid (w1.ownsRow base 5 1 v n xs ∧ w1.heap.size = w.heap.size + 2 ∧ Grew w v w1 v ∧ Bk w1 (w.heap.size + 1) 2 #[.int .i64 k, .int .i64 x, .int .i64 y, .int .i64 z]) := by
    subst hw1
    refine Hid.mk ⟨(H0.out.1.alloc _).alloc _, by simp, ⟨((Chg.refl _ _).alloc _).alloc _, fun _ _ h => h⟩, ?_⟩
    have := Bk.new (w.alloc (.cells #[.int .i64 k, .int .i64 x, .int .i64 y, .int .i64 z] 30)) 2 #[.int .i64 k, .int .i64 x, .int .i64 y, .int .i64 z]
    simpa using this
  clear hw1
  go_loopw [0, 17] (fun vv i wr => ∃ m : Nat, m ≤ 4 ∧ i = .int .i64 m ∧ Hid (wr.ownsRow base 5 1 vv (n + 4 * m) (xs ++ (numsB (([k, x, y, z] : List Int).take m)).map bv) ∧ Grew w1 v wr vv)) (fun _ i _ => 4 - (intOf i).toNat)
  case atStart => exact ⟨0, Nat.zero_le _, rfl, Hid.mk ⟨by simpa [numsB] using F.out.1, Grew.refl _ _⟩⟩
  case round =>
    obtain ⟨m, hm, rfl, HR⟩ := hrel
    have hB : Bk wr (w.heap.size + 1) 2 #[.int .i64 k, .int .i64 x, .int .i64 y, .int .i64 z] := F.out.2.2.2.keep HR.out.2.chg (fun h => by have := H0.out.2.2 _ h; omega)
    by_cases hm4 : m < 4
    · have hg : ∃ g, wr.cell? ⟨w.heap.size + 1, m, none⟩ = some (.int .i64 g) ∧ numsB (([k, x, y, z] : List Int).take (m + 1)) = numsB (([k, x, y, z] : List Int).take m) ++ numB (un g) 4 := by
        have hm' : m = 0 ∨ m = 1 ∨ m = 2 ∨ m = 3 := by omega
        rcases hm' with rfl | rfl | rfl | rfl
        · exact ⟨k, hB.cell 0 rfl, by simp [numsB]⟩
        · exact ⟨x, hB.cell 1 rfl, by simp [numsB]⟩
        · exact ⟨y, hB.cell 2 rfl, by simp [numsB]⟩
        · exact ⟨z, hB.cell 3 rfl, by simp [numsB]⟩
      obtain ⟨g, hc, hn1⟩ := hg
      have HN := Hid.mk (And.intro hn1 hB)
      clear hn1 hB
      go_wp2_with fail
      rw [un_val]
      refine (number_any base _ (n + 4 * m) _ (un g) 4 wr (by omega) (un_lt g) (by omega) HR.out.1 (by have := F.out.2.1; have := HR.out.2.chg.size; have := H0.out.2.1; omega)).mono ?_
      rintro e w2 ⟨v2, rfl, ho2, hg2⟩
      have G := Hid.mk (And.intro ho2 hg2)
      clear ho2 hg2
      go_wp2_with fail
      go_roundw
      case rel =>
        refine ⟨m + 1, by omega, by go_num, Hid.mk ⟨?_, HR.out.2.trans G.out.2⟩⟩
        have h := G.out.1
        rw [HN.out.1, List.map_append, ← List.append_assoc, show n + 4 * (m + 1) = n + 4 * m + 4 by omega]
        exact h
      case measure => simp [intOf]; omega
    · have : m = 4 := by omega
      subst this
      clear hB
      go_wp2_with fail
      all_goals (go_ret; exact ⟨_, rfl, by simpa using HR.out.1, F.out.2.2.1.trans HR.out.2⟩)

end Go.Proofs.Ytanipieeegeheaa
namespace Go.Proofs.Ytanipieeegeheaa
open Go.RowKit

/-- A slice reads ops. -/
def RdO (w : World) (S : Nat → Prop) (A : Option Addr) (n : Nat) (l : List Oq) : Prop := Rds w S 5 A n (l.flatMap Oq.cs)

theorem ops_get (l : List Oq) (m : Nat) (o : Oq) (h : l[m]? = some o) (j : Nat) (u : Value) (hj : o.cs[j]? = some u) : (l.flatMap Oq.cs)[m * 5 + j]? = some u := by
  induction l generalizing m with
  | nil => simp at h
  | cons a t ih =>
    cases m with
    | zero =>
      simp at h
      subst h
      have hlt : j < a.cs.length := by
        rcases Nat.lt_or_ge j a.cs.length with h | h
        · exact h
        · rw [List.getElem?_eq_none h] at hj; cases hj
      rw [List.flatMap_cons, Nat.zero_mul, Nat.zero_add, List.getElem?_append_left hlt]
      exact hj
    | succ m =>
      have ha : a.cs.length = 5 := rfl
      rw [List.flatMap_cons, List.getElem?_append_right (by rw [ha]; omega), ha, show (m + 1) * 5 + j - 5 = m * 5 + j by omega]
      exact ih m (by simpa using h)
theorem ops_len (l : List Oq) : (l.flatMap Oq.cs).length = l.length * 5 := by
  induction l with
  | nil => rfl
  | cons a t ih => rw [List.flatMap_cons, List.length_append, ih]; simp [Oq.cs, Pt.cs]; omega
theorem RdO.len {w : World} {S : Nat → Prop} {A : Option Addr} {n : Nat} {l : List Oq} (h : RdO w S A n l) : l.length = n := by
  have := h.1
  rw [ops_len] at this
  omega
theorem load_list (P : Program) (W : World) (a : Addr) (cs : List Value) (k : Nat) (hk : cs.length = k) (h : ∀ j v, cs[j]? = some v → W.cell? (a.add j) = some v) :
    Sem.run P (loadCellsFrom a 0 k #[]) W = .ok cs.toArray W := by
  have := run_loadCells_list (P := P) (w := W) a cs h
  rw [hk] at this
  simpa [loadCells] using this

set_option maxHeartbeats 1000000 in
set_option maxRecDepth 100000 in
theorem badOp_any (o : Oq) (w : World) : Calls Try.prog 73 #[.agg o.cs.toArray] w fun e w' => e = .returned (.bool (!o.ok)) ∧ Chg Nil w w' := by
  have HP := Hid.mk (fun W => okOp_any o W)
  generalize hb : o.ok = b at *
  obtain ⟨kd, k, x, y, v⟩ := o
  simp only [Oq.cs, Pt.cs]
  go_enter Try.func73, Try.ntmps73
  go_wp2_with fail
  refine (HP.out _).mono ?_
  rintro e w1 ⟨rfl, hc⟩
  have HC := Hid.mk hc
  clear hc
  go_wp2_with fail
  all_goals (go_ret; exact ⟨rfl, ((Chg.refl _ _).alloc _).trans HC.out fun _ _ h => h⟩)

set_option maxHeartbeats 1000000 in
set_option maxRecDepth 100000 in
theorem index_any (A : Option Addr) (n c : Nat) (l : List Oq) (S : Nat → Prop) (w : World) (hr : RdO w S A n l) (hc : n ≤ c) (hcm : c ≤ maxLen) :
    Calls Try.prog 92 #[.slice A n c, .func (.func 73) #[] #[]] w fun e w' => ∃ r : Int, e = .returned (.int .i64 r) ∧ decide (r ≥ 0) = (l.any fun o => !o.ok) ∧ Chg Nil w w' := by
  obtain rfl := hr.len
  unfold maxLen at hcm
  have hfree : ∀ k, k < w.heap.size → Nil k → False := fun _ _ h => h
  rcases Nat.eq_zero_or_pos l.length with h0 | hpos
  · have hl : l = [] := List.length_eq_zero_iff.1 h0
    subst hl
    clear hr
    simp only [List.length_nil]
    go_enter Try.func92, Try.ntmps92
    go_wp2_with fail
    go_loopw [8] (fun i wr => i = .int .i64 0 ∧ wr = w) (fun _ _ => 0)
    case atStart => exact ⟨rfl, rfl⟩
    case round =>
      obtain ⟨rfl, rfl⟩ := hrel
      go_wp2_with fail
      all_goals (go_ret; exact ⟨-1, rfl, by simp, Chg.refl _ _⟩)
  · obtain ⟨b, off, rfl, hS, hlt, hcell⟩ := Rds.plain hr hpos (by omega)
    have HS := Hid.mk (And.intro hS (And.intro hlt (And.intro hcell hr)))
    clear hS hlt hcell hr hfree
    go_enter Try.func92, Try.ntmps92
    go_wp2_with fail
    go_loopw [8] (fun i wr => ∃ m : Nat, m ≤ l.length ∧ i = .int .i64 m ∧ Hid ((∀ o ∈ l.take m, o.ok = true) ∧ Chg Nil w wr)) (fun i _ => l.length - (intOf i).toNat)
    case atStart => exact ⟨0, Nat.zero_le _, rfl, Hid.mk ⟨by simp, Chg.refl _ _⟩⟩
    case round =>
      obtain ⟨m, hm, rfl, HR⟩ := hrel
      by_cases hml : m < l.length
      · obtain ⟨o, ho⟩ : ∃ o, l[m]? = some o := ⟨l[m], List.getElem?_eq_getElem hml⟩
        have hcl : ∀ j v, o.cs[j]? = some v → wr.cell? ⟨b, off + m * 5 + j, none⟩ = some v := fun j v hj => by
          have h1 := HS.out.2.2.1 _ v (ops_get l m o ho j v hj)
          rw [Nat.add_assoc]
          have := HR.out.2.old b HS.out.2.1 (fun h => h)
          simp only [World.cell?] at h1 ⊢
          rw [this]
          exact h1
        have q0 : wr.cell? ⟨b, off + m * 5, none⟩ = some (.int .i64 o.kind) := hcl 0 _ rfl
        have q1 : wr.cell? ⟨b, off + m * 5 + 1, none⟩ = some (.int .i64 o.pt.key) := hcl 1 _ rfl
        have q2 : wr.cell? ⟨b, off + m * 5 + 2, none⟩ = some (.int .i64 o.pt.x) := hcl 2 _ rfl
        have q3 : wr.cell? ⟨b, off + m * 5 + 3, none⟩ = some (.int .i64 o.pt.y) := hcl 3 _ rfl
        have q4 : wr.cell? ⟨b, off + m * 5 + 4, none⟩ = some (.int .i64 o.pt.v) := hcl 4 _ rfl
        have HO := Hid.mk ho
        clear ho hcl
        go_wp2_with fail
        refine (badOp_any o _).mono ?_
        rintro e w2 ⟨rfl, hc2⟩
        have HC := Hid.mk (HR.out.2.trans hc2 fun _ _ h => h)
        clear hc2 q0 q1 q2 q3 q4
        generalize hok : o.ok = bo
        have HB := Hid.mk hok
        clear hok
        cases bo
        · go_wp2_with fail
          all_goals (go_ret; refine ⟨m, rfl, ?_, HC.out⟩)
          all_goals
            have h1 : (l.any fun o => !o.ok) = true := List.any_eq_true.2 ⟨o, List.mem_of_getElem? HO.out, by simp [HB.out]⟩
            rw [h1]
            exact decide_eq_true (by omega)
        · go_wp2_with fail
          go_roundw
          case rel =>
            refine ⟨m + 1, by omega, by go_num, Hid.mk ⟨fun q hq => ?_, HC.out⟩⟩
            rw [List.take_add_one, HO.out] at hq
            rcases List.mem_append.1 hq with h | h
            · exact HR.out.1 q h
            · have : q = o := by simpa using h
              rw [this]; exact HB.out
          case measure => simp [intOf]; omega
      · have : m = l.length := by omega
        subst this
        go_wp2_with fail
        all_goals (go_ret; exact ⟨-1, rfl, by have := HR.out.1; simp at this; simpa using this, HR.out.2⟩)

set_option maxHeartbeats 1000000 in
set_option maxRecDepth 100000 in
theorem contains_any (A : Option Addr) (n c : Nat) (l : List Oq) (S : Nat → Prop) (w : World) (hr : RdO w S A n l) (hc : n ≤ c) (hcm : c ≤ maxLen) :
    Calls Try.prog 72 #[.slice A n c, .func (.func 73) #[] #[]] w fun e w' => e = .returned (.bool (l.any fun o => !o.ok)) ∧ Chg Nil w w' := by
  have H := Hid.mk (index_any A n c l S w hr hc hcm)
  clear hr hc hcm
  go_enter Try.func72, Try.ntmps72
  go_wp2_with fail
  refine H.out.mono ?_
  rintro e w1 ⟨r, rfl, hd, hc1⟩
  have HC := Hid.mk (And.intro hd hc1)
  clear hc1 hd
  go_wp2_with fail
  all_goals (go_ret; exact ⟨by rw [← HC.out.1]; rfl, HC.out.2⟩)

end Go.Proofs.Ytanipieeegeheaa
namespace Go.Proofs.Ytanipieeegeheaa
open Go.RowKit

/-- An op's bytes. -/
def Oq.bytes (o : Oq) : List UInt8 := UInt8.ofNat (un o.kind) :: (if o.kind = 1 then o.pt.bytes else numB (un o.pt.key) 4)
def batB (l : List Oq) : List UInt8 := l.flatMap Oq.bytes
/-- What Batch says. -/
def batE (l : List Oq) : Nat := if 500 < l.length then 11 else if l.length = 0 ∨ (l.any fun o => !o.ok) = true then 1 else 0

set_option maxHeartbeats 1000000 in
set_option maxRecDepth 100000 in
theorem batch_bad (A : Option Addr) (n c : Nat) (l : List Oq) (S : Nat → Prop) (w : World) (hr : RdO w S A n l) (hc : n ≤ c) (hcm : c ≤ maxLen) (hbad : batE l ≠ 0) :
    Calls Try.prog 47 #[.slice A n c] w fun e w' => e = .returned (.tuple #[.slice none 0 0, .int .i64 (batE l : Nat)]) ∧ Chg Nil w w' := by
  obtain rfl := hr.len
  unfold batE at *
  by_cases h5 : 500 < l.length
  · simp only [h5, if_true]
    clear hr hbad
    go_enter Try.func47, Try.ntmps47
    go_wp2_with fail
    all_goals (go_ret2; exact ⟨rfl, Chg.refl _ _⟩)
  · simp only [h5, if_false] at hbad ⊢
    by_cases h0 : l.length = 0
    · have hl : l = [] := List.length_eq_zero_iff.1 h0
      subst hl
      clear hr hbad
      simp only [List.length_nil, true_or, if_true]
      go_enter Try.func47, Try.ntmps47
      go_wp2_with fail
      all_goals (go_ret2; exact ⟨rfl, Chg.refl _ _⟩)
    · have hany : (l.any fun o => !o.ok) = true := by
        by_cases h : (l.any fun o => !o.ok) = true
        · exact h
        · simp [h0, h] at hbad
      simp only [hany, or_true, if_true]
      have H := Hid.mk (And.intro hany (fun W hW => contains_any A l.length c l S W (Rds.keep hr hW fun _ _ h => h) hc hcm))
      clear hr hbad hany
      have hlen : decide (500 < (l.length : Int)) = false := decide_eq_false (by omega)
      have hne : ((l.length : Int) == 0) = false := by simpa using h0
      go_enter Try.func47, Try.ntmps47
      go_wp2_with fail
      refine (H.out.2 _ (Chg.refl Nil _)).mono ?_
      rintro e w1 ⟨rfl, hc1⟩
      rw [H.out.1]
      have HC := Hid.mk hc1
      clear hc1
      go_wp2_with fail
      all_goals (go_ret2; exact ⟨rfl, HC.out⟩)

end Go.Proofs.Ytanipieeegeheaa
namespace Go.Proofs.Ytanipieeegeheaa
open Go.RowKit

theorem kind_of_ok {o : Oq} (h : o.ok = true) : o.kind = 1 ∨ o.kind = 2 := by
  unfold Oq.ok at h
  split at h
  · exact .inl ‹_›
  · split at h
    · exact .inr ‹_›
    · cases h
theorem batB_len (l : List Oq) : (batB l).length ≤ 17 * l.length := by
  induction l with
  | nil => simp [batB]
  | cons a t ih =>
    have : a.bytes.length ≤ 17 := by
      unfold Oq.bytes
      split
      · simp [Pt.bytes, numsB, Pt.is, numB_len]
      · simp [numB_len]
    simp only [batB, List.flatMap_cons, List.length_append, List.length_cons] at *
    omega

set_option maxHeartbeats 1000000 in
set_option maxRecDepth 100000 in
theorem batch_ok (A : Option Addr) (n c : Nat) (l : List Oq) (S : Nat → Prop) (w : World) (hr : RdO w S A n l) (hc : n ≤ c) (hcm : c ≤ maxLen) (hgood : batE l = 0) :
    Calls Try.prog 47 #[.slice A n c] w fun e w' => ∃ v', e = .returned (.tuple #[v', .int .i64 0]) ∧ Chg Nil w w' ∧ w'.ownsRow w.heap.size 5 1 v' (batB l).length ((batB l).map bv) := by
  obtain ⟨i0, hi, hz0, hz1, hz2⟩ := info_parts Try.infoByte
  obtain rfl := hr.len
  unfold batE at hgood
  have h5 : ¬ 500 < l.length := fun h => by simp [h] at hgood
  have h0 : ¬ l.length = 0 := fun h => by simp [h] at hgood
  have hany : (l.any fun o => !o.ok) = false := by
    cases h : (l.any fun o => !o.ok) with
    | false => rfl
    | true => simp [h5, h] at hgood
  have hall : ∀ o ∈ l, o.ok = true := fun o ho => by simpa using (List.any_eq_false.1 hany o ho)
  obtain ⟨b, off, rfl, hS, hlt, hcell⟩ := Rds.plain hr (by omega) (by omega)
  have H := Hid.mk (And.intro hany (And.intro (fun W hW => contains_any (some ⟨b, off, none⟩) l.length c l S W (Rds.keep hr hW fun _ _ h => h) hc hcm) (And.intro hlt (And.intro hcell hall))))
  clear hr hgood hany hall hcell hlt hS
  have hlen : decide (500 < (l.length : Int)) = false := decide_eq_false (by omega)
  have hne : ((l.length : Int) == 0) = false := by simpa using h0
  go_enter Try.func47, Try.ntmps47
  go_wp2_with fail
  refine (H.out.2.1 _ (Chg.refl Nil _)).mono ?_
  rintro e w1 ⟨rfl, hc1⟩
  rw [H.out.1]
  have HC := Hid.mk hc1
  clear hc1
  go_wp2_with fail
  go_loopw [4, 21] (fun vv i wr => ∃ m : Nat, m ≤ l.length ∧ i = .int .i64 m ∧ Hid (wr.ownsRow w.heap.size 5 1 vv (batB (l.take m)).length ((batB (l.take m)).map bv) ∧ Chg Nil w wr)) (fun _ i _ => l.length - (intOf i).toNat)
  case atStart => exact ⟨0, Nat.zero_le _, rfl, Hid.mk ⟨⟨rfl, .inl ⟨rfl, rfl⟩⟩, HC.out⟩⟩
  case round =>
    obtain ⟨m, hm, rfl, HR⟩ := hrel
    by_cases hml : m < l.length
    · obtain ⟨o, ho⟩ : ∃ o, l[m]? = some o := ⟨l[m], List.getElem?_eq_getElem hml⟩
      have hcl : ∀ j v, o.cs[j]? = some v → wr.cell? ⟨b, off + m * 5 + j, none⟩ = some v := fun j v hj => by
        have h1 := H.out.2.2.2.1 _ v (ops_get l m o ho j v hj)
        rw [Nat.add_assoc]
        have := HR.out.2.old b H.out.2.2.1 (fun h => h)
        simp only [World.cell?] at h1 ⊢
        rw [this]
        exact h1
      have q0 : wr.cell? ⟨b, off + m * 5, none⟩ = some (.int .i64 o.kind) := hcl 0 _ rfl
      have q1 : wr.cell? ⟨b, off + m * 5 + 1, none⟩ = some (.int .i64 o.pt.key) := hcl 1 _ rfl
      have q2 : wr.cell? ⟨b, off + m * 5 + 2, none⟩ = some (.int .i64 o.pt.x) := hcl 2 _ rfl
      have q3 : wr.cell? ⟨b, off + m * 5 + 3, none⟩ = some (.int .i64 o.pt.y) := hcl 3 _ rfl
      have q4 : wr.cell? ⟨b, off + m * 5 + 4, none⟩ = some (.int .i64 o.pt.v) := hcl 4 _ rfl
      have HO := Hid.mk (And.intro ho (H.out.2.2.2.2 o (List.mem_of_getElem? ho)))
      clear ho hcl
      have hR1 : ∀ o1 u, Rds ((wr.alloc o1).alloc (.cells #[u] 5)) (fun k => k = wr.heap.size + 1) 1 (some ⟨wr.heap.size + 1, 0, none⟩) 1 [u] := fun o1 u => by simpa using rds_one (wr.alloc o1) u 5
      have hL := batB_len (l.take m)
      have hL2 : (l.take m).length ≤ 500 := by rw [List.length_take]; omega
      generalize hN : (batB (l.take m)).length = N at *
      have h63 : N + 1 ≤ maxLen := by simp only [maxLen]; omega
      go_wp2_with (at_builtin; refine wpl_append rfl (.tmp 25) (.tmp 29) 46 rfl w.heap.size 5 i0 _ 1 1 Try.underlying46 hi hz0 hz1 hz2 rfl (by omega) _ N _ rfl ((HR.out.1.alloc _).alloc _) _ (some ⟨wr.heap.size + 1, 0, none⟩) 1 1 _ rfl (hR1 _ _) ?c1 ?c2 ?c3 ?c4 ?_)
      case c1 => intro u hu; simp at hu; subst hu; rfl
      case c2 => exact h63
      case c3 => omega
      case c4 => have := HR.out.2.size; simp; omega
      rintro v' w' hown' hg'
      have hbx : Bk w' wr.heap.size 32 #[.int .i64 o.kind, .int .i64 o.pt.key, .int .i64 o.pt.x, .int .i64 o.pt.y, .int .i64 o.pt.v] :=
        ((Bk.new wr _ _).alloc _).keep hg'.chg (fun h => by have := own_lt HR.out.1 _ h; omega)
      have G := Hid.mk (And.intro hown' hg')
      clear hown' hg' q0 q1 q2 q3 q4 hR1
      have c0 : w'.cell? ⟨wr.heap.size, 0, none⟩ = some (.int .i64 o.kind) := hbx.cell 0 rfl
      have c1 : w'.cell? ⟨wr.heap.size, 1, none⟩ = some (.int .i64 o.pt.key) := hbx.cell 1 rfl
      have c2 : w'.cell? ⟨wr.heap.size, 2, none⟩ = some (.int .i64 o.pt.x) := hbx.cell 2 rfl
      have c3 : w'.cell? ⟨wr.heap.size, 3, none⟩ = some (.int .i64 o.pt.y) := hbx.cell 3 rfl
      have c4 : w'.cell? ⟨wr.heap.size, 4, none⟩ = some (.int .i64 o.pt.v) := hbx.cell 4 rfl
      clear hbx
      rcases kind_of_ok HO.out.2 with hk | hk
      · rw [hk] at c0
        go_wp2_with fail
        refine (put_any w.heap.size v' (N + 1) _ o.pt w' (by omega) G.out.1 (by have := HR.out.2.size; have := G.out.2.chg.size; simp at this; omega)).mono ?_
        rintro e w2 ⟨v2, rfl, ho2, hg2⟩
        have G2 := Hid.mk (And.intro ho2 hg2)
        clear ho2 hg2 c0 c1 c2 c3 c4
        go_wp2_with fail
        go_roundw
        case rel =>
          have hb2 : batB (l.take (m + 1)) = batB (l.take m) ++ o.bytes := by
            rw [List.take_add_one, HO.out.1]
            simp [batB]
          refine ⟨m + 1, by omega, by go_num, Hid.mk ⟨?_, ?_⟩⟩
          · have h := G2.out.1
            rw [hb2, List.length_append, hN, List.map_append]
            have hby : bv (UInt8.ofNat (un 1)) = Value.int .u8 1 := by rw [bv_ofNat]; rfl
            simpa [Oq.bytes, hk, hby, Pt.bytes, numsB, Pt.is, numB_len, Nat.add_assoc] using h
          · have hg := (G.out.2.alloc_left.alloc_left.trans G2.out.2).chg
            exact HR.out.2.trans hg (fun k hk h => by have := own_ge HR.out.1 _ h; omega)
        case measure => simp [intOf]; omega
      · rw [hk] at c0
        go_wp2_with fail
        rw [un_val]
        refine (number_any w.heap.size v' (N + 1) _ (un o.pt.key) 4 w' (by omega) (un_lt _) (by omega) G.out.1 (by have := HR.out.2.size; have := G.out.2.chg.size; simp at this; omega)).mono ?_
        rintro e w2 ⟨v2, rfl, ho2, hg2⟩
        have G2 := Hid.mk (And.intro ho2 hg2)
        clear ho2 hg2 c0 c1 c2 c3 c4
        go_wp2_with fail
        go_roundw
        case rel =>
          have hb2 : batB (l.take (m + 1)) = batB (l.take m) ++ o.bytes := by
            rw [List.take_add_one, HO.out.1]
            simp [batB]
          refine ⟨m + 1, by omega, by go_num, Hid.mk ⟨?_, ?_⟩⟩
          · have h := G2.out.1
            rw [hb2, List.length_append, hN, List.map_append]
            have hby : bv (UInt8.ofNat (un 2)) = Value.int .u8 2 := by rw [bv_ofNat]; rfl
            simpa [Oq.bytes, hk, hby, Pt.bytes, numsB, Pt.is, numB_len, Nat.add_assoc] using h
          · have hg := (G.out.2.alloc_left.alloc_left.trans G2.out.2).chg
            exact HR.out.2.trans hg (fun k hk h => by have := own_ge HR.out.1 _ h; omega)
        case measure => simp [intOf]; omega
    · have : m = l.length := by omega
      subst this
      go_wp2_with fail
      all_goals (go_ret2; exact ⟨_, rfl, HR.out.2, by simpa using HR.out.1⟩)

end Go.Proofs.Ytanipieeegeheaa
namespace Go.Proofs.Ytanipieeegeheaa
open Go.RowKit

set_option maxHeartbeats 1000000 in
set_option maxRecDepth 100000 in
theorem world_any (x y : Int) (w : World) : Calls Try.prog 79 #[.int .i64 x, .int .i64 y] w fun e w' => e = .returned (.bool (inOk x && inOk y)) ∧ w' = w := by
  go_enter Try.func79, Try.ntmps79
  unfold inOk
  by_cases h1 : x ≥ 0
  · have d1 : decide (x ≥ 0) = true := decide_eq_true h1
    by_cases h2 : x < 1073741824
    · have d2 : decide (x < 1073741824) = true := decide_eq_true h2
      by_cases h3 : y ≥ 0
      · have d3 : decide (y ≥ 0) = true := decide_eq_true h3
        generalize hd4 : decide (y < 1073741824) = d4
        go_wp2
        go_ret
        simp_all
      · have d3 : decide (y ≥ 0) = false := decide_eq_false h3
        go_wp2
        go_ret
        simp_all
    · have d2 : decide (x < 1073741824) = false := decide_eq_false h2
      go_wp2
      go_ret
      simp_all
  · have d1 : decide (x ≥ 0) = false := decide_eq_false h1
    go_wp2
    go_ret
    simp_all

set_option maxHeartbeats 1000000 in
set_option maxRecDepth 100000 in
theorem rpointOk_any (p : Pt) (w : World) : Calls Try.prog 54 #[.agg p.cs.toArray] w fun e w' => e = .returned (.bool p.ok) ∧ Chg Nil w w' := by
  obtain ⟨k, x, y, v⟩ := p
  have hv : decide (v ≤ 2147483647) = decide (v < 2147483648) := by rw [decide_eq_decide]; omega
  simp only [Pt.cs, Pt.ok, hv]
  generalize hxy : (inOk x && inOk y) = bxy
  have hall : (keyOk k && inOk x && inOk y && decide (v ≥ -2147483648) && decide (v < 2147483648)) = (keyOk k && bxy && decide (v ≥ -2147483648) && decide (v < 2147483648)) := by rw [← hxy, Bool.and_assoc (keyOk k)]
  rw [hall]
  have HX := Hid.mk hxy
  clear hall hxy hv
  unfold keyOk
  go_enter Try.func54, Try.ntmps54
  by_cases h1 : k ≥ 1
  · have d1 : decide (k ≥ 1) = true := decide_eq_true h1
    by_cases h2 : k ≤ 2147483648
    · have d2 : decide (k ≤ 2147483648) = true := decide_eq_true h2
      rw [d1, d2]
      go_wp2_with fail
      refine (world_any x y _).mono ?_
      rintro e w1 ⟨rfl, rfl⟩
      rw [HX.out]
      cases bxy
      · go_wp2_with fail
        all_goals (go_ret; exact ⟨rfl, (Chg.refl _ _).alloc _⟩)
      · by_cases h3 : v ≥ -2147483648
        · have d3 : decide (v ≥ -2147483648) = true := decide_eq_true h3
          generalize hd4 : decide (v < 2147483648) = d4
          go_wp2_with fail
          all_goals (go_ret; exact ⟨by first | rfl | simp [*] | simp_all, (Chg.refl _ _).alloc _⟩)
        · have d3 : decide (v ≥ -2147483648) = false := decide_eq_false h3
          go_wp2_with fail
          all_goals (go_ret; exact ⟨by first | rfl | simp [*] | simp_all, (Chg.refl _ _).alloc _⟩)
    · have d2 : decide (k ≤ 2147483648) = false := decide_eq_false h2
      rw [d1, d2]
      go_wp2_with fail
      all_goals (go_ret; exact ⟨by first | rfl | simp [*] | simp_all, (Chg.refl _ _).alloc _⟩)
  · have d1 : decide (k ≥ 1) = false := decide_eq_false h1
    rw [d1]
    go_wp2_with fail
    all_goals (go_ret; exact ⟨by first | rfl | simp [*] | simp_all, (Chg.refl _ _).alloc _⟩)

set_option maxHeartbeats 1000000 in
set_option maxRecDepth 100000 in
theorem ropOk_any (o : Oq) (w : World) : Calls Try.prog 20 #[.agg o.cs.toArray] w fun e w' => e = .returned (.bool o.ok) ∧ Chg Nil w w' := by
  obtain ⟨kd, p⟩ := o
  by_cases h1 : kd = 1
  · subst h1
    have hok : Oq.ok ⟨1, p⟩ = p.ok := rfl
    rw [hok]
    have HP := Hid.mk (fun W => rpointOk_any p W)
    generalize hb : p.ok = b at *
    obtain ⟨k, x, y, v⟩ := p
    simp only [Oq.cs, Pt.cs]
    go_enter Try.func20, Try.ntmps20
    go_wp2_with fail
    refine (HP.out _).mono ?_
    rintro e w1 ⟨rfl, hc⟩
    have HC := Hid.mk hc
    clear hc
    go_wp2_with fail
    all_goals (go_ret; exact ⟨rfl, ((Chg.refl _ _).alloc _).trans HC.out fun _ _ h => h⟩)
  · have e1 : ((kd : Int) == 1) = false := by simpa using h1
    by_cases h2 : kd = 2
    · subst h2
      have hok : Oq.ok ⟨2, p⟩ = (keyOk p.key && p.only) := rfl
      rw [hok]
      obtain ⟨k, x, y, v⟩ := p
      simp only [Oq.cs, Pt.cs, Pt.only]
      unfold keyOk
      go_enter Try.func20, Try.ntmps20
      by_cases h3 : k ≥ 1
      · have d1 : decide (k ≥ 1) = true := decide_eq_true h3
        by_cases h4 : k ≤ 2147483648
        · have d2 : decide (k ≤ 2147483648) = true := decide_eq_true h4
          go_wp2_with fail
          all_goals (go_ret; exact ⟨by simp_all, (Chg.refl _ _).alloc _⟩)
        · have d2 : decide (k ≤ 2147483648) = false := decide_eq_false h4
          go_wp2_with fail
          all_goals (go_ret; exact ⟨by simp_all, (Chg.refl _ _).alloc _⟩)
      · have d1 : decide (k ≥ 1) = false := decide_eq_false h3
        go_wp2_with fail
        all_goals (go_ret; exact ⟨by simp_all, (Chg.refl _ _).alloc _⟩)
    · have hok : Oq.ok ⟨kd, p⟩ = false := by simp [Oq.ok, h1, h2]
      rw [hok]
      obtain ⟨k, x, y, v⟩ := p
      simp only [Oq.cs, Pt.cs]
      have e2 : ((kd : Int) == 2) = false := by simpa using h2
      go_enter Try.func20, Try.ntmps20
      go_wp2_with fail
      all_goals (go_ret; exact ⟨rfl, (Chg.refl _ _).alloc _⟩)
end Go.Proofs.Ytanipieeegeheaa
namespace Go.Proofs.Ytanipieeegeheaa
open Go.RowKit

theorem Try.infoOp5 : (Try.prog.info? 32).map (fun i => (i.zero, i.size, i.bytes)) = some (some (.agg #[.int .i64 0, .int .i64 0, .int .i64 0, .int .i64 0, .int .i64 0]), 5, 40) := by kernel_rfl
/-- The cells of one op of a slice. -/
theorem RdO.at5 {w : World} {S : Nat → Prop} {A : Option Addr} {n : Nat} {l : List Oq} (h : RdO w S A n l) (hn : 0 < n) :
    ∃ b off, A = some ⟨b, off, none⟩ ∧ S b ∧ ∀ W, Chg Nil w W → ∀ k kd ky x y v, l[k]? = some ⟨kd, ⟨ky, x, y, v⟩⟩ → W.cell? ⟨b, off + k * 5, none⟩ = some (.int .i64 kd) ∧ W.cell? ⟨b, off + k * 5 + 1, none⟩ = some (.int .i64 ky) ∧ W.cell? ⟨b, off + k * 5 + 2, none⟩ = some (.int .i64 x) ∧
      W.cell? ⟨b, off + k * 5 + 3, none⟩ = some (.int .i64 y) ∧ W.cell? ⟨b, off + k * 5 + 4, none⟩ = some (.int .i64 v) := by
  obtain ⟨b, off, hA, hs, _, hx⟩ := Rds.plain h hn (by omega)
  refine ⟨b, off, hA, hs, fun W hc k kd ky x y v hk => ?_⟩
  have g := fun j u hj => hx (k * 5 + j) u (ops_get l k _ hk j u hj)
  exact ⟨hc.cell (g 0 _ rfl) (fun h => h), hc.cell (g 1 _ rfl) (fun h => h), hc.cell (g 2 _ rfl) (fun h => h), hc.cell (g 3 _ rfl) (fun h => h), hc.cell (g 4 _ rfl) (fun h => h)⟩
theorem rdo_one (w : World) (o : Oq) : RdO (w.alloc (.cells o.cs.toArray 32)) (fun k => k = w.heap.size) (some ⟨w.heap.size, 0, none⟩) 1 [o] := by
  have hb := Bk.new w 32 o.cs.toArray
  refine ⟨by rw [ops_len]; rfl, fun _ => ⟨_, rfl, rfl, fun j u hu => ?_⟩⟩
  have hu' : o.cs.toArray[j]? = some u := by simpa using hu
  have := hb.cell j hu'
  unfold Addr.add
  split
  · next h0 => subst h0; exact this
  · simpa using this
theorem ops_one (l : List Oq) : ∀ u ∈ l.flatMap Oq.cs, u.oneCell' = true := by
  intro u hu
  obtain ⟨o, _, hu⟩ := List.mem_flatMap.1 hu
  simp [Oq.cs, Pt.cs] at hu
  rcases hu with rfl | rfl | rfl | rfl | rfl <;> rfl
theorem batE_any {l : List Oq} (h : ¬ 500 < l.length) {k : Nat} {o : Oq} (hk : l[k]? = some o) (ho : o.ok = false) : batE l = 1 := by
  unfold batE
  rw [if_neg h, if_pos]
  exact .inr (List.any_eq_true.2 ⟨o, List.mem_of_getElem? hk, by rw [ho]; rfl⟩)
theorem batE_all {l : List Oq} (h : ¬ 500 < l.length) (hall : ∀ (k : Nat) (o : Oq), l[k]? = some o → o.ok = true) : batE l = if l.length = 0 then 1 else 0 := by
  unfold batE
  rw [if_neg h]
  have : (l.any fun o => !o.ok) = false := by
    rw [List.any_eq_false]
    intro o ho
    obtain ⟨k, hk, he⟩ := List.mem_iff_getElem.1 ho
    rw [hall k o (by rw [List.getElem?_eq_getElem hk, he])]
    decide
  rw [this]
  simp

set_option maxHeartbeats 1000000 in
set_option maxRecDepth 100000 in
theorem rmay_any (A : Option Addr) (n c : Nat) (l : List Oq) (S : Nat → Prop) (w : World) (hr : RdO w S A n l) (hn : n ≤ 9223372036854775807) :
    Calls Try.prog 61 #[.slice A n c] w fun e w' => e = .returned (.int .i64 (batE l : Nat)) ∧ Chg Nil w w' := by
  have hl := hr.len
  by_cases h500 : 500 < n
  · have he : batE l = 11 := by unfold batE; rw [if_pos (by omega)]
    rw [he]
    go_enter Try.func61, Try.ntmps61
    go_wp2
    go_ret
    exact ⟨rfl, Chg.refl _ _⟩
  · have HR := Hid.mk hr
    clear hr
    go_enter Try.func61, Try.ntmps61
    go_wp2_with fail
    go_loopw [3] (fun i wr => ∃ k : Nat, k ≤ n ∧ i = .int .i64 (k : Int) ∧ Chg Nil w wr ∧ ∀ j o, j < k → l[j]? = some o → o.ok = true) (fun i _ => n - (intOf i).toNat)
    case atStart => exact ⟨0, Nat.zero_le _, rfl, Chg.refl _ _, fun j o hj => by omega⟩
    case round =>
      obtain ⟨k, hk, rfl, hch, hall⟩ := hrel
      by_cases hlt : k < n
      · obtain ⟨b, off, rfl, _, hat⟩ := HR.out.at5 (by omega)
        have ho : l[k]? = some (l[k]'(by omega)) := List.getElem?_eq_getElem (by omega)
        generalize l[k]'(by omega) = o at ho
        have HO := Hid.mk (fun W => ropOk_any o W)
        generalize hb : o.ok = bo at *
        obtain ⟨kd, ky, x, y, v⟩ := o
        simp only [Oq.cs, Pt.cs] at HO
        obtain ⟨c0, c1, c2, c3, c4⟩ := hat wr hch k kd ky x y v ho
        have HK := Hid.mk (And.intro hch (And.intro hall (And.intro ho hb)))
        clear hch hall ho hb hat
        go_wp2_with fail
        refine (HO.out _).mono ?_
        rintro e w1 ⟨rfl, hc1⟩
        have H1 := Hid.mk (HK.out.1.trans hc1 (fun _ _ h => h))
        clear hc1
        cases bo
        · go_wp2_with fail
          go_ret
          rw [batE_any (by omega) HK.out.2.2.1 HK.out.2.2.2]
          exact ⟨rfl, H1.out⟩
        · go_wp2_with fail
          go_roundw
          case rel =>
            refine ⟨k + 1, by omega, by go_num, H1.out, fun j o hj ho => ?_⟩
            rcases Nat.lt_or_ge j k with h | h
            · exact HK.out.2.1 j o h ho
            · have : j = k := by omega
              subst this
              rw [HK.out.2.2.1] at ho
              have := Option.some.inj ho
              rw [← this]
              exact HK.out.2.2.2
          case measure => simp [intOf]; omega
      · have hkn : k = n := by omega
        subst hkn
        have hbE := batE_all (l := l) (by omega) (fun j o ho => hall j o (by
          rcases Nat.lt_or_ge j l.length with h | h
          · omega
          · rw [List.getElem?_eq_none h] at ho; cases ho) ho)
        have HK := Hid.mk (And.intro hch hbE)
        clear hch hall hbE
        by_cases h0 : k = 0
        · subst h0
          go_wp2_with fail
          go_ret
          rw [HK.out.2, if_pos (by omega)]
          exact ⟨rfl, HK.out.1⟩
        · have d0 : ((k : Int) == 0) = false := by rw [beq_eq_false_iff_ne]; omega
          go_wp2_with fail
          go_ret
          rw [HK.out.2, if_neg (by omega)]
          exact ⟨rfl, HK.out.1⟩

/-- The good ones. -/
def goodL (l : List Oq) : List Oq := l.filter Oq.ok
theorem goodL_take (l : List Oq) (k : Nat) (o : Oq) (h : l[k]? = some o) : goodL (l.take (k + 1)) = goodL (l.take k) ++ (if o.ok then [o] else []) := by
  rw [goodL, List.take_add_one, h, List.filter_append]
  congr 1
  cases ho : o.ok <;> simp [ho]
theorem goodL_len (l : List Oq) : (goodL l).length ≤ l.length := List.length_filter_le _ _

end Go.Proofs.Ytanipieeegeheaa
namespace Go.Proofs.Ytanipieeegeheaa
open Go.RowKit

theorem rnum_any (k : Int) (w : World) : Calls Try.prog 86 #[.int .u64 (IntKind.u64.wrap k), .int .i64 4] w fun e w' => e = .returned (.string ⟨(numB (un k) 4).toArray⟩) ∧ Below w.heap.size w w' := by
  rw [un_val]
  exact rnumber_any (un k) 4 w (by omega)
theorem pt_bytes (p : Pt) : p.bytes = numB (un p.key) 4 ++ numB (un p.x) 4 ++ numB (un p.y) 4 ++ numB (un p.v) 4 := by
  simp [Pt.bytes, numsB, Pt.is, List.append_assoc]
theorem str_add (a b : List UInt8) (h : a.length + b.length ≤ 1000000) (W : World) : (Op.stringOp .add ⟨a.toArray⟩ ⟨b.toArray⟩).run Try.prog W = .ok (.string ⟨(a ++ b).toArray⟩) W := by
  rw [run_string_add_sum W _ _ (by simp [ByteArray.size]; omega), ByteArray.mk_append_mk]

set_option maxHeartbeats 1000000 in
set_option maxRecDepth 100000 in
theorem rpoint_any (p : Pt) (w : World) : Calls Try.prog 85 #[.agg p.cs.toArray] w fun e w' => e = .returned (.string ⟨p.bytes.toArray⟩) ∧ Chg Nil w w' := by
  rw [pt_bytes]
  obtain ⟨k, x, y, v⟩ := p
  simp only [Pt.cs]
  have r1 := Hid.mk (fun wb : World => After.call (w := wb) fun W _ => rnum_any k W)
  have r2 := Hid.mk (fun wb : World => After.call (w := wb) fun W _ => rnum_any x W)
  have r3 := Hid.mk (fun wb : World => After.call (w := wb) fun W _ => rnum_any y W)
  have r4 := Hid.mk (fun wb : World => After.call (w := wb) fun W _ => rnum_any v W)
  have l1 : (numB (un k) 4).length = 4 := numB_len _ _
  have l2 : (numB (un x) 4).length = 4 := numB_len _ _
  have l3 : (numB (un y) 4).length = 4 := numB_len _ _
  have l4 : (numB (un v) 4).length = 4 := numB_len _ _
  generalize numB (un k) 4 = n1 at *
  generalize numB (un x) 4 = n2 at *
  generalize numB (un y) 4 = n3 at *
  generalize numB (un v) 4 = n4 at *
  have a1 := fun W => str_add n1 n2 (by omega) W
  have a2 := fun W => str_add (n1 ++ n2) n3 (by simp; omega) W
  have a3 := fun W => str_add (n1 ++ n2 ++ n3) n4 (by simp; omega) W
  clear l1 l2 l3 l4
  have l12 : (n1 ++ n2).toArray = n1.toArray ++ n2.toArray := by simp
  generalize h12 : n1 ++ n2 = n12 at *
  generalize h123 : n12 ++ n3 = n123 at *
  generalize h1234 : n123 ++ n4 = n1234 at *
  clear l12 h12 h123 h1234
  go_enter Try.func85, Try.ntmps85
  go_upto_region 1 with fail
  have hB := Bk.new w 30 #[.int .i64 k, .int .i64 x, .int .i64 y, .int .i64 v]
  generalize hwb : w.alloc (.cells #[.int .i64 k, .int .i64 x, .int .i64 y, .int .i64 v] 30) = wb at *
  have hA : Chg Nil w wb := by rw [← hwb]; exact (Chg.refl _ _).alloc _
  have c1 : ∀ z : After wb, z.world.cell? ⟨w.heap.size, 0, none⟩ = some (.int .i64 k) := fun z => z.chg.cell (hB.cell 0 rfl) (fun h => h)
  have c2 : ∀ z : After wb, z.world.cell? ⟨w.heap.size, 1, none⟩ = some (.int .i64 x) := fun z => z.chg.cell (hB.cell 1 rfl) (fun h => h)
  have c3 : ∀ z : After wb, z.world.cell? ⟨w.heap.size, 2, none⟩ = some (.int .i64 y) := fun z => z.chg.cell (hB.cell 2 rfl) (fun h => h)
  have c4 : ∀ z : After wb, z.world.cell? ⟨w.heap.size, 3, none⟩ = some (.int .i64 v) := fun z => z.chg.cell (hB.cell 3 rfl) (fun h => h)
  have H := Hid.mk (And.intro hA hwb)
  clear hB hA hwb
  have hne := After.some wb
  refine wp_region_after (by kernel_rfl) (by kernel_rfl) ?_
  repeat (go_big_quiet_step (first | (with_reducible exact r1.out _ _) | (with_reducible exact r2.out _ _) | (with_reducible exact r3.out _ _) | (with_reducible exact r4.out _ _)))
  refine wpQuiet_nil ?_
  rintro _ ⟨z, rfl⟩
  have H2 := Hid.mk (H.out.1.trans z.chg (fun _ _ h => h))
  go_wp2_with fail
  go_ret
  exact ⟨rfl, H2.out⟩
theorem batB_take (l : List Oq) (k : Nat) (o : Oq) (h : l[k]? = some o) : batB (l.take (k + 1)) = batB (l.take k) ++ o.bytes := by
  rw [List.take_add_one, h]
  simp [batB]

set_option maxHeartbeats 1000000 in
set_option maxRecDepth 100000 in
theorem rbatch_any (A : Option Addr) (n c : Nat) (l : List Oq) (S : Nat → Prop) (w : World) (hr : RdO w S A n l) (hn : n ≤ 500) (hall : ∀ (k : Nat) (o : Oq), l[k]? = some o → o.ok = true) :
    Calls Try.prog 63 #[.slice A n c] w fun e w' => e = .returned (.string ⟨(batB l).toArray⟩) ∧ Chg Nil w w' := by
  have hl := hr.len
  have HR := Hid.mk (And.intro hr hall)
  clear hr hall
  go_enter Try.func63, Try.ntmps63
  go_wp2_with fail
  go_loopw [3, 4] (fun s i wr => ∃ k : Nat, k ≤ n ∧ s = .string ⟨(batB (l.take k)).toArray⟩ ∧ i = .int .i64 (k : Int) ∧ Chg Nil w wr) (fun _ i _ => n - (intOf i).toNat)
  case atStart => exact ⟨0, Nat.zero_le _, rfl, rfl, Chg.refl _ _⟩
  case round =>
    obtain ⟨k, hk, rfl, rfl, hch⟩ := hrel
    by_cases hlt : k < n
    · obtain ⟨b, off, rfl, _, hat⟩ := HR.out.1.at5 (by omega)
      have ho : l[k]? = some (l[k]'(by omega)) := List.getElem?_eq_getElem (by omega)
      generalize l[k]'(by omega) = o at ho
      have hstep := batB_take l k o ho
      have hkd := kind_of_ok (HR.out.2 k o ho)
      have hX := batB_len (l.take k)
      rw [List.length_take, Nat.min_eq_left (by omega)] at hX
      have HP := Hid.mk (fun W => rpoint_any o.pt W)
      have HN := Hid.mk (fun W => rnum_any o.pt.key W)
      have hpl : o.pt.bytes.length = 16 := by simp [Pt.bytes, numsB, Pt.is, numB_len]
      have hnl : (numB (un o.pt.key) 4).length = 4 := numB_len _ _
      obtain ⟨kd, ky, x, y, v⟩ := o
      simp only [Pt.cs] at HP HN hkd hpl hnl
      obtain ⟨c0, c1, c2, c3, c4⟩ := hat wr hch k kd ky x y v ho
      have hb : Oq.bytes ⟨kd, ⟨ky, x, y, v⟩⟩ = UInt8.ofNat (un kd) :: (if kd = 1 then Pt.bytes ⟨ky, x, y, v⟩ else numB (un ky) 4) := rfl
      generalize Pt.bytes ⟨ky, x, y, v⟩ = pb at *
      generalize numB (un ky) 4 = nb at *
      rw [hb] at hstep
      generalize hYe : batB (l.take (k + 1)) = Y at *
      have HY := Hid.mk hYe
      clear hYe
      generalize batB (l.take k) = X at *
      have hXL : X.length ≤ 8500 := by omega
      rcases hkd with rfl | rfl
      · rw [if_pos rfl] at hstep
        have a1 : ∀ W, (Op.stringOp .add ⟨X.toArray⟩ ⟨#[1]⟩).run Try.prog W = .ok (.string ⟨(X ++ [1]).toArray⟩) W := fun W => str_add X [1] (by simp; omega) W
        have hY : X ++ [1] ++ pb = Y := by rw [hstep]; simp [un]
        have a2 := fun W => str_add (X ++ [1]) pb (by simp; omega) W
        rw [hY] at a2
        generalize X ++ [1] = X1 at *
        have HK := Hid.mk hch
        clear hch hat ho hstep hb hY hpl hnl hX hXL
        go_wp2_with fail
        refine (HP.out _).mono ?_
        rintro e w1 ⟨rfl, hc1⟩
        have H1 := Hid.mk (HK.out.trans hc1 (fun _ _ h => h))
        clear hc1
        go_wp2_with fail
        go_roundw
        case rel => exact ⟨k + 1, by omega, by rw [HY.out], by go_num, H1.out⟩
        case measure => simp [intOf]; omega
      · rw [if_neg (by decide)] at hstep
        have a1 : ∀ W, (Op.stringOp .add ⟨X.toArray⟩ ⟨#[2]⟩).run Try.prog W = .ok (.string ⟨(X ++ [2]).toArray⟩) W := fun W => str_add X [2] (by simp; omega) W
        have hY : X ++ [2] ++ nb = Y := by rw [hstep]; simp [un]
        have a2 := fun W => str_add (X ++ [2]) nb (by simp; omega) W
        rw [hY] at a2
        generalize X ++ [2] = X1 at *
        have HK := Hid.mk hch
        clear hch hat ho hstep hb hY hpl hnl hX hXL
        go_wp2_with fail
        refine (HN.out _).mono ?_
        rintro e w1 ⟨rfl, hc1⟩
        have H1 := Hid.mk (HK.out.trans (Chg.of_below' hc1) (fun _ _ h => h))
        clear hc1
        go_wp2_with fail
        go_roundw
        case rel => exact ⟨k + 1, by omega, by rw [HY.out], by go_num, H1.out⟩
        case measure => simp [intOf]; omega
    · have hkn : k = n := by omega
      subst hkn
      have ht : l.take k = l := List.take_of_length_le (by omega)
      have HK := Hid.mk hch
      clear hch
      go_wp2_with fail
      go_ret
      rw [ht]
      exact ⟨rfl, HK.out⟩

end Go.Proofs.Ytanipieeegeheaa
namespace Go.Proofs.Ytanipieeegeheaa
open Go.RowKit

theorem wrapI32 (n : Int) : IntKind.i32.wrap n = (n + 2147483648) % 4294967296 - 2147483648 := by
  simp [IntKind.wrap, IntKind.bits, IntKind.signed]
  split <;> omega
def unPt (b : List UInt8) : Pt := ⟨(unB (b.take 4) : Nat), (unB ((b.drop 4).take 4) : Nat), (unB ((b.drop 8).take 4) : Nat), IntKind.i32.wrap (unB ((b.drop 12).take 4) : Nat)⟩
def opLen (c : UInt8) : Nat := if c = 1 then 16 else 4
def opAt (c : UInt8) (t : List UInt8) : Oq := ⟨(c.toNat : Int), if c = 1 then unPt t else ⟨(unB (t.take 4) : Nat), 0, 0, 0⟩⟩
def decR : Nat → List UInt8 → Option (List Oq)
  | 0, b => if b = [] then some [] else none
  | k + 1, b => match b with
    | [] => some []
    | c :: t => if t.length < opLen c then none else (decR k (t.drop (opLen c))).map (opAt c t :: ·)
def dec (b : List UInt8) : Option (List Oq) := decR b.length b
theorem opLen_pos (c : UInt8) : 4 ≤ opLen c := by unfold opLen; split <;> omega
theorem decR_more : ∀ (k m : Nat) (b : List UInt8), b.length ≤ k → b.length ≤ m → decR k b = decR m b
  | 0, 0, _, _, _ => rfl
  | 0, m + 1, b, h, _ => by
    have : b = [] := List.eq_nil_of_length_eq_zero (by omega)
    subst this
    rfl
  | k + 1, 0, b, _, h => by
    have : b = [] := List.eq_nil_of_length_eq_zero (by omega)
    subst this
    rfl
  | k + 1, m + 1, [], _, _ => rfl
  | k + 1, m + 1, c :: t, h1, h2 => by
    unfold decR
    split
    · rfl
    · rename_i heq
      injection heq with h3 h4
      subst h3 h4
      simp only [List.length_cons] at h1 h2
      split
      · rfl
      · rw [decR_more k m _ (by rw [List.length_drop]; omega) (by rw [List.length_drop]; omega)]
theorem dec_nil : dec [] = some [] := rfl
theorem dec_short {c : UInt8} {t : List UInt8} (h : t.length < opLen c) : dec (c :: t) = none := by
  unfold dec
  rw [List.length_cons, decR]
  simp [h]
theorem dec_cons {c : UInt8} {t : List UInt8} (h : opLen c ≤ t.length) : dec (c :: t) = (dec (t.drop (opLen c))).map (opAt c t :: ·) := by
  unfold dec
  rw [List.length_cons, decR]
  rw [if_neg (by omega), decR_more t.length (t.drop (opLen c)).length _ (by rw [List.length_drop]; omega) (Nat.le_refl _)]

/-- What Ops answers. -/
def opsD (b : List UInt8) : Option (List Oq) := (dec b).bind fun l => if batE l = 0 then some l else none
/-- So far X, and R is to come. -/
def Dec (b R : List UInt8) (X : List Oq) : Prop := dec b = (dec R).map (X ++ ·)
theorem Dec.start (b : List UInt8) : Dec b b [] := by simp [Dec]
theorem Dec.step {b t : List UInt8} {c : UInt8} {X : List Oq} (h : Dec b (c :: t) X) (hl : opLen c ≤ t.length) : Dec b (t.drop (opLen c)) (X ++ [opAt c t]) := by
  unfold Dec at *
  rw [h, dec_cons hl]
  cases dec (t.drop (opLen c)) <;> simp
theorem Dec.short {b t : List UInt8} {c : UInt8} {X : List Oq} (h : Dec b (c :: t) X) (hl : t.length < opLen c) : opsD b = none := by
  unfold Dec at h
  rw [opsD, h, dec_short hl]
  rfl
theorem Dec.done {b : List UInt8} {X : List Oq} (h : Dec b [] X) : opsD b = if batE X = 0 then some X else none := by
  unfold Dec at h
  rw [opsD, h, dec_nil]
  simp
theorem batE_bad_mem {l : List Oq} {o : Oq} (ho : o ∈ l) (hb : o.ok = false) : batE l ≠ 0 := by
  unfold batE
  split
  · decide
  · rw [if_pos]
    · decide
    · exact .inr (List.any_eq_true.2 ⟨o, ho, by rw [hb]; rfl⟩)
theorem batE_long {l : List Oq} (h : 500 < l.length) : batE l ≠ 0 := by
  unfold batE
  rw [if_pos h]
  decide
theorem Dec.long {b R : List UInt8} {X : List Oq} (h : Dec b R X) (hl : 500 < X.length) : opsD b = none := by
  unfold Dec at h
  rw [opsD, h]
  cases dec R with
  | none => rfl
  | some l =>
    have : batE (X ++ l) ≠ 0 := batE_long (by simp; omega)
    simp [this]
theorem opAt_bad {c : UInt8} (t : List UInt8) (h1 : c ≠ 1) (h2 : c ≠ 2) : (opAt c t).ok = false := by
  have e1 : ¬ ((c.toNat : Int) = 1) := fun h => h1 (UInt8.toNat_inj.1 (by show c.toNat = 1; omega))
  have e2 : ¬ ((c.toNat : Int) = 2) := fun h => h2 (UInt8.toNat_inj.1 (by show c.toNat = 2; omega))
  simp [Oq.ok, opAt, e1, e2]
theorem Dec.kind {b t : List UInt8} {c : UInt8} {X : List Oq} (h : Dec b (c :: t) X) (h1 : c ≠ 1) (h2 : c ≠ 2) : opsD b = none := by
  rcases Nat.lt_or_ge t.length (opLen c) with hl | hl
  · exact h.short hl
  · have h3 := h.step hl
    unfold Dec at h3
    rw [opsD, h3]
    cases dec (t.drop (opLen c)) with
    | none => rfl
    | some l =>
      have : batE (X ++ [opAt c t] ++ l) ≠ 0 := batE_bad_mem (o := opAt c t) (by simp) (opAt_bad t h1 h2)
      simp only [Option.map_some, Option.bind_some, this, if_false]

theorem take_len_append {α : Type _} (a b : List α) (n : Nat) (h : a.length = n) : (a ++ b).take n = a := by subst h; simp
theorem drop_len_append {α : Type _} (a b : List α) (n : Nat) (h : a.length = n) : (a ++ b).drop n = b := by subst h; simp
theorem un_small (k : Int) (h0 : 0 ≤ k) (h1 : k < 4294967296) : ((unB (numB (un k) 4) : Nat) : Int) = k := by
  rw [unB_numB]
  unfold un
  omega
theorem un_neg (k : Int) (h0 : -2147483648 ≤ k) (h1 : k ≤ 2147483647) : IntKind.i32.wrap ((unB (numB (un k) 4) : Nat) : Int) = k := by
  rw [unB_numB, wrapI32]
  unfold un
  omega
theorem pt_parts (p : Pt) (t : List UInt8) : unPt (p.bytes ++ t) = ⟨(unB (numB (un p.key) 4) : Nat), (unB (numB (un p.x) 4) : Nat), (unB (numB (un p.y) 4) : Nat), IntKind.i32.wrap (unB (numB (un p.v) 4) : Nat)⟩ := by
  have hb : p.bytes = numB (un p.key) 4 ++ (numB (un p.x) 4 ++ (numB (un p.y) 4 ++ numB (un p.v) 4)) := by simp [Pt.bytes, numsB, Pt.is]
  have l1 : (numB (un p.key) 4).length = 4 := numB_len _ _
  have l2 : (numB (un p.x) 4).length = 4 := numB_len _ _
  have l3 : (numB (un p.y) 4).length = 4 := numB_len _ _
  have l4 : (numB (un p.v) 4).length = 4 := numB_len _ _
  rw [hb]
  generalize numB (un p.key) 4 = n1 at *
  generalize numB (un p.x) 4 = n2 at *
  generalize numB (un p.y) 4 = n3 at *
  generalize numB (un p.v) 4 = n4 at *
  unfold unPt
  have e1 : (n1 ++ (n2 ++ (n3 ++ n4)) ++ t) = n1 ++ (n2 ++ (n3 ++ (n4 ++ t))) := by simp
  have e2 : (n1 ++ (n2 ++ (n3 ++ (n4 ++ t)))).drop 4 = n2 ++ (n3 ++ (n4 ++ t)) := drop_len_append _ _ _ l1
  have e3 : (n1 ++ (n2 ++ (n3 ++ (n4 ++ t)))).drop 8 = n3 ++ (n4 ++ t) := by
    rw [show n1 ++ (n2 ++ (n3 ++ (n4 ++ t))) = (n1 ++ n2) ++ (n3 ++ (n4 ++ t)) by simp]
    exact drop_len_append _ _ _ (by simp [l1, l2])
  have e4 : (n1 ++ (n2 ++ (n3 ++ (n4 ++ t)))).drop 12 = n4 ++ t := by
    rw [show n1 ++ (n2 ++ (n3 ++ (n4 ++ t))) = (n1 ++ n2 ++ n3) ++ (n4 ++ t) by simp]
    exact drop_len_append _ _ _ (by simp [l1, l2, l3])
  rw [e1, e2, e3, e4, take_len_append _ _ _ l1, take_len_append _ _ _ l2, take_len_append _ _ _ l3, take_len_append _ _ _ l4]
theorem op_back (o : Oq) (t : List UInt8) (h : o.ok = true) : ∃ c r, o.bytes ++ t = c :: r ∧ opLen c ≤ r.length ∧ opAt c r = o ∧ r.drop (opLen c) = t := by
  obtain ⟨kd, p⟩ := o
  unfold Oq.ok at h
  split at h
  · rename_i hk
    simp only at hk h
    subst hk
    have hp : p.bytes.length = 16 := by simp [Pt.bytes, numsB, Pt.is, numB_len]
    have h16 : opLen 1 = 16 := rfl
    refine ⟨1, p.bytes ++ t, ?_, ?_, ?_, ?_⟩
    · have : UInt8.ofNat (un 1) = 1 := rfl
      simp [Oq.bytes, this]
    · rw [h16, List.length_append]; omega
    · simp only [Pt.ok, keyOk, inOk, Bool.and_eq_true, decide_eq_true_eq] at h
      obtain ⟨k, x, y, v⟩ := p
      simp only at h
      have hu := pt_parts ⟨k, x, y, v⟩ t
      simp only at hu
      rw [un_small k (by omega) (by omega), un_small x (by omega) (by omega), un_small y (by omega) (by omega), un_neg v (by omega) (by omega)] at hu
      unfold opAt
      rw [if_pos rfl, hu]
      rfl
    · rw [h16]; exact drop_len_append _ _ _ hp
  · split at h
    · rename_i hk
      simp only at hk h
      subst hk
      have hp : (numB (un p.key) 4).length = 4 := numB_len _ _
      have h4 : opLen 2 = 4 := rfl
      refine ⟨2, numB (un p.key) 4 ++ t, ?_, ?_, ?_, ?_⟩
      · have : UInt8.ofNat (un 2) = 2 := rfl
        simp [Oq.bytes, this]
      · rw [h4, List.length_append]; omega
      · simp only [Pt.only, keyOk, Bool.and_eq_true, decide_eq_true_eq] at h
        obtain ⟨k, x, y, v⟩ := p
        simp only at h hp
        obtain ⟨h1, ⟨h2, h3⟩, h4⟩ := h
        subst h2 h3 h4
        unfold opAt
        rw [if_neg (by decide), take_len_append _ _ _ hp, un_small k (by omega) (by omega)]
        rfl
      · rw [h4]; exact drop_len_append _ _ _ hp
    · cases h
theorem dec_back : ∀ (l : List Oq), (∀ o ∈ l, o.ok = true) → dec (batB l) = some l
  | [], _ => rfl
  | o :: l, h => by
    obtain ⟨c, r, h1, h2, h3, h4⟩ := op_back o (batB l) (h o (by simp))
    have : batB (o :: l) = c :: r := by rw [← h1]; rfl
    rw [this, dec_cons h2, h3, h4, dec_back l (fun o ho => h o (by simp [ho]))]
    rfl
theorem opsD_back (l : List Oq) (h : batE l = 0) : opsD (batB l) = some l := by
  have hall : ∀ o ∈ l, o.ok = true := fun o ho => by
    cases hb : o.ok with
    | true => rfl
    | false => exact absurd h (batE_bad_mem ho hb)
  rw [opsD, dec_back l hall, Option.bind_some, if_pos h]

end Go.Proofs.Ytanipieeegeheaa
namespace Go.Proofs.Ytanipieeegeheaa
open Go.RowKit

theorem unB4 (l : List UInt8) : unB (l.take 4) < 4294967296 :=
  Nat.lt_of_lt_of_le (unB_lt _) (Nat.le_trans (Nat.pow_le_pow_right (by omega) (by rw [List.length_take]; omega : (l.take 4).length ≤ 4)) (by decide))

theorem w3264 (n : Int) : wrap64 (wrap32 n) = IntKind.i32.wrap n := by
  have h : -2147483648 ≤ wrap32 n ∧ wrap32 n ≤ 2147483647 := by unfold wrap32; omega
  generalize hm : wrap32 n = m at *
  rw [wrapI32]
  unfold wrap32 at hm
  rw [hm]
  unfold wrap64
  omega

set_option maxHeartbeats 2000000 in
set_option maxRecDepth 100000 in
theorem takePt_ok (p : Nat) (A : Option Addr) (c n : Nat) (bs : List UInt8) (bad : Bool) (S : Nat → Prop) (w : World)
    (hp : Bk w p 104 #[.slice A n c, .bool bad]) (hr : RdB w S A n bs) (hS : ¬ S p) (hSw : ∀ k, S k → k < w.heap.size) (hle : 16 ≤ n) (hc : n ≤ c) (hcm : c ≤ maxLen) :
    Calls Try.prog 88 #[.pointer (some ⟨p, 0, none⟩)] w fun e w' => e = .returned (.agg (unPt bs).cs.toArray) ∧
      Chg (· = p) w w' ∧ ∃ A', Bk w' p 104 #[.slice A' (n - 16) (c - 16), .bool bad] ∧ RdB w' S A' (n - 16) (bs.drop 16) := by
  have hlt := hp.lt
  have hlen := hr.len
  have b1 := unB4 bs
  have b2 := unB4 (bs.drop 4)
  have b3 := unB4 (bs.drop 8)
  have b4 := unB4 (bs.drop 12)
  have hB := Bk.new w 30 #[.int .i64 0, .int .i64 0, .int .i64 0, .int .i64 0]
  have hA : Chg Nil w (w.alloc (.cells #[.int .i64 0, .int .i64 0, .int .i64 0, .int .i64 0] 30)) := (Chg.refl _ _).alloc _
  have HH := Hid.mk (And.intro (hp.alloc (.cells #[.int .i64 0, .int .i64 0, .int .i64 0, .int .i64 0] 30)) (And.intro (hr.keep hA (fun _ _ h => h)) (And.intro hS (And.intro hB hSw))))
  clear hp hr hS hB hA hSw
  simp only [unPt, Pt.cs]
  generalize g1 : unB (bs.take 4) = N1 at *
  generalize g2 : unB ((bs.drop 4).take 4) = N2 at *
  generalize g3 : unB ((bs.drop 8).take 4) = N3 at *
  generalize g4 : unB ((bs.drop 12).take 4) = N4 at *
  have hw4 := w3264 (N4 : Int)
  generalize IntKind.i32.wrap (N4 : Int) = V4 at *
  have G := Hid.mk (And.intro g1 (And.intro g2 (And.intro g3 g4)))
  clear g1 g2 g3 g4
  go_enter Try.func88, Try.ntmps88
  go_wp2_with fail
  refine (take_any p A c n bs bad S 4 _ HH.out.1 HH.out.2.1 HH.out.2.2.1 (by omega) (by omega) (by omega) hc hcm).mono ?_
  rintro e w1 ⟨rfl, hc1, A1, hp1, hr1⟩
  rw [G.out.1]
  have H1 := Hid.mk (And.intro hc1 (And.intro hp1 hr1))
  clear hc1 hp1 hr1
  go_wp2_with fail
  refine (take_any p A1 (c - 4) (n - 4) (bs.drop 4) bad S 4 _ H1.out.2.1 H1.out.2.2 HH.out.2.2.1 (by omega) (by omega) (by omega) (by omega) (by omega)).mono ?_
  rintro e w2 ⟨rfl, hc2, A2, hp2, hr2⟩
  rw [G.out.2.1]
  have H2 := Hid.mk (And.intro (H1.out.1.trans hc2 (fun _ _ h => h)) (And.intro hp2 hr2))
  clear hc2 hp2 hr2
  go_wp2_with fail
  refine (take_any p A2 (c - 4 - 4) (n - 4 - 4) ((bs.drop 4).drop 4) bad S 4 _ H2.out.2.1 H2.out.2.2 HH.out.2.2.1 (by omega) (by omega) (by omega) (by omega) (by omega)).mono ?_
  rintro e w3 ⟨rfl, hc3, A3, hp3, hr3⟩
  rw [show ((bs.drop 4).drop 4) = bs.drop 8 by rw [List.drop_drop], G.out.2.2.1]
  have H3 := Hid.mk (And.intro (H2.out.1.trans hc3 (fun _ _ h => h)) (And.intro hp3 hr3))
  clear hc3 hp3 hr3
  go_wp2_with fail
  refine (take_any p A3 (c - 4 - 4 - 4) (n - 4 - 4 - 4) (((bs.drop 4).drop 4).drop 4) bad S 4 _ H3.out.2.1 H3.out.2.2 HH.out.2.2.1 (by omega) (by omega) (by omega) (by omega) (by omega)).mono ?_
  rintro e w4 ⟨rfl, hc4, A4, hp4, hr4⟩
  rw [show (((bs.drop 4).drop 4).drop 4) = bs.drop 12 by rw [List.drop_drop, List.drop_drop], G.out.2.2.2]
  have hch := H3.out.1.trans hc4 (fun _ _ h => h)
  have hB : Bk w4 w.heap.size 30 #[.int .i64 0, .int .i64 0, .int .i64 0, .int .i64 0] := HH.out.2.2.2.1.keep hch (by omega)
  have f0 := hB.free 0
  have f1 := hB.free 1
  have f2 := hB.free 2
  have f3 := hB.free 3
  have c0 := hB.cell 0 rfl
  have c1 := hB.cell 1 rfl
  have c2 := hB.cell 2 rfl
  have c3 := hB.cell 3 rfl
  have H4 := Hid.mk (And.intro hch (And.intro hp4 (And.intro hr4 hB)))
  clear hch hp4 hr4 hc4 hB
  go_wp2_with fail
  have hE : Bk ((((w4.setCell ⟨w.heap.size, 0, none⟩ (.int .i64 N1)).setCell ⟨w.heap.size, 1, none⟩ (.int .i64 N2)).setCell ⟨w.heap.size, 2, none⟩ (.int .i64 N3)).setCell ⟨w.heap.size, 3, none⟩ (.int .i64 V4)) w.heap.size 30 #[.int .i64 N1, .int .i64 N2, .int .i64 N3, .int .i64 V4] := (((H4.out.2.2.2.set 0 _).set 1 _).set 2 _).set 3 _
  have hne : p ≠ w.heap.size := by omega
  have hch : Chg (· = p) w ((((w4.setCell ⟨w.heap.size, 0, none⟩ (.int .i64 N1)).setCell ⟨w.heap.size, 1, none⟩ (.int .i64 N2)).setCell ⟨w.heap.size, 2, none⟩ (.int .i64 N3)).setCell ⟨w.heap.size, 3, none⟩ (.int .i64 V4)) :=
    (((((Chg.refl _ _).alloc _).trans H4.out.1 (fun _ _ h => h)).setCell (fun h => absurd h (Nat.lt_irrefl _)) _).setCell (fun h => absurd h (Nat.lt_irrefl _)) _ |>.setCell (fun h => absurd h (Nat.lt_irrefl _)) _).setCell (fun h => absurd h (Nat.lt_irrefl _)) _
  have hP : Bk ((((w4.setCell ⟨w.heap.size, 0, none⟩ (.int .i64 N1)).setCell ⟨w.heap.size, 1, none⟩ (.int .i64 N2)).setCell ⟨w.heap.size, 2, none⟩ (.int .i64 N3)).setCell ⟨w.heap.size, 3, none⟩ (.int .i64 V4)) p 104 #[.slice A4 (n - 16) (c - 16), .bool bad] := by
    have h := (((H4.out.2.1.far (p := ⟨w.heap.size, 0, none⟩) hne (.int .i64 N1)).far (p := ⟨w.heap.size, 1, none⟩) hne (.int .i64 N2)).far (p := ⟨w.heap.size, 2, none⟩) hne (.int .i64 N3)).far (p := ⟨w.heap.size, 3, none⟩) hne (.int .i64 V4)
    rw [show n - 4 - 4 - 4 - 4 = n - 16 by omega, show c - 4 - 4 - 4 - 4 = c - 16 by omega] at h
    exact h
  have hR : RdB ((((w4.setCell ⟨w.heap.size, 0, none⟩ (.int .i64 N1)).setCell ⟨w.heap.size, 1, none⟩ (.int .i64 N2)).setCell ⟨w.heap.size, 2, none⟩ (.int .i64 N3)).setCell ⟨w.heap.size, 3, none⟩ (.int .i64 V4)) S A4 (n - 16) (bs.drop 16) := by
    have h := H4.out.2.2.1.keep (T := (· = w.heap.size)) (((((Chg.refl (· = w.heap.size) w4).setCell (p := ⟨w.heap.size, 0, none⟩) (fun _ => rfl) (.int .i64 N1)).setCell (p := ⟨w.heap.size, 1, none⟩) (fun _ => rfl) (.int .i64 N2)).setCell (p := ⟨w.heap.size, 2, none⟩) (fun _ => rfl) (.int .i64 N3)).setCell (p := ⟨w.heap.size, 3, none⟩) (fun _ => rfl) (.int .i64 V4)) (fun k hs hk => by
      have := HH.out.2.2.2.2 k hs
      omega)
    rw [show n - 4 - 4 - 4 - 4 = n - 16 by omega, List.drop_drop, List.drop_drop, List.drop_drop] at h
    exact h
  exact bodyPost_ret (results_cell_row rfl _ _ w.heap.size 30 _ (0, 0) _ rfl hE Try.underlying30 rfl (by kernel_rfl)) rfl ⟨rfl, hch, A4, hP, hR⟩
/-- Four bytes off the front, if they are there or not. -/
theorem take_either (p : Nat) (A : Option Addr) (c n : Nat) (bs : List UInt8) (bad : Bool) (S : Nat → Prop) (w : World)
    (hp : Bk w p 104 #[.slice A n c, .bool bad]) (hr : RdB w S A n bs) (hS : ¬ S p) (hc : n ≤ c) (hcm : c ≤ maxLen) :
    Calls Try.prog 66 #[.pointer (some ⟨p, 0, none⟩), .int .i64 4] w fun e w' => ∃ (N : Nat) (A' : Option Addr) (c' n' : Nat) (bs' : List UInt8) (bad' : Bool), e = .returned (.int .u64 N) ∧ N < 4294967296 ∧
      Chg (· = p) w w' ∧ Bk w' p 104 #[.slice A' n' c', .bool bad'] ∧ RdB w' S A' n' bs' ∧ n' ≤ n - 4 ∧ n' ≤ c' ∧ c' ≤ maxLen := by
  by_cases h4 : n < 4
  · refine (take_short p A c n bad 4 w hp h4).mono ?_
    rintro e w1 ⟨rfl, hc1, hp1⟩
    exact ⟨0, none, 0, 0, [], true, rfl, by omega, hc1, hp1, RdB.nil, by omega, Nat.le_refl _, by simp [maxLen]⟩
  · refine (take_any p A c n bs bad S 4 w hp hr hS (by omega) (by omega) (by omega) hc hcm).mono ?_
    rintro e w1 ⟨rfl, hc1, A1, hp1, hr1⟩
    exact ⟨_, A1, c - 4, n - 4, _, bad, rfl, unB4 bs, hc1, hp1, hr1, Nat.le_refl _, by omega, by omega⟩

set_option maxHeartbeats 2000000 in
set_option maxRecDepth 100000 in
theorem takePt_short (p : Nat) (A : Option Addr) (c n : Nat) (bs : List UInt8) (bad : Bool) (S : Nat → Prop) (w : World)
    (hp : Bk w p 104 #[.slice A n c, .bool bad]) (hr : RdB w S A n bs) (hS : ¬ S p) (hle : n < 16) (hc : n ≤ c) (hcm : c ≤ maxLen) :
    Calls Try.prog 88 #[.pointer (some ⟨p, 0, none⟩)] w fun e w' => (∃ q : Pt, e = .returned (.agg q.cs.toArray)) ∧
      Chg (· = p) w w' ∧ Bk w' p 104 #[.slice none 0 0, .bool true] := by
  have hlt := hp.lt
  have hB := Bk.new w 30 #[.int .i64 0, .int .i64 0, .int .i64 0, .int .i64 0]
  have hA : Chg Nil w (w.alloc (.cells #[.int .i64 0, .int .i64 0, .int .i64 0, .int .i64 0] 30)) := (Chg.refl _ _).alloc _
  have HH := Hid.mk (And.intro (hp.alloc (.cells #[.int .i64 0, .int .i64 0, .int .i64 0, .int .i64 0] 30)) (And.intro (hr.keep hA (fun _ _ h => h)) (And.intro hS hB)))
  clear hp hr hS hB hA
  go_enter Try.func88, Try.ntmps88
  go_wp2_with fail
  refine (take_either p A c n bs bad S _ HH.out.1 HH.out.2.1 HH.out.2.2.1 hc hcm).mono ?_
  rintro e w1 ⟨N1, A1, m1, n1, s1, d1, rfl, q1, hc1, hp1, hr1, hn1, hk1, hm1⟩
  have H1 := Hid.mk (And.intro hc1 (And.intro hp1 hr1))
  clear hc1 hp1 hr1
  go_wp2_with fail
  refine (take_either p A1 m1 n1 s1 d1 S _ H1.out.2.1 H1.out.2.2 HH.out.2.2.1 hk1 hm1).mono ?_
  rintro e w2 ⟨N2, A2, m2, n2, s2, d2, rfl, q2, hc2, hp2, hr2, hn2, hk2, hm2⟩
  have H2 := Hid.mk (And.intro (H1.out.1.trans hc2 (fun _ _ h => h)) (And.intro hp2 hr2))
  clear hc2 hp2 hr2
  go_wp2_with fail
  refine (take_either p A2 m2 n2 s2 d2 S _ H2.out.2.1 H2.out.2.2 HH.out.2.2.1 hk2 hm2).mono ?_
  rintro e w3 ⟨N3, A3, m3, n3, s3, d3, rfl, q3, hc3, hp3, hr3, hn3, hk3, hm3⟩
  have H3 := Hid.mk (And.intro (H2.out.1.trans hc3 (fun _ _ h => h)) (And.intro hp3 hr3))
  clear hc3 hp3 hr3
  go_wp2_with fail
  refine (take_short p A3 m3 n3 d3 4 _ H3.out.2.1 (by omega)).mono ?_
  rintro e w4 ⟨rfl, hc4, hp4⟩
  have hch := H3.out.1.trans hc4 (fun _ _ h => h)
  have hB : Bk w4 w.heap.size 30 #[.int .i64 0, .int .i64 0, .int .i64 0, .int .i64 0] := HH.out.2.2.2.keep hch (by omega)
  have f0 := hB.free 0
  have f1 := hB.free 1
  have f2 := hB.free 2
  have f3 := hB.free 3
  have c0 := hB.cell 0 rfl
  have c1 := hB.cell 1 rfl
  have c2 := hB.cell 2 rfl
  have c3 := hB.cell 3 rfl
  have H4 := Hid.mk (And.intro hch (And.intro hp4 hB))
  clear hch hp4 hc4 hB
  go_wp2_with fail
  have hE : Bk ((((w4.setCell ⟨w.heap.size, 0, none⟩ (.int .i64 N1)).setCell ⟨w.heap.size, 1, none⟩ (.int .i64 N2)).setCell ⟨w.heap.size, 2, none⟩ (.int .i64 N3)).setCell ⟨w.heap.size, 3, none⟩ (.int .i64 0)) w.heap.size 30 #[.int .i64 N1, .int .i64 N2, .int .i64 N3, .int .i64 0] := (((H4.out.2.2.set 0 _).set 1 _).set 2 _).set 3 _
  have hne : p ≠ w.heap.size := by omega
  have hch : Chg (· = p) w ((((w4.setCell ⟨w.heap.size, 0, none⟩ (.int .i64 N1)).setCell ⟨w.heap.size, 1, none⟩ (.int .i64 N2)).setCell ⟨w.heap.size, 2, none⟩ (.int .i64 N3)).setCell ⟨w.heap.size, 3, none⟩ (.int .i64 0)) :=
    (((((Chg.refl _ _).alloc _).trans H4.out.1 (fun _ _ h => h)).setCell (fun h => absurd h (Nat.lt_irrefl _)) _).setCell (fun h => absurd h (Nat.lt_irrefl _)) _ |>.setCell (fun h => absurd h (Nat.lt_irrefl _)) _).setCell (fun h => absurd h (Nat.lt_irrefl _)) _
  have hP : Bk ((((w4.setCell ⟨w.heap.size, 0, none⟩ (.int .i64 N1)).setCell ⟨w.heap.size, 1, none⟩ (.int .i64 N2)).setCell ⟨w.heap.size, 2, none⟩ (.int .i64 N3)).setCell ⟨w.heap.size, 3, none⟩ (.int .i64 0)) p 104 #[.slice none 0 0, .bool true] :=
    (((H4.out.2.1.far (p := ⟨w.heap.size, 0, none⟩) hne (.int .i64 N1)).far (p := ⟨w.heap.size, 1, none⟩) hne (.int .i64 N2)).far (p := ⟨w.heap.size, 2, none⟩) hne (.int .i64 N3)).far (p := ⟨w.heap.size, 3, none⟩) hne (.int .i64 0)
  exact bodyPost_ret (results_cell_row rfl _ _ w.heap.size 30 _ (0, 0) _ rfl hE Try.underlying30 rfl (by kernel_rfl)) rfl ⟨⟨⟨N1, N2, N3, 0⟩, rfl⟩, hch, hP⟩

end Go.Proofs.Ytanipieeegeheaa
namespace Go.Proofs.Ytanipieeegeheaa
open Go.RowKit

theorem str_at {l : List UInt8} {j : Nat} (h : j < l.length) : (ByteArray.mk l.toArray)[j]'(by simpa [ByteArray.size] using h) = l[j] := by
  simp [ByteArray.getElem_eq_getElem_data]

/-- The error of Put. -/
def recMayR (gen n : Nat) : Nat := if 400000 < n then 11 else if gen < 1 ∨ 4611686018427387904 < gen then 1 else 0

theorem Try.infoStr : (Try.prog.info? 9).map (fun i => (i.zero, i.size, i.bytes)) = some (some (.string ⟨#[]⟩), 1, 16) := by kernel_rfl

theorem run_str_part {P : Program} (t : TypeId) (ht : P.underlying t = some .string) (l : List UInt8) (a b : Nat) (kd kd' : IntKind) (hab : a ≤ b) (hb : b ≤ l.length) (w : World) :
    (Instr.slice t (.string ⟨l.toArray⟩) (some (.int kd (a : Int))) (some (.int kd' (b : Int))) none).run P w = .ok (.string ⟨((l.drop a).take (b - a)).toArray⟩) w := by
  have hs : (ByteArray.mk l.toArray).size = l.length := by simp [ByteArray.size]
  simp [Instr.slice, Instr.sliceBounds, run_underlying ht, hs, run_bound_in w kd a b _ hab, run_bound_in w kd' b l.length _ hb]
  apply ByteArray.ext
  simp [ByteArray.data_extract, List.take_drop]

theorem scanA_stop {gen : Nat} {x : List UInt8} (h : oneR gen x = none) : scanA gen x = ([], 0) := by
  unfold scanA
  split
  · rfl
  · exact scanR_none h
theorem scanA_bad {gen : Nat} {x : List UInt8} (h : gen < 1 ∨ 4611686018427387904 < gen) : scanA gen x = ([], 0) := by
  unfold scanA
  rw [if_pos h]
theorem scanA_go {gen : Nat} {x body : List UInt8} (hg : ¬ (gen < 1 ∨ 4611686018427387904 < gen)) (h : oneR gen x = some body) :
    scanA gen x = (body :: (scanA gen (x.drop (body.length + 13))).1, body.length + 13 + (scanA gen (x.drop (body.length + 13))).2) := by
  unfold scanA
  rw [if_neg hg, if_neg hg, scanR_some h]
theorem oneR_short {gen : Nat} {x : List UInt8} (h : x.length ≤ 12) : oneR gen x = none := by
  unfold oneR
  rw [if_pos h]
theorem oneR_long {gen : Nat} {x : List UInt8} (h : 12 < x.length) : oneR gen x = if x[0]? ≠ some 165 then none else if unB ((x.drop 1).take 8) ≠ gen then none else if 400000 < unB ((x.drop 9).take 3) then none
    else if x.length - 12 ≤ unB ((x.drop 9).take 3) then none else if (x.drop 12)[unB ((x.drop 9).take 3)]? ≠ some 90 then none else some ((x.drop 12).take (unB ((x.drop 9).take 3))) := by
  unfold oneR
  rw [if_neg (by omega)]

/-- What the document's Scan answers. -/
def RScanIs (B : Nat) (r : List (List UInt8) × Nat) (e : Ending) (w' : World) : Prop :=
  ∃ v, e = .returned (.tuple #[v, .int .i64 r.2]) ∧ w'.ownsRow B 9 1 v r.1.length (r.1.map sv)

end Go.Proofs.Ytanipieeegeheaa
namespace Go.Proofs.Ytanipieeegeheaa
open Go.RowKit

theorem run_str_front {P : Program} (t : TypeId) (ht : P.underlying t = some .string) (l : List UInt8) (b : Nat) (kd' : IntKind) (hb : b ≤ l.length) (w : World) :
    (Instr.slice t (.string ⟨l.toArray⟩) none (some (.int kd' (b : Int))) none).run P w = .ok (.string ⟨(l.take b).toArray⟩) w := by
  have hs : (ByteArray.mk l.toArray).size = l.length := by simp [ByteArray.size]
  simp [Instr.slice, Instr.sliceBounds, run_underlying ht, hs, run_bound_in w kd' b l.length _ hb]
  apply ByteArray.ext
  simp [ByteArray.data_extract]
end Go.Proofs.Ytanipieeegeheaa
namespace Go.Proofs.Ytanipieeegeheaa
open Go.RowKit

/-- What Ops answers: ops in new memory, or nothing. -/
def OpsIs (B : Nat) (r : Option (List Oq)) (e : Ending) (w' : World) : Prop :=
  match r with
  | some l => ∃ v, e = .returned (.tuple #[v, .int .i64 0]) ∧ w'.ownsRow B 32 5 v l.length (l.flatMap Oq.cs)
  | none => e = .returned (.tuple #[.slice none 0 0, .int .i64 10])

theorem ops_row {S : Nat → Prop} {w wr W w2 : World} {u v2 : Value} {X : List Oq} {o : Oq} {ob : Obj} {T : TypeId} (hown : wr.ownsRow w.heap.size T 5 u X.length (X.flatMap Oq.cs)) (hc : Chg S w wr) (hW : Chg S wr W)
    (o2 : w2.ownsRow w.heap.size T 5 v2 (X.length + 1) (X.flatMap Oq.cs ++ o.cs)) (g2 : Grew (W.alloc ob) u w2 v2) :
    w2.ownsRow w.heap.size T 5 v2 (X ++ [o]).length ((X ++ [o]).flatMap Oq.cs) ∧ Chg S w w2 := by
  refine ⟨by simpa using o2, ((hc.trans hW (fun _ _ h => h)).trans ((Chg.refl S W).alloc ob) (fun _ _ h => h)).trans g2.chg (fun i hi hm => ?_)⟩
  have := own_ge hown i hm
  omega
theorem no_old {S : Nat → Prop} {n : Nat} : n < n → S n := fun h => absurd h (Nat.lt_irrefl _)
theorem str_cut (l : List UInt8) (a n : Nat) : (⟨((l.drop a).take n).toArray⟩ : ByteArray) = (ByteArray.mk l.toArray).extract a (a + n) := by
  apply ByteArray.ext
  simp [ByteArray.data_extract, List.take_drop]
theorem unPt_take (t : List UInt8) : unPt (t.take 16) = unPt t := by
  simp [unPt, List.take_take, List.drop_take]

end Go.Proofs.Ytanipieeegeheaa
namespace Go.Proofs.Ytanipieeegeheaa
open Go.RowKit

/-- The reader behind some ops: what is to come, or it is bad. -/
def RSt (w : World) (p : Nat) (S : Nat → Prop) (bs : List UInt8) (X : List Oq) : Prop :=
  ∃ A n c bad, Bk w p 104 #[.slice A n c, .bool bad] ∧ n ≤ c ∧ c ≤ maxLen ∧ ((bad = false ∧ ∃ R, RdB w S A n R ∧ Dec bs R X) ∨ (bad = true ∧ n = 0 ∧ opsD bs = none))
theorem RSt.keep {w w' : World} {p : Nat} {S T : Nat → Prop} {bs : List UInt8} {X : List Oq} (h : RSt w p S bs X) (hc : Chg T w w') (hp : ¬ T p) (hS : ∀ k, S k → T k → False) : RSt w' p S bs X := by
  obtain ⟨A, n, c, bad, h1, h2, h3, h4⟩ := h
  refine ⟨A, n, c, bad, h1.keep hc hp, h2, h3, ?_⟩
  rcases h4 with ⟨h5, R, h6, h7⟩ | h5
  · exact .inl ⟨h5, R, h6.keep hc hS, h7⟩
  · exact .inr h5
theorem pt_step (p : Nat) (A : Option Addr) (c n : Nat) (bs t : List UInt8) (X : List Oq) (S : Nat → Prop) (w : World)
    (hp : Bk w p 104 #[.slice A n c, .bool false]) (hr : RdB w S A n t) (hS : ¬ S p) (hSw : ∀ k, S k → k < w.heap.size) (hc : n ≤ c) (hcm : c ≤ maxLen) (hd : Dec bs (1 :: t) X) :
    Calls Try.prog 88 #[.pointer (some ⟨p, 0, none⟩)] w fun e w' => ∃ q : Pt, e = .returned (.agg q.cs.toArray) ∧ Chg (· = p) w w' ∧ RSt w' p S bs (X ++ [⟨1, q⟩]) := by
  have hl := hr.len
  have h16 : opLen 1 = 16 := rfl
  by_cases h : 16 ≤ n
  · refine (takePt_ok p A c n t false S w hp hr hS hSw h hc hcm).mono ?_
    rintro e w1 ⟨rfl, hc1, A1, hp1, hr1⟩
    refine ⟨_, rfl, hc1, A1, n - 16, c - 16, false, hp1, by omega, by omega, .inl ⟨rfl, _, hr1, ?_⟩⟩
    have := hd.step (by rw [h16]; omega)
    rw [h16] at this
    exact this
  · refine (takePt_short p A c n t false S w hp hr hS (by omega) hc hcm).mono ?_
    rintro e w1 ⟨⟨q, rfl⟩, hc1, hp1⟩
    exact ⟨q, rfl, hc1, none, 0, 0, true, hp1, Nat.le_refl _, by simp [maxLen], .inr ⟨rfl, rfl, hd.short (by rw [h16]; omega)⟩⟩
theorem key_step (p : Nat) (A : Option Addr) (c n : Nat) (bs t : List UInt8) (k : UInt8) (X : List Oq) (S : Nat → Prop) (w : World)
    (hp : Bk w p 104 #[.slice A n c, .bool false]) (hr : RdB w S A n t) (hS : ¬ S p) (hc : n ≤ c) (hcm : c ≤ maxLen) (hd : Dec bs (k :: t) X) (hk : k ≠ 1) :
    Calls Try.prog 66 #[.pointer (some ⟨p, 0, none⟩), .int .i64 4] w fun e w' => ∃ N : Nat, N < 4294967296 ∧ e = .returned (.int .u64 N) ∧ Chg (· = p) w w' ∧ RSt w' p S bs (X ++ [⟨(k.toNat : Int), ⟨N, 0, 0, 0⟩⟩]) := by
  have hl := hr.len
  have h4 : opLen k = 4 := by unfold opLen; rw [if_neg hk]
  by_cases h : 4 ≤ n
  · refine (take_any p A c n t false S 4 w hp hr hS (by omega) (by omega) h hc hcm).mono ?_
    rintro e w1 ⟨rfl, hc1, A1, hp1, hr1⟩
    refine ⟨_, unB4 t, rfl, hc1, A1, n - 4, c - 4, false, hp1, by omega, by omega, .inl ⟨rfl, _, hr1, ?_⟩⟩
    have := hd.step (by rw [h4]; omega)
    have ho : opAt k t = ⟨(k.toNat : Int), ⟨(unB (t.take 4) : Nat), 0, 0, 0⟩⟩ := by unfold opAt; rw [if_neg hk]
    rw [h4, ho] at this
    exact this
  · refine (take_short p A c n false 4 w hp (by omega)).mono ?_
    rintro e w1 ⟨rfl, hc1, hp1⟩
    exact ⟨0, by omega, rfl, hc1, none, 0, 0, true, hp1, Nat.le_refl _, by simp [maxLen], .inr ⟨rfl, rfl, hd.short (by rw [h4]; omega)⟩⟩
/-- Batch of a row, whatever it holds. -/
theorem batch_any (A : Option Addr) (n c : Nat) (l : List Oq) (S : Nat → Prop) (w : World) (hr : RdO w S A n l) (hc : n ≤ c) (hcm : c ≤ maxLen) :
    Calls Try.prog 47 #[.slice A n c] w fun e w' => ∃ (E : Nat) (A' : Option Addr) (n' c' : Nat), e = .returned (.tuple #[.slice A' n' c', .int .i64 (E : Int)]) ∧ E = batE l ∧ Chg Nil w w' := by
  by_cases h0 : batE l = 0
  · refine (batch_ok A n c l S w hr hc hcm h0).mono ?_
    rintro e w1 ⟨v, rfl, hc1, hown⟩
    obtain ⟨A1, c1, rfl, _, _⟩ := own_form hown
    exact ⟨0, A1, _, c1, rfl, h0.symm, hc1⟩
  · refine (batch_bad A n c l S w hr hc hcm h0).mono ?_
    rintro e w1 ⟨rfl, hc1⟩
    exact ⟨_, none, 0, 0, rfl, rfl, hc1⟩

def sliceLen : Value → Nat
  | .slice _ n _ => n
  | _ => 0

set_option maxHeartbeats 4000000 in
set_option maxRecDepth 100000 in
theorem recops_any (A : Option Addr) (c n : Nat) (bs : List UInt8) (S : Nat → Prop) (w : World) (hr : RdB w S A n bs) (hc : n ≤ c) (hcm : c ≤ maxLen) :
    Calls Try.prog 70 #[.slice A n c] w fun e w' => OpsIs w.heap.size (opsD bs) e w' ∧ Chg Nil w w' := by
  obtain ⟨i0, hi, hz0, hz1, hz2⟩ := info_parts Try.infoOp5
  have hr' := hr.here
  go_enter Try.func70, Try.ntmps70
  go_upto_region 3 with fail
  have hp0 := Bk.new w 104 #[.slice A n c, .bool false]
  have hs0 : (w.alloc (.cells #[.slice A n c, .bool false] 104)).heap.size = w.heap.size + 1 := by simp
  have hA : Chg Nil w (w.alloc (.cells #[.slice A n c, .bool false] 104)) := (Chg.refl _ _).alloc _
  generalize w.alloc (.cells #[.slice A n c, .bool false] 104) = wb at *
  have hR0 : RSt wb w.heap.size (fun k => S k ∧ k < w.heap.size) bs [] := ⟨A, n, c, false, hp0, hc, hcm, .inl ⟨rfl, bs, hr'.keep hA (fun _ _ h => h), Dec.start bs⟩⟩
  have H0 := Hid.mk (And.intro hA (And.intro hs0 hR0))
  clear hp0 hA hR0 hr hr'
  go_loopw [5, 6] (fun out o wr => ∃ X : List Oq, X.length ≤ 501 ∧ wr.ownsRow wb.heap.size 32 5 out X.length (X.flatMap Oq.cs) ∧ Chg (· = w.heap.size) wb wr ∧ RSt wr w.heap.size (fun k => S k ∧ k < w.heap.size) bs X) (fun out _ _ => 501 - sliceLen out)
  case atStart => exact ⟨[], by simp, ⟨rfl, .inl ⟨rfl, rfl⟩⟩, Chg.refl _ _, H0.out.2.2⟩
  case round =>
    obtain ⟨X, hX, hown, hch, hst⟩ := hrel
    obtain ⟨G, gc, rfl, hgc, hgm⟩ := own_form hown
    have hwr : Chg Nil w wr := H0.out.1.trans hch (fun i hi h => by omega)
    have hBat := batch_any G X.length gc X _ wr (Rds.of_own hown) hgc hgm
    obtain ⟨A1, n1, c1, bad, hp, hc1, hm1, hst⟩ := hst
    have x0 := hp.cell 0 rfl
    have x1 := hp.cell 1 rfl
    rcases hst with ⟨rfl, R, hR, hD⟩ | ⟨rfl, rfl, hno⟩
    · have hRl := hR.len
      cases R with
      | nil =>
        obtain rfl : n1 = 0 := by simpa using hRl.symm
        have hd := hD.done
        have HB := Hid.mk hBat
        have HK := Hid.mk (And.intro hd (And.intro hwr (And.intro hown hp)))
        clear hD hd hBat hch hwr hown hp hR hRl
        go_wp2_with fail
        refine HB.out.mono ?_
        rintro e w1 ⟨E, A2, n2, c2, rfl, hE, hcb⟩
        have hp1 := HK.out.2.2.2.keep hcb (fun h => h)
        have z1 := hp1.cell 1 rfl
        have H1 := Hid.mk (And.intro (HK.out.2.1.trans hcb (fun _ _ h => h)) (own_keep HK.out.2.2.1 hcb (fun _ _ h => h)))
        clear hcb hp1
        by_cases h0 : E = 0
        · subst h0
          have hr : opsD bs = some X := by rw [HK.out.1, if_pos hE.symm]
          have HR := Hid.mk hr
          clear hr hE
          go_wp2_with fail
          go_ret2
          rw [HR.out]
          exact ⟨⟨_, rfl, own_base H1.out.2 (fun k hk => by have := own_ge H1.out.2 k hk; omega)⟩, H1.out.1⟩
        · have hr : opsD bs = none := by rw [HK.out.1, if_neg (by omega)]
          have HR := Hid.mk hr
          have hEb : ((E : Int) == 0) = false := by rw [beq_eq_false_iff_ne]; omega
          clear hr hE
          go_wp2_with fail
          go_ret2
          rw [HR.out]
          exact ⟨rfl, H1.out.1⟩
      | cons k t =>
        have hn1 : n1 = t.length + 1 := by simpa using hRl.symm
        by_cases h500 : 500 < X.length
        · have hno := hD.long h500
          have hbl := batE_long h500
          have HB := Hid.mk hBat
          have HK := Hid.mk (And.intro hno (And.intro hwr (And.intro hown hp)))
          clear hno hBat hch hwr hown hp hR hD hRl
          go_wp2_with fail
          refine HB.out.mono ?_
          rintro e w1 ⟨E, A2, n2, c2, rfl, hE, hcb⟩
          have hp1 := HK.out.2.2.2.keep hcb (fun h => h)
          have z1 := hp1.cell 1 rfl
          have H1 := Hid.mk (HK.out.2.1.trans hcb (fun _ _ h => h))
          have hEb : ((E : Int) == 0) = false := by rw [beq_eq_false_iff_ne]; omega
          clear hcb hp1 hE hbl
          go_wp2_with fail
          go_ret2
          rw [HK.out.1]
          exact ⟨rfl, H1.out⟩
        have hsz := hch.size
        have hs0 := H0.out.2.1
        have hunk : unB ((k :: t).take 1) = k.toNat := by simp [unB]
        have h256 := k.toNat_lt
        have HT := Hid.mk (take_any w.heap.size A1 c1 n1 (k :: t) false (fun k => S k ∧ k < w.heap.size) 1 wr hp hR (fun h => Nat.lt_irrefl _ h.2) (by omega) (by omega) (by omega) hc1 hm1)
        rw [hunk] at HT
        have HK := Hid.mk (And.intro hD (And.intro hch hown))
        clear hBat hch hwr hown hp hR hD hRl hunk
        by_cases hk1 : k = 1
        · subst hk1
          have ht1 : (1 : UInt8).toNat = 1 := rfl
          rw [ht1] at HT
          go_wp2_with fail
          refine HT.out.mono ?_
          rintro e w1 ⟨rfl, hc1', A2, hp2, hr2⟩
          have hz := hc1'.size
          have HS := Hid.mk (And.intro hc1' (And.intro hp2 hr2))
          clear hc1' hp2 hr2
          go_wp2_with fail
          refine (pt_step w.heap.size A2 (c1 - 1) (n1 - 1) bs t X (fun k => S k ∧ k < w.heap.size) _ (HS.out.2.1.alloc _) (HS.out.2.2.keep ((Chg.refl Nil w1).alloc _) (fun _ _ h => h)) (fun h => Nat.lt_irrefl _ h.2) (fun k h => by have := h.2; simp; omega) (by omega) (by omega) HK.out.1).mono ?_
          rintro e w2 ⟨q, he, hc2, hst2⟩
          obtain ⟨ky, x, y, v⟩ := q
          have he' : e = .returned (.agg #[.int .i64 ky, .int .i64 x, .int .i64 y, .int .i64 v]) := he
          subst he'
          clear he
          have hB : Bk w2 w1.heap.size 32 #[.int .i64 1, .int .i64 0, .int .i64 0, .int .i64 0, .int .i64 0] := (Bk.new w1 _ _).keep hc2 (fun h => by have h' : w1.heap.size = w.heap.size := h; omega)
          have f1 := hB.free 1
          have f2 := hB.free 2
          have f3 := hB.free 3
          have f4 := hB.free 4
          have d0 := hB.cell 0 rfl
          have d1 := hB.cell 1 rfl
          have d2 := hB.cell 2 rfl
          have d3 := hB.cell 3 rfl
          have d4 := hB.cell 4 rfl
          have HW := Hid.mk (And.intro ((HS.out.1.alloc _).trans hc2 (fun _ _ h => h)) (And.intro hst2 hB.lt))
          clear hB hc2 hst2
          have hwz := HW.out.2.2
          have HC : Hid (∀ W, W = ((((w2.setCell ⟨w1.heap.size, 1, none⟩ (.int .i64 ky)).setCell ⟨w1.heap.size, 2, none⟩ (.int .i64 x)).setCell ⟨w1.heap.size, 3, none⟩ (.int .i64 y)).setCell ⟨w1.heap.size, 4, none⟩ (.int .i64 v)) →
              Chg (· = w.heap.size) wr W ∧ Chg (fun j => w.heap.size < j) w2 W ∧ RdO (W.alloc (.cells #[.int .i64 1, .int .i64 ky, .int .i64 x, .int .i64 y, .int .i64 v] 32)) (fun j => j = w2.heap.size) (some ⟨w2.heap.size, 0, none⟩) 1 [⟨1, ⟨ky, x, y, v⟩⟩]) := Hid.mk (fun W hW => by
            have hs1 : W.heap.size = w2.heap.size := by rw [hW]; simp
            have h2 := rdo_one W ⟨1, ⟨ky, x, y, v⟩⟩
            rw [hs1] at h2
            refine ⟨?_, ?_, h2⟩
            · rw [hW]
              exact ((((HW.out.1.setCell (fun h => absurd (show w1.heap.size < wr.heap.size from h) (by omega)) _).setCell (fun h => absurd (show w1.heap.size < wr.heap.size from h) (by omega)) _).setCell (fun h => absurd (show w1.heap.size < wr.heap.size from h) (by omega)) _).setCell (fun h => absurd (show w1.heap.size < wr.heap.size from h) (by omega)) _)
            · rw [hW]
              exact (((((Chg.refl (fun j => w.heap.size < j) w2).setCell (p := ⟨w1.heap.size, 1, none⟩) (fun _ => by show w.heap.size < w1.heap.size; omega) _).setCell (p := ⟨w1.heap.size, 2, none⟩) (fun _ => by show w.heap.size < w1.heap.size; omega) _).setCell (p := ⟨w1.heap.size, 3, none⟩) (fun _ => by show w.heap.size < w1.heap.size; omega) _).setCell (p := ⟨w1.heap.size, 4, none⟩) (fun _ => by show w.heap.size < w1.heap.size; omega) _))
          go_wp2_with (at_builtin; obtain ⟨W, hW⟩ : ∃ W, W = ((((w2.setCell ⟨w1.heap.size, 1, none⟩ (.int .i64 ky)).setCell ⟨w1.heap.size, 2, none⟩ (.int .i64 x)).setCell ⟨w1.heap.size, 3, none⟩ (.int .i64 y)).setCell ⟨w1.heap.size, 4, none⟩ (.int .i64 v)) := ⟨_, rfl⟩; rw [← hW]; have HD := Hid.mk (HC.out W hW); clear hW; refine wpl_append rfl (.tmp 38) (.tmp 40) 28 rfl wb.heap.size 32 i0 _ 5 40 Try.underlying28 hi hz0 hz1 hz2 rfl (by omega) _ X.length _ rfl (own_keep HK.out.2.2 (HD.out.1.alloc _) (fun k hk h => by have := own_ge HK.out.2.2 k hk; omega)) _ (some ⟨w2.heap.size, 0, none⟩) 1 1 _ rfl HD.out.2.2 (ops_one _) (by simp only [maxLen]; omega) (by omega) (by have := HK.out.2.1.size; have := HD.out.1.size; simp; omega) ?_; intro v2 w3 o2 g2; have H2 := Hid.mk (And.intro (ops_row (o := ⟨1, ⟨ky, x, y, v⟩⟩) HK.out.2.2 HK.out.2.1 HD.out.1 (by simpa using o2) g2) ((HD.out.2.1.alloc _).trans g2.chg (fun i _ hm => by have := own_ge HK.out.2.2 i hm; show w.heap.size < i; omega))); obtain ⟨A9, c9, hv9, _, _⟩ := own_form o2; subst hv9; clear o2 g2)
          go_roundw
          case rel => exact ⟨_, by simp; omega, H2.out.1.1, H2.out.1.2, HW.out.2.1.keep H2.out.2 (fun h => absurd h (Nat.lt_irrefl _)) (fun k hk hj => by have := hk.2; have hj' : w.heap.size < k := hj; omega)⟩
          case measure => simp [sliceLen]; omega
        · have hkb : ((k.toNat : Int) == 1) = false := by
            rw [beq_eq_false_iff_ne]
            exact fun h => hk1 (UInt8.toNat_inj.1 (by show k.toNat = 1; omega))
          have HKS := Hid.mk (fun W A2 hp2 hr2 => key_step w.heap.size A2 (c1 - 1) (n1 - 1) bs t k X (fun k => S k ∧ k < w.heap.size) W hp2 hr2 (fun h => Nat.lt_irrefl _ h.2) (by omega) (by omega) HK.out.1 hk1)
          clear hk1
          go_wp2_with fail
          refine HT.out.mono ?_
          rintro e w1 ⟨rfl, hc1', A2, hp2, hr2⟩
          have hz := hc1'.size
          have HS := Hid.mk (And.intro hc1' (And.intro hp2 hr2))
          clear hc1' hp2 hr2
          go_wp2_with fail
          refine (HKS.out _ A2 (HS.out.2.1.alloc _) (HS.out.2.2.keep ((Chg.refl Nil w1).alloc _) (fun _ _ h => h))).mono ?_
          rintro e w2 ⟨N, hN, rfl, hc2, hst2⟩
          have hB : Bk w2 w1.heap.size 32 #[.int .i64 (k.toNat : Int), .int .i64 0, .int .i64 0, .int .i64 0, .int .i64 0] := (Bk.new w1 _ _).keep hc2 (fun h => by have h' : w1.heap.size = w.heap.size := h; omega)
          have f1 := hB.free 1
          have d0 := hB.cell 0 rfl
          have d1 := hB.cell 1 rfl
          have d2 := hB.cell 2 rfl
          have d3 := hB.cell 3 rfl
          have d4 := hB.cell 4 rfl
          have HW := Hid.mk (And.intro ((HS.out.1.alloc _).trans hc2 (fun _ _ h => h)) (And.intro hst2 hB.lt))
          clear hB hc2 hst2
          have hwz := HW.out.2.2
          have HC : Hid (∀ W, W = (w2.setCell ⟨w1.heap.size, 1, none⟩ (.int .i64 N)) →
              Chg (· = w.heap.size) wr W ∧ Chg (fun j => w.heap.size < j) w2 W ∧ RdO (W.alloc (.cells #[.int .i64 (k.toNat : Int), .int .i64 N, .int .i64 0, .int .i64 0, .int .i64 0] 32)) (fun j => j = w2.heap.size) (some ⟨w2.heap.size, 0, none⟩) 1 [⟨(k.toNat : Int), ⟨N, 0, 0, 0⟩⟩]) := Hid.mk (fun W hW => by
            have hs1 : W.heap.size = w2.heap.size := by rw [hW]; simp
            have h2 := rdo_one W ⟨(k.toNat : Int), ⟨N, 0, 0, 0⟩⟩
            rw [hs1] at h2
            refine ⟨?_, ?_, h2⟩
            · rw [hW]
              exact (HW.out.1.setCell (fun h => absurd (show w1.heap.size < wr.heap.size from h) (by omega)) _)
            · rw [hW]
              exact ((Chg.refl (fun j => w.heap.size < j) w2).setCell (p := ⟨w1.heap.size, 1, none⟩) (fun _ => by show w.heap.size < w1.heap.size; omega) _))
          go_wp2_with (at_builtin; obtain ⟨W, hW⟩ : ∃ W, W = (w2.setCell ⟨w1.heap.size, 1, none⟩ (.int .i64 N)) := ⟨_, rfl⟩; rw [← hW]; have HD := Hid.mk (HC.out W hW); clear hW; refine wpl_append rfl (.tmp 38) (.tmp 40) 28 rfl wb.heap.size 32 i0 _ 5 40 Try.underlying28 hi hz0 hz1 hz2 rfl (by omega) _ X.length _ rfl (own_keep HK.out.2.2 (HD.out.1.alloc _) (fun k hk h => by have := own_ge HK.out.2.2 k hk; omega)) _ (some ⟨w2.heap.size, 0, none⟩) 1 1 _ rfl HD.out.2.2 (ops_one _) (by simp only [maxLen]; omega) (by omega) (by have := HK.out.2.1.size; have := HD.out.1.size; simp; omega) ?_; intro v2 w3 o2 g2; have H2 := Hid.mk (And.intro (ops_row (o := ⟨(k.toNat : Int), ⟨N, 0, 0, 0⟩⟩) HK.out.2.2 HK.out.2.1 HD.out.1 (by simpa using o2) g2) ((HD.out.2.1.alloc _).trans g2.chg (fun i _ hm => by have := own_ge HK.out.2.2 i hm; show w.heap.size < i; omega))); obtain ⟨A9, c9, hv9, _, _⟩ := own_form o2; subst hv9; clear o2 g2)
          go_roundw
          case rel => exact ⟨_, by simp; omega, H2.out.1.1, H2.out.1.2, HW.out.2.1.keep H2.out.2 (fun h => absurd h (Nat.lt_irrefl _)) (fun k hk hj => by have := hk.2; have hj' : w.heap.size < k := hj; omega)⟩
          case measure => simp [sliceLen]; omega
    · have HB := Hid.mk hBat
      have HK := Hid.mk (And.intro hno (And.intro hwr (And.intro hown hp)))
      clear hno hBat hch hwr hown hp
      go_wp2_with fail
      refine HB.out.mono ?_
      rintro e w1 ⟨E, A2, n2, c2, rfl, hE, hcb⟩
      have hp1 := HK.out.2.2.2.keep hcb (fun h => h)
      have z1 := hp1.cell 1 rfl
      have H1 := Hid.mk (HK.out.2.1.trans hcb (fun _ _ h => h))
      clear hcb hp1 hE
      go_wp2_with fail
      go_ret2
      rw [HK.out.1]
      exact ⟨rfl, H1.out⟩

end Go.Proofs.Ytanipieeegeheaa
