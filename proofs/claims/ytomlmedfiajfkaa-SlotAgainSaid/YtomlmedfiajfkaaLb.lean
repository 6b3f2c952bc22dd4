/- Joined for this seat from: XNum XPlain XTake XPut XOne XScan XRef XText XPlainScan XJoins XQuiet XRowMore XTail XOps XPutPt XAnyOp XBatch XBatchOk XRefOps XGood XRefBatch XDec XTakePt XRefScan XRefDec XSame XRefOpsB XRecOps. -/
import Derived.Deep.QuietTactic
import Derived.BigQuiet
import Derived.StillTail
import Derived.Laws.Cells
import Derived.Deep.DeepCutAuto
import Derived.Test.YtomlmedfiajfkaaLa
namespace Go.Proofs.Ytomlmedfiajfkaa
open Go.RowKit

/-- A number in so many bytes, the highest first. -/
def numB (n : Nat) : Nat → List UInt8
  | 0 => []
  | k + 1 => UInt8.ofNat (n / 256 ^ k) :: numB n k

theorem numB_len (n k : Nat) : (numB n k).length = k := by
  induction k with
  | zero => rfl
  | succ k ih => simp [numB, ih]

/-- The first j of them. -/
theorem numB_take (n k j : Nat) (h : j < k) : (numB n k).take (j + 1) = (numB n k).take j ++ [UInt8.ofNat (n / 256 ^ (k - 1 - j))] := by
  induction k generalizing j with
  | zero => omega
  | succ k ih =>
    cases j with
    | zero => simp [numB]
    | succ j =>
      simp only [numB, List.take_succ_cons, List.cons_append]
      rw [ih j (by omega)]
      rw [show k + 1 - 1 - (j + 1) = k - 1 - j by omega]

theorem bv_ofNat (m : Nat) : bv (UInt8.ofNat m) = .int .u8 ((m % 256 : Nat) : Int) := by
  simp [bv]
theorem numB_val (N j : Nat) : Value.int .u8 ((N : Int) / 2 ^ (8 * j) % 256) = bv (UInt8.ofNat (N / 256 ^ j)) := by
  rw [bv_ofNat, show (256 : Nat) ^ j = 2 ^ (8 * j) by rw [Nat.pow_mul]]
  simp

theorem Try.infoByte : (Try.prog.info? 5).map (fun i => (i.zero, i.size, i.bytes)) = some (some (.int .u8 0), 1, 1) := by kernel_rfl

set_option maxHeartbeats 400000 in
set_option maxRecDepth 100000 in
theorem number_any (base : Nat) (v : Value) (n : Nat) (xs : List Value) (N long : Nat) (w : World) (hl : long ≤ 8) (hN : N < 18446744073709551616) (hn : n ≤ 1000000)
    (hown : w.ownsRow base 5 1 v n xs) (hb : base ≤ w.heap.size) :
    Calls Try.prog 48 #[v, .int .u64 N, .int .i64 long] w fun e w' => ∃ v', e = .returned v' ∧ w'.ownsRow base 5 1 v' (n + long) (xs ++ (numB N long).map bv) ∧ Grew w v w' v' := by
  obtain ⟨i0, hi, hz0, hz1, hz2⟩ := info_parts Try.infoByte
  have HN := Hid.mk hN
  clear hN
  go_enter Try.func48, Try.ntmps48
  go_wp2
  go_loopw [0, 7] (fun vv i wr => ∃ k : Nat, k ≤ long ∧ i = .int .i64 ((long : Int) - 1 - k) ∧ wr.ownsRow base 5 1 vv (n + k) (xs ++ ((numB N long).take k).map bv) ∧ Grew w v wr vv) (fun _ i _ => (intOf i + 1).toNat)
  case atStart => exact ⟨0, Nat.zero_le _, by simp, by simpa using hown, Grew.refl w v⟩
  case round =>
    obtain ⟨k, hk, rfl, hwr, hgr⟩ := hrel
    by_cases hlt : k < long
    · have h0 : (0 : Int) ≤ (long : Int) - 1 - k := by omega
      have h63 : n + k + 1 ≤ maxLen := by simp only [maxLen]; omega
      have HH := Hid.mk (And.intro hgr (And.intro hown hb))
      clear hgr hown hb
      go_wp2_with (at_builtin; refine wpl_append rfl (.tmp 14) (.tmp 21) 22 rfl base 5 i0 _ 1 1 Try.underlying22 hi hz0 hz1 hz2 rfl (by omega) _ (n + k) _ rfl (hwr.alloc _) _ (some ⟨wr.heap.size, 0, none⟩) 1 1 _ rfl (rds_one _ _ _) ?c1 ?c2 ?c3 ?c4 ?_)
      case c1 => intro u hu; simp at hu; subst hu; rfl
      case c2 => exact h63
      case c3 => omega
      case c4 => have := HH.out.1.chg.size; have := HH.out.2.2; simp; omega
      rintro v' w' hown' hg'
      rw [numB_val] at hown' hg'
      have G := Hid.mk (HH.out.1.trans hg'.alloc_left)
      have O := Hid.mk hown'
      clear hown' hg' hwr
      go_wp2
      go_roundw
      case rel =>
        refine ⟨k + 1, by omega, by go_num, ?_, G.out⟩
        have h := O.out
        rw [numB_take _ _ _ hlt, List.map_append, ← List.append_assoc]
        simpa [Nat.add_assoc] using h
      case measure => simp [intOf]; omega
    · have : k = long := by omega
      subst this
      have HH := Hid.mk (And.intro hgr (And.intro hown hwr))
      clear hgr hown hwr
      go_wp2
      go_ret
      refine ⟨_, rfl, ?_, HH.out.1⟩
      have h := HH.out.2.2
      rwa [List.take_of_length_le (by rw [numB_len]; exact Nat.le_refl _)] at h

end Go.Proofs.Ytomlmedfiajfkaa
namespace Go.Proofs.Ytomlmedfiajfkaa
/-- Bytes as a number, the highest first. -/
def unB (bs : List UInt8) : Nat := bs.foldl (fun n c => n * 256 + c.toNat) 0

theorem unB_snoc (bs : List UInt8) (c : UInt8) : unB (bs ++ [c]) = unB bs * 256 + c.toNat := by simp [unB]

theorem unB_from (bs : List UInt8) : ∀ n, bs.foldl (fun n c => n * 256 + c.toNat) n < (n + 1) * 256 ^ bs.length := by
  induction bs with
  | nil => intro n; simp
  | cons c l ih =>
    intro n
    have h := ih (n * 256 + c.toNat)
    have hc := c.toNat_lt
    have h2 : (n * 256 + c.toNat + 1) * 256 ^ l.length ≤ ((n + 1) * 256) * 256 ^ l.length := Nat.mul_le_mul_right _ (by omega)
    simp only [List.foldl_cons, List.length_cons, Nat.pow_succ]
    rw [Nat.mul_comm (256 ^ l.length) 256, ← Nat.mul_assoc]
    omega
theorem unB_lt (bs : List UInt8) : unB bs < 256 ^ bs.length := by
  have := unB_from bs 0
  simpa [unB] using this
theorem unB_lt64 (bs : List UInt8) (h : bs.length ≤ 8) : unB bs < 18446744073709551616 :=
  Nat.lt_of_lt_of_le (unB_lt bs) (Nat.pow_le_pow_right (by omega) h)
theorem unB_take (bs : List UInt8) (k : Nat) (h : k < bs.length) : unB (bs.take (k + 1)) = unB (bs.take k) * 256 + bs[k].toNat := by
  rw [List.take_succ_eq_append_getElem h, unB_snoc]

/-- What is read of a number's bytes is the number. -/
theorem unB_numB_from (N : Nat) : ∀ (k n : Nat), (numB N k).foldl (fun n c => n * 256 + c.toNat) n = n * 256 ^ k + N % 256 ^ k := by
  intro k
  induction k with
  | zero => intro n; simp [numB, Nat.mod_one]
  | succ k ih =>
    intro n
    simp only [numB, List.foldl_cons, ih, UInt8.toNat_ofNat']
    have e : N % (256 ^ k * 256) = N % 256 ^ k + 256 ^ k * (N / 256 ^ k % 256) := Nat.mod_mul
    have p : (256 : Nat) ^ (k + 1) = 256 ^ k * 256 := Nat.pow_succ _ _
    rw [p, e]
    generalize 256 ^ k = x
    generalize N / x = y
    rw [show (2 : Nat) ^ 8 = 256 from rfl, Nat.add_mul, Nat.mul_assoc, Nat.mul_comm 256 x, Nat.mul_comm (y % 256) x]
    omega
theorem unB_numB (N k : Nat) : unB (numB N k) = N % 256 ^ k := by
  have := unB_numB_from N k 0
  simpa [unB] using this

/-- A record. -/
def recB (gen : Nat) (body : List UInt8) : List UInt8 := 165 :: (numB gen 8 ++ numB body.length 3 ++ body ++ [90])
theorem recB_len (gen : Nat) (body : List UInt8) : (recB gen body).length = body.length + 13 := by simp [recB, numB_len]; omega

/-- The record at the front. -/
def oneR (gen : Nat) (bs : List UInt8) : Option (List UInt8) :=
  if bs.length ≤ 12 then none
  else if bs[0]? ≠ some 165 then none
  else if unB ((bs.drop 1).take 8) ≠ gen then none
  else if 400000 < unB ((bs.drop 9).take 3) then none
  else if bs.length - 12 ≤ unB ((bs.drop 9).take 3) then none
  else if (bs.drop 12)[unB ((bs.drop 9).take 3)]? ≠ some 90 then none
  else some ((bs.drop 12).take (unB ((bs.drop 9).take 3)))
theorem oneR_len {gen : Nat} {bs body : List UInt8} (h : oneR gen bs = some body) : body.length + 13 ≤ bs.length ∧ body.length ≤ 400000 := by
  unfold oneR at h
  repeat (split at h; · cases h)
  injection h with h
  subst h
  rw [List.length_take, List.length_drop]
  omega

/-- The records at the front, and where they end. -/
def scanR (gen : Nat) : Nat → List UInt8 → List (List UInt8) × Nat
  | 0, _ => ([], 0)
  | k + 1, bs => match oneR gen bs with
    | none => ([], 0)
    | some body => (body :: (scanR gen k (bs.drop (body.length + 13))).1, body.length + 13 + (scanR gen k (bs.drop (body.length + 13))).2)
theorem scanR_more (gen : Nat) : ∀ (k m : Nat) (bs : List UInt8), bs.length ≤ k → bs.length ≤ m → scanR gen k bs = scanR gen m bs := by
  intro k
  induction k with
  | zero =>
    intro m bs h _
    have h0 : bs = [] := List.eq_nil_of_length_eq_zero (by omega)
    subst h0
    cases m <;> simp [scanR, oneR]
  | succ k ih =>
    intro m bs h1 h2
    cases m with
    | zero =>
      have h0 : bs = [] := List.eq_nil_of_length_eq_zero (by omega)
      subst h0
      simp [scanR, oneR]
    | succ m =>
      simp only [scanR]
      cases h : oneR gen bs with
      | none => rfl
      | some body =>
        have := (oneR_len h).1
        simp only
        rw [ih m (bs.drop (body.length + 13)) (by rw [List.length_drop]; omega) (by rw [List.length_drop]; omega)]
/-- Scan. -/
def scanA (gen : Nat) (bs : List UInt8) : List (List UInt8) × Nat := if gen < 1 ∨ 4611686018427387904 < gen then ([], 0) else scanR gen bs.length bs
theorem scanR_none {gen : Nat} {bs : List UInt8} (h : oneR gen bs = none) : scanR gen bs.length bs = ([], 0) := by
  cases hb : bs.length <;> simp [scanR, h]
theorem scanR_some {gen : Nat} {bs body : List UInt8} (h : oneR gen bs = some body) :
    scanR gen bs.length bs = (body :: (scanR gen (bs.drop (body.length + 13)).length (bs.drop (body.length + 13))).1, body.length + 13 + (scanR gen (bs.drop (body.length + 13)).length (bs.drop (body.length + 13))).2) := by
  have hl := (oneR_len h).1
  obtain ⟨m, hm⟩ : ∃ m, bs.length = m + 1 := ⟨bs.length - 1, by omega⟩
  rw [hm]
  simp only [scanR, h]
  rw [scanR_more gen m (bs.drop (body.length + 13)).length _ (by rw [List.length_drop]; omega) (Nat.le_refl _)]

end Go.Proofs.Ytomlmedfiajfkaa
namespace Go.Proofs.Ytomlmedfiajfkaa
open Go.RowKit

theorem shl_or_val (n c : Nat) (hn : n < 72057594037927936) (hc : c < 256) : bits .or .u64 (IntKind.u64.wrap ((n : Int) * 256)) (c : Int) = ((n * 256 + c : Nat) : Int) := by
  rw [IntKind.wrap_u64, show ((n : Int) * 256 % 18446744073709551616) = ((n * 256 : Nat) : Int) by omega, u64_or_nat _ _ (by omega) (by omega)]
  have := Nat.two_pow_add_eq_or_of_lt (i := 8) (b := c) (by omega) n
  rw [Nat.mul_comm] at this
  exact congrArg (fun x : Nat => (x : Int)) this.symm
theorem unB_take_lt (bs : List UInt8) (k : Nat) (h : k ≤ 7) : unB (bs.take k) < 72057594037927936 :=
  Nat.lt_of_lt_of_le (unB_lt _) (Nat.le_trans (Nat.pow_le_pow_right (by omega) (by rw [List.length_take]; omega : (bs.take k).length ≤ 7)) (by decide))

set_option maxHeartbeats 400000 in
set_option maxRecDepth 100000 in
theorem take_ok (p : Nat) (A : Option Addr) (c n : Nat) (bs : List UInt8) (bad : Bool) (S : Nat → Prop) (long : Nat) (w : World)
    (hp : Bk w p 73 #[.slice A n c, .bool bad]) (hr : RdB w S A n bs) (hS : ¬ S p) (h0 : 0 < long) (hl : long ≤ 8) (hle : long ≤ n) (hc : n ≤ c) (hcm : c ≤ maxLen) :
    Calls Try.prog 31 #[.pointer (some ⟨p, 0, none⟩), .int .i64 long] w fun e w' => e = .returned (.int .u64 (unB (bs.take long) : Nat)) ∧
      w' = w.setCell ⟨p, 0, none⟩ (.slice (if c = long then A else A.map (·.add (long * 1))) (n - long) (c - long)) := by
  obtain rfl := hr.len
  have hc0 : w.cell? ⟨p, 0, none⟩ = some (.slice A bs.length c) := hp.cell 0 rfl
  have hf0 := hp.free 0
  unfold maxLen at hcm
  obtain ⟨b, off, rfl, hb, hlt, hx0⟩ := hr.plain (by omega)
  have hx := Hid.mk hx0
  clear hx0
  have HH := Hid.mk (And.intro hp (And.intro hr hS))
  clear hp hr hS
  have hd : decide (bs.length < long) = false := by simpa using hle
  go_enter Try.func31, Try.ntmps31
  go_wp2_with fail
  go_loop [5, 28] (fun n i => ∃ k : Nat, k ≤ long ∧ i = .int .i64 k ∧ n = .int .u64 (unB (bs.take k) : Nat)) (fun _ i => long - (intOf i).toNat)
  case atStart => exact ⟨0, Nat.zero_le _, rfl, rfl⟩
  case round =>
    obtain ⟨k, hk, rfl, rfl⟩ := hrel
    by_cases hlt : k < long
    · have hkb : k < bs.length := by omega
      have hcell := RdB.byte hx.out hkb
      have hs := unB_take bs k hkb
      have hN := unB_take_lt bs k (by omega)
      have h256 := bs[k].toNat_lt
      have hv := shl_or_val _ _ hN h256
      generalize bs[k].toNat = d at *
      generalize unB (bs.take k) = N at *
      have HV := Hid.mk (And.intro hv (And.intro hs hN))
      clear hv hs hN
      go_wp2_with fail
      go_round
      case rel => exact ⟨k + 1, by omega, by go_num, by rw [HV.out.1, HV.out.2.1]⟩
      case measure => simp [intOf]; omega
    · have : k = long := by omega
      subst this
      go_wp2
      all_goals (go_ret; exact ⟨rfl, rfl⟩)

theorem take_any (p : Nat) (A : Option Addr) (c n : Nat) (bs : List UInt8) (bad : Bool) (S : Nat → Prop) (long : Nat) (w : World)
    (hp : Bk w p 73 #[.slice A n c, .bool bad]) (hr : RdB w S A n bs) (hS : ¬ S p) (h0 : 0 < long) (hl : long ≤ 8) (hle : long ≤ n) (hc : n ≤ c) (hcm : c ≤ maxLen) :
    Calls Try.prog 31 #[.pointer (some ⟨p, 0, none⟩), .int .i64 long] w fun e w' => e = .returned (.int .u64 (unB (bs.take long) : Nat)) ∧
      Chg (· = p) w w' ∧ ∃ A', Bk w' p 73 #[.slice A' (n - long) (c - long), .bool bad] ∧ RdB w' S A' (n - long) (bs.drop long) := by
  refine (take_ok p A c n bs bad S long w hp hr hS h0 hl hle hc hcm).mono fun e w' ⟨he, hw⟩ => ⟨he, ?_⟩
  subst hw
  have hch : Chg (· = p) w (w.setCell ⟨p, 0, none⟩ (.slice (if c = long then A else A.map (·.add (long * 1))) (n - long) (c - long))) :=
    (Chg.refl (· = p) w).setCell (p := ⟨p, 0, none⟩) (fun _ => rfl) _
  refine ⟨hch, (if c = long then A else A.map (·.add (long * 1))), hp.set 0 _, ?_⟩
  have h := (hr.part (k := long) (m := n) (c := c = long) hle (Nat.le_refl _) (by omega)).keep hch (fun k hs hk => hS (hk ▸ hs))
  rwa [List.take_of_length_le (by rw [List.length_drop, hr.len]; exact Nat.le_refl _)] at h

set_option maxHeartbeats 400000 in
set_option maxRecDepth 100000 in
theorem take_short (p : Nat) (A : Option Addr) (c n : Nat) (bad : Bool) (long : Nat) (w : World)
    (hp : Bk w p 73 #[.slice A n c, .bool bad]) (hle : n < long) :
    Calls Try.prog 31 #[.pointer (some ⟨p, 0, none⟩), .int .i64 long] w fun e w' => e = .returned (.int .u64 0) ∧
      Chg (· = p) w w' ∧ Bk w' p 73 #[.slice none 0 0, .bool true] := by
  have hc0 : w.cell? ⟨p, 0, none⟩ = some (.slice A n c) := hp.cell 0 rfl
  have hc1 : w.cell? ⟨p, 1, none⟩ = some (.bool bad) := hp.cell 1 rfl
  have hf0 := hp.free 0
  have hf1 := hp.free 1
  have hfin := Hid.mk (And.intro (((Chg.refl (· = p) w).setCell (p := ⟨p, 0, none⟩) (fun _ => rfl) (.slice none 0 0)).setCell (p := ⟨p, 1, none⟩) (fun _ => rfl) (.bool true)) ((hp.set 0 (.slice none 0 0)).set 1 (.bool true)))
  clear hp
  go_enter Try.func31, Try.ntmps31
  go_wp2
  go_ret
  exact ⟨rfl, hfin.out.1, hfin.out.2⟩

end Go.Proofs.Ytomlmedfiajfkaa
namespace Go.Proofs.Ytomlmedfiajfkaa
open Go.RowKit

/-- What 'one' answers. -/
def OneIs (S : Nat → Prop) (o : Option (List UInt8)) (e : Ending) (w' : World) : Prop :=
  match o with
  | none => e = .returned (.tuple #[.slice none 0 0, .bool false])
  | some body => ∃ A c, e = .returned (.tuple #[.slice A body.length c, .bool true]) ∧ body.length ≤ c ∧ c ≤ maxLen ∧ RdB w' S A body.length body

end Go.Proofs.Ytomlmedfiajfkaa
namespace Go.Proofs.Ytomlmedfiajfkaa
open Go.RowKit

theorem Try.infoBytes : (Try.prog.info? 22).map (fun i => (i.zero, i.size, i.bytes)) = some (some (.slice none 0 0), 1, 24) := by kernel_rfl

/-- What 'Scan' answers: the bodies in new memory, the place. -/
def ScanIs (B : Nat) (r : List (List UInt8) × Nat) (e : Ending) (w' : World) : Prop :=
  ∃ v vs, e = .returned (.tuple #[v, .int .i64 r.2]) ∧ w'.ownsRow B 22 1 v r.1.length vs ∧ RdL w' (fun k => B ≤ k) vs r.1

end Go.Proofs.Ytomlmedfiajfkaa
namespace Go.Proofs.Ytomlmedfiajfkaa
open Go.RowKit

/-- The bytes that the loop has written so far. -/
def numPre (N long k : Nat) : List Value := ((numB N long).take k).map bv ++ List.replicate (long - k) (.int .u8 0)
theorem numPre_len (N long k : Nat) (h : k ≤ long) : (numPre N long k).length = long := by
  simp [numPre, numB_len]
  omega
theorem numPre_get (N long k : Nat) (h : k < long) : (numPre N long k)[k]? = some (.int .u8 0) := by
  have hl : (((numB N long).take k).map bv).length = k := by simp [numB_len]; omega
  rw [numPre, List.getElem?_append_right (by omega), hl, Nat.sub_self]
  have : long - k = (long - k - 1) + 1 := by omega
  rw [this, List.replicate_succ]
  rfl
theorem numPre_set (N long k : Nat) (h : k < long) : (numPre N long k).set k (bv (UInt8.ofNat (N / 256 ^ (long - 1 - k)))) = numPre N long (k + 1) := by
  have hl : (((numB N long).take k).map bv).length = k := by simp [numB_len]; omega
  rw [numPre, List.set_append_right _ _ (by omega), hl, Nat.sub_self, numPre, numB_take _ _ _ h, List.map_append]
  have : long - k = (long - (k + 1)) + 1 := by omega
  rw [this, List.replicate_succ, List.set_cons_zero]
  simp

set_option maxHeartbeats 400000 in
set_option maxRecDepth 100000 in
theorem rnumber_any (N long : Nat) (w : World) (hl : long ≤ 8) :
    Calls Try.prog 21 #[.int .u64 N, .int .i64 long] w fun e w' => e = .returned (.string ⟨(numB N long).toArray⟩) ∧ Below w.heap.size w w' := by
  obtain ⟨i0, hi, hz0, hz1, hz2⟩ := info_parts Try.infoByte
  go_enter Try.func21, Try.ntmps21
  go_wp2_with (at_make; refine wpl_make rfl (.tmp 7) (.tmp 7) 22 rfl 5 i0 _ 1 Try.underlying22 hi hz0 hz1 hz2 rfl long rfl rfl (by omega) (by simp only [maxLen]; omega) ?_; intro w1 o1 c1 l1; have H1 := Hid.mk (And.intro o1 c1); clear o1 c1)
  go_loopw [6] (fun i wr => ∃ k : Nat, k ≤ long ∧ i = .int .i64 k ∧ wr.ownsRow w.heap.size 5 1 (.slice (some ⟨w.heap.size, 0, none⟩) long long) long (numPre N long k) ∧ Below w.heap.size w wr) (fun i _ => long - (intOf i).toNat)
  case atStart => exact ⟨0, Nat.zero_le _, rfl, by simpa [numPre] using H1.out.1, H1.out.2.below_nil⟩
  case round =>
    obtain ⟨k, hk, rfl, hown, hbel⟩ := hrel
    by_cases hlt : k < long
    · have hcell : wr.cell? ⟨w.heap.size, k, none⟩ = some (.int .u8 0) := (hown.cellAt k (by omega)).trans (numPre_get N long k hlt)
      have hfr := hown.frozenAt k
      have H2 := Hid.mk (And.intro hown hbel)
      clear hown hbel
      go_wp2_with fail
      go_roundw
      case rel =>
        refine ⟨k + 1, by omega, by go_num, ?_, H2.out.2.setCell (p := ⟨w.heap.size, k, none⟩) (Nat.le_refl _) _⟩
        have h := (H2.out.1.stored k (bv (UInt8.ofNat (N / 256 ^ (long - 1 - k))))).1
        rw [numPre_set N long k hlt] at h
        rw [numB_val]
        exact h
      case measure => simp [intOf]; omega
    · have : k = long := by omega
      subst this
      have hr : RdB wr (Own (.slice (some ⟨w.heap.size, 0, none⟩) k k)) (some ⟨w.heap.size, 0, none⟩) k (numB N k) := by
        have h := Rds.of_own hown
        unfold RdB
        simpa [numPre, List.take_of_length_le (show (numB N k).length ≤ k by rw [numB_len]; exact Nat.le_refl _)] using h
      have hconv := run_bytes_str (P := Try.prog) (c := k) hr 22 9 5 Try.underlying22 Try.underlying5 Try.underlying9
      have H2 := Hid.mk hbel
      clear hown hbel hr
      go_wp2_with fail
      go_ret
      exact ⟨rfl, H2.out⟩

end Go.Proofs.Ytomlmedfiajfkaa
namespace Go.Proofs.Ytomlmedfiajfkaa
open Go.RowKit

/-- Records one behind the other. -/
def recsB (gen : Nat) (l : List (List UInt8)) : List UInt8 := (l.map (recB gen)).flatten
theorem recsB_snoc (gen : Nat) (l : List (List UInt8)) (b : List UInt8) : recsB gen (l ++ [b]) = recsB gen l ++ recB gen b := by simp [recsB]
theorem recsB_len (gen : Nat) (l : List (List UInt8)) (h : ∀ b ∈ l, b.length ≤ 200) : (recsB gen l).length ≤ l.length * 213 := by
  induction l with
  | nil => simp [recsB]
  | cons b l ih =>
    have h1 := ih (fun x hx => h x (by simp [hx]))
    have h2 := h b (by simp)
    simp only [recsB, List.map_cons, List.flatten_cons, List.length_append, recB_len, List.length_cons] at h1 ⊢
    omega
/-- Where they end, 0 first. -/
def endsB (gen : Nat) (l : List (List UInt8)) : List Nat := (List.range (l.length + 1)).map fun i => (recsB gen (l.take i)).length
theorem endsB_snoc (gen : Nat) (l : List (List UInt8)) (b : List UInt8) : endsB gen (l ++ [b]) = endsB gen l ++ [(recsB gen (l ++ [b])).length] := by
  unfold endsB
  rw [List.length_append, List.length_singleton, List.range_succ, List.map_append]
  congr 1
  · apply List.map_congr_left
    intro i hi
    rw [List.take_append_of_le_length (by have := List.mem_range.1 hi; omega)]
  · rw [List.map_singleton, List.take_of_length_le (by simp)]
def iv (n : Nat) : Value := .int .i64 (n : Int)

theorem Try.infoInt : (Try.prog.info? 3).map (fun i => (i.zero, i.size, i.bytes)) = some (some (.int .i64 0), 1, 8) := by kernel_rfl

/-- What 'text' answers. -/
def TextIs (B gen : Nat) (l : List (List UInt8)) (e : Ending) (w' : World) : Prop :=
  ((∀ b ∈ l, b.length ≤ 200) → ∃ v, e = .returned (.tuple #[.string ⟨(recsB gen l).toArray⟩, v, .bool true]) ∧ w'.ownsRow B 3 1 v (l.length + 1) ((endsB gen l).map iv)) ∧
  (¬ (∀ b ∈ l, b.length ≤ 200) → e = .returned (.tuple #[.string ⟨#[]⟩, .slice none 0 0, .bool false]))

theorem results_three {fn : Func} {t u v : Tmp} (h : fn.results = #[.tmp t, .tmp u, .tmp v]) (tmps : Array Value) (P : Program) (w : World) :
    (results fn tmps).run P w = .ok (.tuple #[tmps.getD t undef, tmps.getD u undef, tmps.getD v undef]) w := by simp [results, h]

end Go.Proofs.Ytomlmedfiajfkaa
namespace Go.Proofs.Ytomlmedfiajfkaa
theorem recB_front (gen : Nat) (body rest : List UInt8) (hg : gen < 18446744073709551616) (hb : body.length < 16777216) :
    (recB gen body ++ rest)[0]? = some 165 ∧ unB (((recB gen body ++ rest).drop 1).take 8) = gen ∧ unB (((recB gen body ++ rest).drop 9).take 3) = body.length ∧ (recB gen body ++ rest).drop 12 = body ++ (90 :: rest) := by
  have e : recB gen body ++ rest = 165 :: (numB gen 8 ++ (numB body.length 3 ++ (body ++ (90 :: rest)))) := by simp [recB]
  rw [e]
  have l8 : (numB gen 8).length = 8 := numB_len _ _
  have l3 : (numB body.length 3).length = 3 := numB_len _ _
  refine ⟨rfl, ?_, ?_, ?_⟩
  · rw [List.drop_succ_cons, List.drop_zero, List.take_left' l8, unB_numB]
    exact Nat.mod_eq_of_lt (by omega)
  · rw [List.drop_succ_cons, List.drop_left' l8, List.take_left' l3, unB_numB]
    exact Nat.mod_eq_of_lt (by omega)
  · rw [List.drop_succ_cons]
    have : (11 : Nat) = 8 + 3 := rfl
    rw [this, ← List.drop_drop, List.drop_left' l8, List.drop_left' l3]

theorem oneR_rec (gen : Nat) (body rest : List UInt8) (hg : gen < 18446744073709551616) (hb : body.length ≤ 400000) : oneR gen (recB gen body ++ rest) = some body := by
  obtain ⟨h1, h2, h3, h4⟩ := recB_front gen body rest hg (by omega)
  have hl : (recB gen body ++ rest).length = body.length + 13 + rest.length := by rw [List.length_append, recB_len]
  unfold oneR
  rw [if_neg (by omega), if_neg (by rw [h1]; simp), if_neg (by rw [h2]; simp), h3, if_neg (by omega), if_neg (by omega), h4, if_neg, List.take_left' rfl]
  rw [List.getElem?_append_right (Nat.le_refl _)]
  simp

theorem oneR_other (gen gen' : Nat) (body rest : List UInt8) (hg : gen' < 18446744073709551616) (hne : gen' ≠ gen) (hb : body.length ≤ 400000) : oneR gen (recB gen' body ++ rest) = none := by
  obtain ⟨h1, h2, h3, h4⟩ := recB_front gen' body rest hg (by omega)
  unfold oneR
  split
  · rfl
  · rw [if_neg (by rw [h1]; simp), if_pos (by rw [h2]; exact hne)]

theorem scan_recs (gen : Nat) (l : List (List UInt8)) (rest : List UInt8) (hg : gen < 18446744073709551616) (hl : ∀ b ∈ l, b.length ≤ 400000) :
    scanR gen (recsB gen l ++ rest).length (recsB gen l ++ rest) = (l ++ (scanR gen rest.length rest).1, (recsB gen l).length + (scanR gen rest.length rest).2) := by
  induction l with
  | nil => simp [recsB]
  | cons b l ih =>
    have ih := ih (fun x hx => hl x (by simp [hx]))
    have e : recsB gen (b :: l) ++ rest = recB gen b ++ (recsB gen l ++ rest) := by simp [recsB]
    have h1 := oneR_rec gen b (recsB gen l ++ rest) hg (hl b (by simp))
    rw [e, scanR_some h1]
    have hd : (recB gen b ++ (recsB gen l ++ rest)).drop (b.length + 13) = recsB gen l ++ rest := List.drop_left' (recB_len _ _)
    rw [hd, ih]
    simp [recsB, recB_len]
    omega

theorem oneR_nil (gen : Nat) : oneR gen [] = none := by simp [oneR]
theorem scan_other (gen gen' : Nat) (l : List (List UInt8)) (hg : gen' < 18446744073709551616) (hne : gen' ≠ gen) (hl : ∀ b ∈ l, b.length ≤ 400000) :
    scanR gen (recsB gen' l).length (recsB gen' l) = ([], 0) := by
  apply scanR_none
  cases l with
  | nil => exact oneR_nil gen
  | cons b l =>
    have e : recsB gen' (b :: l) = recB gen' b ++ recsB gen' l := by simp [recsB]
    rw [e]
    exact oneR_other gen gen' b _ hg hne (hl b (by simp))

theorem scan_joins (gen gen' : Nat) (a b : List (List UInt8)) (hg : 1 ≤ gen ∧ gen ≤ 4611686018427387904) (hg' : gen' < 18446744073709551616) (hne : gen' ≠ gen) (ha : ∀ x ∈ a, x.length ≤ 400000) (hb : ∀ x ∈ b, x.length ≤ 400000) :
    scanA gen (recsB gen a ++ recsB gen' b) = (a, (recsB gen a).length) := by
  unfold scanA
  rw [if_neg (by omega), scan_recs gen a _ (by omega) ha, scan_other gen gen' b hg' hne hb]
  simp

end Go.Proofs.Ytomlmedfiajfkaa
namespace Go.Proofs.Ytomlmedfiajfkaa
open Go.RowKit

theorem Rds.drewN {w : World} {S : Nat → Prop} {sz n : Nat} {A : Option Addr} {xs : List Value} (h : Rds w S sz A n xs) (k : Nat) : Rds (w.drewN k) S sz A n xs := h
theorem RdB.drewN {w : World} {S : Nat → Prop} {n : Nat} {A : Option Addr} {bs : List UInt8} (h : RdB w S A n bs) (k : Nat) : RdB (w.drewN k) S A n bs := h
theorem RdL.drewN {w : World} {S : Nat → Prop} {vs : List Value} {bodies : List (List UInt8)} (h : RdL w S vs bodies) (k : Nat) : RdL (w.drewN k) S vs bodies := h
theorem Own.drewN {w : World} {base : Nat} {e : TypeId} {sz n : Nat} {v : Value} {xs : List Value} (h : w.ownsRow base e sz v n xs) (k : Nat) : (w.drewN k).ownsRow base e sz v n xs := h
theorem below_dN {B : Nat} {w w' : World} (h : Below B w w') (k : Nat) : Below B w (w'.drewN k) := ⟨h.os, h.tape, h.output, h.size, h.block⟩
theorem and_ffff (g : Nat) (hg : g < 18446744073709551616) : bits .and .u64 (g : Int) 65535 = ((g % 65536 : Nat) : Int) := by
  have h := u64_and_nat g 65535 hg (by omega)
  rw [show ((65535 : Nat) : Int) = 65535 from rfl] at h
  rw [h]
  congr 1
  exact Nat.and_two_pow_sub_one_eq_mod g 16

end Go.Proofs.Ytomlmedfiajfkaa
namespace Go.Proofs.Ytomlmedfiajfkaa
open Go.RowKit

section
variable {P : Program} {C : World → Prop} {a : Act} {o : Oper} {K : Act → Prop}
theorem wp_region_class {id : Nat} {Q : Exit → Act → World → Prop} {w : World} {l : List Oper} (C : World → Prop) (hm : P.follows .mixedOrders = true) (hB : Region.lexB .any l.toArray = true) (hC : C { w with drawn := w.drawn + 1 })
    (h : wpQuiet P l.toArray C (fun a' => ∀ w', C w' → Q .normal a' w') l a) : (Code.region id l.toArray true).wp P Q a w := wp_region_quiet hm hB hC (by simpa using h)
end

/-- A world in which all that was there in w is as it was. -/
structure After (w : World) where
  world : World
  below : Below w.heap.size w world
theorem After.some (w : World) : Nonempty (After w) := ⟨⟨w, Below.refl _ _⟩⟩
theorem After.chg {w : World} (x : After w) : Chg Nil w x.world := Chg.of_below x.below
theorem After.call {P : Program} {w : World} {f : FuncId} {args : Array Value} {r : Value} (h : ∀ W : World, Below w.heap.size w W → Calls P f args W (fun e w' => e = .returned r ∧ Below W.heap.size W w')) (x : After w) :
    Calls P f args x.world (fun e w' => e = .returned r ∧ ∃ y : After w, w' = y.world) :=
  (h x.world x.below).mono fun _ w' ⟨he, hb⟩ => ⟨he, ⟨w', x.below.trans (hb.mono x.below.size)⟩, rfl⟩
theorem wp_region_after {P : Program} {a : Act} {id : Nat} {Q : Exit → Act → World → Prop} {w : World} {l : List Oper} (hm : P.follows .mixedOrders = true) (hB : Region.lexB .any l.toArray = true)
    (h : wpQuiet P l.toArray (fun W => ∃ x : After w, W = x.world) (fun a' => ∀ w', (∃ x : After w, w' = x.world) → Q .normal a' w') l a) : (Code.region id l.toArray true).wp P Q a w :=
  wp_region_class (fun W => ∃ x : After w, W = x.world) hm hB ⟨⟨{ w with drawn := w.drawn + 1 }, ⟨rfl, rfl, rfl, Nat.le_refl _, fun _ _ => rfl⟩⟩, rfl⟩ h

end Go.Proofs.Ytomlmedfiajfkaa
namespace Go.Proofs.Ytomlmedfiajfkaa
open Go.RowKit
theorem xor_byte (x : UInt8) (y : Nat) (hy : y < 256) : Value.int .u8 (bits .xor .u8 (x.toNat : Int) (y : Int)) = bv (UInt8.ofNat (x.toNat ^^^ y)) := by
  have hx := x.toNat_lt
  have h := u8_xor_nat x.toNat y (by omega) hy
  have hl : x.toNat ^^^ y < 2 ^ 8 := Nat.xor_lt_two_pow (by omega) (by omega)
  rw [h, bv_ofNat, Nat.mod_eq_of_lt (by omega)]
/-- One of three. -/
def pickL {α : Type} (i : Nat) (a b c : α) : α := if i = 0 then a else if i = 1 then b else c
theorem pick3 {w : World} {i : Nat} (hi : i < 3) {A B D : Option Addr} {n m k c d e : Nat} {S T U : Nat → Prop} {l1 l2 l3 : List UInt8} (h1 : RdB w S A n l1) (hc1 : n ≤ c) (hm1 : c ≤ maxLen) (h2 : RdB w T B m l2) (hc2 : m ≤ d) (hm2 : d ≤ maxLen)
    (h3 : RdB w U D k l3) (hc3 : k ≤ e) (hm3 : e ≤ maxLen) :
    ∃ A' n' c', (∀ h, ([Value.slice A n c, Value.slice B m d, Value.slice D k e])[i]'h = Value.slice A' n' c') ∧ n' ≤ c' ∧ c' ≤ maxLen ∧ RdB w (fun _ => True) A' n' (pickL i l1 l2 l3) := by
  match i, hi with
  | 0, _ => exact ⟨A, n, c, fun _ => rfl, hc1, hm1, h1.wider (fun _ _ _ => trivial)⟩
  | 1, _ => exact ⟨B, m, d, fun _ => rfl, hc2, hm2, h2.wider (fun _ _ _ => trivial)⟩
  | 2, _ => exact ⟨D, k, e, fun _ => rfl, hc3, hm3, h3.wider (fun _ _ _ => trivial)⟩
theorem pickL_len {i n : Nat} {l1 l2 l3 : List UInt8} (h1 : l1.length ≤ n) (h2 : l2.length ≤ n) (h3 : l3.length ≤ n) : (pickL i l1 l2 l3).length ≤ n := by
  unfold pickL
  split
  · exact h1
  · split
    · exact h2
    · exact h3

end Go.Proofs.Ytomlmedfiajfkaa
namespace Go.Proofs.Ytomlmedfiajfkaa
open Go.RowKit
section
variable {P : Program} {ops : Array Oper} {W : World} {Q : Act → Prop}
theorem still_of_quiet {o : Oper} {a : Act} {K : Act → Prop} (h : o.quiet P a (fun w' => w' = W) K) : o.still P a W K := by
  obtain ⟨v, h1, h2⟩ := h
  have h3 := h1 W rfl
  unfold Oper.quietAt at h3
  unfold Oper.still
  generalize Sem.run P (execOp a.eval o) W = r at h3
  cases r with
  | ok x w' =>
    cases x with
    | value u => exact ⟨h3.1, by rw [h3.2]; exact h2⟩
    | skip => exact ⟨h3.1, by rw [← h3.2]; exact h2⟩
    | enter f args =>
      exact ⟨h3.1, v, h3.2.mono (fun _ _ h => h), h2⟩
    | _ => exact h3.elim
  | _ => exact h3.elim
theorem wpStill_of_quiet : ∀ (l : List Oper) (a : Act), wpQuiet P ops (fun w' => w' = W) Q l a → wpStill P ops W Q l a
  | [], _, h => h
  | o :: rest, a, h => by
    unfold wpQuiet at h
    unfold wpStill
    split
    · rename_i hw
      rw [if_pos hw] at h
      exact Oper.still_mono (fun a' h' => wpStill_of_quiet rest a' h') (still_of_quiet h)
    · rename_i hw
      rw [if_neg hw] at h
      exact wpStill_of_quiet rest _ h
end
theorem wp_region_tail {P : Program} {id : Nat} {Q : Exit → Act → World → Prop} {a : Act} {w : World} {l : List Oper} (n : Nat) (hm : P.follows .mixedOrders = true) (hB : Region.lexTailB .any l.toArray n = true)
    (h : ∀ W, W = w.drew → wpQuiet P l.toArray (fun w' => w' = W) (fun a' => wpList P l.toArray Q (l.drop n) a' W) (l.take n) a) : (Code.region id l.toArray true).wp P Q a w :=
  wp_region_still_tail n hm hB (wpStill_of_quiet _ _ (h _ rfl))

end Go.Proofs.Ytomlmedfiajfkaa
namespace Go.Proofs.Ytomlmedfiajfkaa
open Go.RowKit

/-- A point. -/
structure Pt where
  key : Int
  x : Int
  y : Int
  v : Int
/-- An op. -/
structure Oq where
  kind : Int
  pt : Pt
def Pt.cs (p : Pt) : List Value := [.int .i64 p.key, .int .i64 p.x, .int .i64 p.y, .int .i64 p.v]
def Oq.cs (o : Oq) : List Value := .int .i64 o.kind :: o.pt.cs
def keyOk (k : Int) : Bool := decide (k ≥ 1) && decide (k ≤ 2147483648)
def inOk (k : Int) : Bool := decide (k ≥ 0) && decide (k < 1073741824)
def Pt.ok (p : Pt) : Bool := keyOk p.key && inOk p.x && inOk p.y && decide (p.v ≥ -2147483648) && decide (p.v ≤ 2147483647)

theorem okKey_any (k : Int) (w : World) : Calls Try.prog 54 #[.int .i64 k] w fun e w' => e = .returned (.bool (keyOk k)) ∧ w' = w := by
  go_enter Try.func54, Try.ntmps54
  unfold keyOk
  by_cases h1 : k ≥ 1
  · have d1 : decide (k ≥ 1) = true := decide_eq_true h1
    generalize hd2 : decide (k ≤ 2147483648) = d2
    go_wp2
    go_ret
    simp_all
  · have d1 : decide (k ≥ 1) = false := decide_eq_false h1
    go_wp2
    go_ret
    simp_all

theorem okIn_any (k : Int) (w : World) : Calls Try.prog 53 #[.int .i64 k] w fun e w' => e = .returned (.bool (inOk k)) ∧ w' = w := by
  go_enter Try.func53, Try.ntmps53
  unfold inOk
  by_cases h1 : k ≥ 0
  · have d1 : decide (k ≥ 0) = true := decide_eq_true h1
    generalize hd2 : decide (k < 1073741824) = d2
    go_wp2
    go_ret
    simp_all
  · have d1 : decide (k ≥ 0) = false := decide_eq_false h1
    go_wp2
    go_ret
    simp_all

set_option maxHeartbeats 1000000 in
set_option maxRecDepth 100000 in
theorem okPoint_any (p : Pt) (w : World) : Calls Try.prog 51 #[.agg p.cs.toArray] w fun e w' => e = .returned (.bool p.ok) ∧ Chg Nil w w' := by
  obtain ⟨k, x, y, v⟩ := p
  simp only [Pt.cs, Pt.ok]
  go_enter Try.func51, Try.ntmps51
  generalize hk : keyOk k = bk
  generalize hx : inOk x = bx
  generalize hy : inOk y = by'
  generalize h1 : decide (v ≥ -2147483648) = b1
  generalize h2 : decide (v ≤ 2147483647) = b2
  have HK := Hid.mk (And.intro hk (And.intro hx hy))
  clear hk hx hy
  go_wp2_with fail
  refine (okKey_any k _).mono ?_
  rintro e w1 ⟨rfl, rfl⟩
  rw [HK.out.1]
  cases bk
  · go_wp2_with fail
    all_goals (go_ret; exact ⟨rfl, (Chg.refl _ _).alloc _⟩)
  · go_wp2_with fail
    refine (okIn_any x _).mono ?_
    rintro e w1 ⟨rfl, rfl⟩
    rw [HK.out.2.1]
    cases bx
    · go_wp2_with fail
      all_goals (go_ret; exact ⟨rfl, (Chg.refl _ _).alloc _⟩)
    · go_wp2_with fail
      refine (okIn_any y _).mono ?_
      rintro e w1 ⟨rfl, rfl⟩
      rw [HK.out.2.2]
      cases by'
      · go_wp2_with fail
        all_goals (go_ret; exact ⟨rfl, (Chg.refl _ _).alloc _⟩)
      · cases b1
        · go_wp2_with fail
          all_goals (go_ret; exact ⟨rfl, (Chg.refl _ _).alloc _⟩)
        · go_wp2_with fail
          all_goals (go_ret; exact ⟨by simp, (Chg.refl _ _).alloc _⟩)

def Pt.only (p : Pt) : Bool := decide (p.x = 0) && decide (p.y = 0) && decide (p.v = 0)
def Oq.ok (o : Oq) : Bool := if o.kind = 1 then o.pt.ok else if o.kind = 2 then keyOk o.pt.key && o.pt.only else false

end Go.Proofs.Ytomlmedfiajfkaa
namespace Go.Proofs.Ytomlmedfiajfkaa
open Go.RowKit

/-- What uint64 makes of an integer. -/
def un (n : Int) : Nat := (n % 18446744073709551616).toNat
theorem un_lt (n : Int) : un n < 18446744073709551616 := by unfold un; omega
theorem un_val (n : Int) : Value.int .u64 (IntKind.u64.wrap n) = .int .u64 (un n : Nat) := by
  rw [IntKind.wrap_u64]
  unfold un
  congr 1
  omega
def Pt.is (p : Pt) : List Int := [p.key, p.x, p.y, p.v]
def numsB (l : List Int) : List UInt8 := l.flatMap fun n => numB (un n) 4
def Pt.bytes (p : Pt) : List UInt8 := numsB p.is

set_option maxHeartbeats 1000000 in
set_option maxRecDepth 100000 in
theorem put_any (base : Nat) (v : Value) (n : Nat) (xs : List Value) (p : Pt) (w : World) (hn : n ≤ 900000)
    (hown : w.ownsRow base 5 1 v n xs) (hb : base ≤ w.heap.size) :
    Calls Try.prog 52 #[v, .agg p.cs.toArray] w fun e w' => ∃ v', e = .returned v' ∧ w'.ownsRow base 5 1 v' (n + 16) (xs ++ p.bytes.map bv) ∧ Grew w v w' v' := by
  have hlt := own_lt hown
  have hcs : p.cs = p.is.map fun n => Value.int .i64 n := rfl
  have hbt : p.bytes = numsB p.is := rfl
  rw [hcs, hbt]
  have hlen : p.is.length = 4 := rfl
  generalize hl : p.is = l at *
  have hsp : ∃ a b c d, l = [a, b, c, d] := ⟨p.key, p.x, p.y, p.v, hl.symm⟩
  obtain ⟨k, x, y, z, rfl⟩ := hsp
  clear hl hcs hbt
  have H0 := Hid.mk (And.intro hown (And.intro hb hlt))
  clear hown hb hlt
  simp only [List.map_cons, List.map_nil]
  go_enter Try.func52, Try.ntmps52
  go_wp2_with fail
  obtain ⟨w1, hw1⟩ : ∃ w1, w1 = (w.alloc (.cells #[.int .i64 k, .int .i64 x, .int .i64 y, .int .i64 z] 42)).alloc (.cells #[.int .i64 k, .int .i64 x, .int .i64 y, .int .i64 z] 2) := ⟨_, rfl⟩
  rw [← hw1]
  have F : Hid (w1.ownsRow base 5 1 v n xs ∧ w1.heap.size = w.heap.size + 2 ∧ Grew w v w1 v ∧ Bk w1 (w.heap.size + 1) 2 #[.int .i64 k, .int .i64 x, .int .i64 y, .int .i64 z]) := by
    subst hw1
    refine Hid.mk ⟨(H0.out.1.alloc _).alloc _, by simp, ⟨((Chg.refl _ _).alloc _).alloc _, fun _ _ h => h⟩, ?_⟩
    have := Bk.new (w.alloc (.cells #[.int .i64 k, .int .i64 x, .int .i64 y, .int .i64 z] 42)) 2 #[.int .i64 k, .int .i64 x, .int .i64 y, .int .i64 z]
    simpa using this
  clear hw1
  go_loopw [0, 17] (fun vv i wr => ∃ m : Nat, m ≤ 4 ∧ i = .int .i64 m ∧ Hid (wr.ownsRow base 5 1 vv (n + 4 * m) (xs ++ (numsB (([k, x, y, z] : List Int).take m)).map bv) ∧ Grew w1 v wr vv)) (fun _ i _ => 4 - (intOf i).toNat)
  case atStart => exact ⟨0, Nat.zero_le _, rfl, Hid.mk ⟨by simpa [numsB] using F.out.1, Grew.refl _ _⟩⟩
  case round =>
    obtain ⟨m, hm, rfl, HR⟩ := hrel
    have hB : Bk wr (w.heap.size + 1) 2 #[.int .i64 k, .int .i64 x, .int .i64 y, .int .i64 z] := F.out.2.2.2.keep HR.out.2.chg (fun h => by have := H0.out.2.2 _ h; omega)
    by_cases hm4 : m < 4
    · have hg : ∃ g, wr.cell? ⟨w.heap.size + 1, m, none⟩ = some (.int .i64 g) ∧ numsB (([k, x, y, z] : List Int).take (m + 1)) = numsB (([k, x, y, z] : List Int).take m) ++ numB (un g) 4 := by
        have hm' : m = 0 ∨ m = 1 ∨ m = 2 ∨ m = 3 := by omega
        rcases hm' with rfl | rfl | rfl | rfl
        · exact ⟨k, hB.cell 0 rfl, by simp [numsB]⟩
        · exact ⟨x, hB.cell 1 rfl, by simp [numsB]⟩
        · exact ⟨y, hB.cell 2 rfl, by simp [numsB]⟩
        · exact ⟨z, hB.cell 3 rfl, by simp [numsB]⟩
      obtain ⟨g, hc, hn1⟩ := hg
      have HN := Hid.mk (And.intro hn1 hB)
      clear hn1 hB
      go_wp2_with fail
      rw [un_val]
      refine (number_any base _ (n + 4 * m) _ (un g) 4 wr (by omega) (un_lt g) (by omega) HR.out.1 (by have := F.out.2.1; have := HR.out.2.chg.size; have := H0.out.2.1; omega)).mono ?_
      rintro e w2 ⟨v2, rfl, ho2, hg2⟩
      have G := Hid.mk (And.intro ho2 hg2)
      clear ho2 hg2
      go_wp2_with fail
      go_roundw
      case rel =>
        refine ⟨m + 1, by omega, by go_num, Hid.mk ⟨?_, HR.out.2.trans G.out.2⟩⟩
        have h := G.out.1
        rw [HN.out.1, List.map_append, ← List.append_assoc, show n + 4 * (m + 1) = n + 4 * m + 4 by omega]
        exact h
      case measure => simp [intOf]; omega
    · have : m = 4 := by omega
      subst this
      clear hB
      go_wp2_with fail
      all_goals (go_ret; exact ⟨_, rfl, by simpa using HR.out.1, F.out.2.2.1.trans HR.out.2⟩)

end Go.Proofs.Ytomlmedfiajfkaa
namespace Go.Proofs.Ytomlmedfiajfkaa
open Go.RowKit

/-- A slice reads ops. -/
def RdO (w : World) (S : Nat → Prop) (A : Option Addr) (n : Nat) (l : List Oq) : Prop := Rds w S 5 A n (l.flatMap Oq.cs)

theorem ops_get (l : List Oq) (m : Nat) (o : Oq) (h : l[m]? = some o) (j : Nat) (u : Value) (hj : o.cs[j]? = some u) : (l.flatMap Oq.cs)[m * 5 + j]? = some u := by
  induction l generalizing m with
  | nil => simp at h
  | cons a t ih =>
    cases m with
    | zero =>
      simp at h
      subst h
      have hlt : j < a.cs.length := by
        rcases Nat.lt_or_ge j a.cs.length with h | h
        · exact h
        · rw [List.getElem?_eq_none h] at hj; cases hj
      rw [List.flatMap_cons, Nat.zero_mul, Nat.zero_add, List.getElem?_append_left hlt]
      exact hj
    | succ m =>
      have ha : a.cs.length = 5 := rfl
      rw [List.flatMap_cons, List.getElem?_append_right (by rw [ha]; omega), ha, show (m + 1) * 5 + j - 5 = m * 5 + j by omega]
      exact ih m (by simpa using h)
theorem ops_len (l : List Oq) : (l.flatMap Oq.cs).length = l.length * 5 := by
  induction l with
  | nil => rfl
  | cons a t ih => rw [List.flatMap_cons, List.length_append, ih]; simp [Oq.cs, Pt.cs]; omega
theorem RdO.len {w : World} {S : Nat → Prop} {A : Option Addr} {n : Nat} {l : List Oq} (h : RdO w S A n l) : l.length = n := by
  have := h.1
  rw [ops_len] at this
  omega
theorem load_list (P : Program) (W : World) (a : Addr) (cs : List Value) (k : Nat) (hk : cs.length = k) (h : ∀ j v, cs[j]? = some v → W.cell? (a.add j) = some v) :
    Sem.run P (loadCellsFrom a 0 k #[]) W = .ok cs.toArray W := by
  have := run_loadCells_list (P := P) (w := W) a cs h
  rw [hk] at this
  simpa [loadCells] using this

end Go.Proofs.Ytomlmedfiajfkaa
namespace Go.Proofs.Ytomlmedfiajfkaa
open Go.RowKit

/-- An op's bytes. -/
def Oq.bytes (o : Oq) : List UInt8 := UInt8.ofNat (un o.kind) :: (if o.kind = 1 then o.pt.bytes else numB (un o.pt.key) 4)
def batB (l : List Oq) : List UInt8 := l.flatMap Oq.bytes
/-- What Batch says. -/
def batE (l : List Oq) : Nat := if 500 < l.length then 11 else if l.length = 0 ∨ (l.any fun o => !o.ok) = true then 1 else 0

end Go.Proofs.Ytomlmedfiajfkaa
namespace Go.Proofs.Ytomlmedfiajfkaa
open Go.RowKit

theorem kind_of_ok {o : Oq} (h : o.ok = true) : o.kind = 1 ∨ o.kind = 2 := by
  unfold Oq.ok at h
  split at h
  · exact .inl ‹_›
  · split at h
    · exact .inr ‹_›
    · cases h
theorem batB_len (l : List Oq) : (batB l).length ≤ 17 * l.length := by
  induction l with
  | nil => simp [batB]
  | cons a t ih =>
    have : a.bytes.length ≤ 17 := by
      unfold Oq.bytes
      split
      · simp [Pt.bytes, numsB, Pt.is, numB_len]
      · simp [numB_len]
    simp only [batB, List.flatMap_cons, List.length_append, List.length_cons] at *
    omega

end Go.Proofs.Ytomlmedfiajfkaa
namespace Go.Proofs.Ytomlmedfiajfkaa
open Go.RowKit

set_option maxHeartbeats 1000000 in
set_option maxRecDepth 100000 in
theorem world_any (x y : Int) (w : World) : Calls Try.prog 50 #[.int .i64 x, .int .i64 y] w fun e w' => e = .returned (.bool (inOk x && inOk y)) ∧ w' = w := by
  go_enter Try.func50, Try.ntmps50
  unfold inOk
  by_cases h1 : x ≥ 0
  · have d1 : decide (x ≥ 0) = true := decide_eq_true h1
    by_cases h2 : x < 1073741824
    · have d2 : decide (x < 1073741824) = true := decide_eq_true h2
      by_cases h3 : y ≥ 0
      · have d3 : decide (y ≥ 0) = true := decide_eq_true h3
        generalize hd4 : decide (y < 1073741824) = d4
        go_wp2
        go_ret
        simp_all
      · have d3 : decide (y ≥ 0) = false := decide_eq_false h3
        go_wp2
        go_ret
        simp_all
    · have d2 : decide (x < 1073741824) = false := decide_eq_false h2
      go_wp2
      go_ret
      simp_all
  · have d1 : decide (x ≥ 0) = false := decide_eq_false h1
    go_wp2
    go_ret
    simp_all

set_option maxHeartbeats 1000000 in
set_option maxRecDepth 100000 in
theorem rpointOk_any (p : Pt) (w : World) : Calls Try.prog 43 #[.agg p.cs.toArray] w fun e w' => e = .returned (.bool p.ok) ∧ Chg Nil w w' := by
  obtain ⟨k, x, y, v⟩ := p
  have hv : decide (v ≤ 2147483647) = decide (v < 2147483648) := by rw [decide_eq_decide]; omega
  simp only [Pt.cs, Pt.ok, hv]
  generalize hxy : (inOk x && inOk y) = bxy
  have hall : (keyOk k && inOk x && inOk y && decide (v ≥ -2147483648) && decide (v < 2147483648)) = (keyOk k && bxy && decide (v ≥ -2147483648) && decide (v < 2147483648)) := by rw [← hxy, Bool.and_assoc (keyOk k)]
  rw [hall]
  have HX := Hid.mk hxy
  clear hall hxy hv
  unfold keyOk
  go_enter Try.func43, Try.ntmps43
  by_cases h1 : k ≥ 1
  · have d1 : decide (k ≥ 1) = true := decide_eq_true h1
    by_cases h2 : k ≤ 2147483648
    · have d2 : decide (k ≤ 2147483648) = true := decide_eq_true h2
      rw [d1, d2]
      go_wp2_with fail
      refine (world_any x y _).mono ?_
      rintro e w1 ⟨rfl, rfl⟩
      rw [HX.out]
      cases bxy
      · go_wp2_with fail
        all_goals (go_ret; exact ⟨rfl, (Chg.refl _ _).alloc _⟩)
      · by_cases h3 : v ≥ -2147483648
        · have d3 : decide (v ≥ -2147483648) = true := decide_eq_true h3
          generalize hd4 : decide (v < 2147483648) = d4
          go_wp2_with fail
          all_goals (go_ret; exact ⟨by first | rfl | simp [*] | simp_all, (Chg.refl _ _).alloc _⟩)
        · have d3 : decide (v ≥ -2147483648) = false := decide_eq_false h3
          go_wp2_with fail
          all_goals (go_ret; exact ⟨by first | rfl | simp [*] | simp_all, (Chg.refl _ _).alloc _⟩)
    · have d2 : decide (k ≤ 2147483648) = false := decide_eq_false h2
      rw [d1, d2]
      go_wp2_with fail
      all_goals (go_ret; exact ⟨by first | rfl | simp [*] | simp_all, (Chg.refl _ _).alloc _⟩)
  · have d1 : decide (k ≥ 1) = false := decide_eq_false h1
    rw [d1]
    go_wp2_with fail
    all_goals (go_ret; exact ⟨by first | rfl | simp [*] | simp_all, (Chg.refl _ _).alloc _⟩)

set_option maxHeartbeats 1000000 in
set_option maxRecDepth 100000 in
theorem ropOk_any (o : Oq) (w : World) : Calls Try.prog 23 #[.agg o.cs.toArray] w fun e w' => e = .returned (.bool o.ok) ∧ Chg Nil w w' := by
  obtain ⟨kd, p⟩ := o
  by_cases h1 : kd = 1
  · subst h1
    have hok : Oq.ok ⟨1, p⟩ = p.ok := rfl
    rw [hok]
    have HP := Hid.mk (fun W => rpointOk_any p W)
    generalize hb : p.ok = b at *
    obtain ⟨k, x, y, v⟩ := p
    simp only [Oq.cs, Pt.cs]
    go_enter Try.func23, Try.ntmps23
    go_wp2_with fail
    refine (HP.out _).mono ?_
    rintro e w1 ⟨rfl, hc⟩
    have HC := Hid.mk hc
    clear hc
    go_wp2_with fail
    all_goals (go_ret; exact ⟨rfl, ((Chg.refl _ _).alloc _).trans HC.out fun _ _ h => h⟩)
  · have e1 : ((kd : Int) == 1) = false := by simpa using h1
    by_cases h2 : kd = 2
    · subst h2
      have hok : Oq.ok ⟨2, p⟩ = (keyOk p.key && p.only) := rfl
      rw [hok]
      obtain ⟨k, x, y, v⟩ := p
      simp only [Oq.cs, Pt.cs, Pt.only]
      unfold keyOk
      go_enter Try.func23, Try.ntmps23
      by_cases h3 : k ≥ 1
      · have d1 : decide (k ≥ 1) = true := decide_eq_true h3
        by_cases h4 : k ≤ 2147483648
        · have d2 : decide (k ≤ 2147483648) = true := decide_eq_true h4
          go_wp2_with fail
          all_goals (go_ret; exact ⟨by simp_all, (Chg.refl _ _).alloc _⟩)
        · have d2 : decide (k ≤ 2147483648) = false := decide_eq_false h4
          go_wp2_with fail
          all_goals (go_ret; exact ⟨by simp_all, (Chg.refl _ _).alloc _⟩)
      · have d1 : decide (k ≥ 1) = false := decide_eq_false h3
        go_wp2_with fail
        all_goals (go_ret; exact ⟨by simp_all, (Chg.refl _ _).alloc _⟩)
    · have hok : Oq.ok ⟨kd, p⟩ = false := by simp [Oq.ok, h1, h2]
      rw [hok]
      obtain ⟨k, x, y, v⟩ := p
      simp only [Oq.cs, Pt.cs]
      have e2 : ((kd : Int) == 2) = false := by simpa using h2
      go_enter Try.func23, Try.ntmps23
      go_wp2_with fail
      all_goals (go_ret; exact ⟨rfl, (Chg.refl _ _).alloc _⟩)
end Go.Proofs.Ytomlmedfiajfkaa
namespace Go.Proofs.Ytomlmedfiajfkaa
open Go.RowKit

theorem Try.infoOp5 : (Try.prog.info? 58).map (fun i => (i.zero, i.size, i.bytes)) = some (some (.agg #[.int .i64 0, .int .i64 0, .int .i64 0, .int .i64 0, .int .i64 0]), 5, 40) := by kernel_rfl
/-- The cells of one op of a slice. -/
theorem RdO.at5 {w : World} {S : Nat → Prop} {A : Option Addr} {n : Nat} {l : List Oq} (h : RdO w S A n l) (hn : 0 < n) :
    ∃ b off, A = some ⟨b, off, none⟩ ∧ S b ∧ ∀ W, Chg Nil w W → ∀ k kd ky x y v, l[k]? = some ⟨kd, ⟨ky, x, y, v⟩⟩ → W.cell? ⟨b, off + k * 5, none⟩ = some (.int .i64 kd) ∧ W.cell? ⟨b, off + k * 5 + 1, none⟩ = some (.int .i64 ky) ∧ W.cell? ⟨b, off + k * 5 + 2, none⟩ = some (.int .i64 x) ∧
      W.cell? ⟨b, off + k * 5 + 3, none⟩ = some (.int .i64 y) ∧ W.cell? ⟨b, off + k * 5 + 4, none⟩ = some (.int .i64 v) := by
  obtain ⟨b, off, hA, hs, _, hx⟩ := Rds.plain h hn (by omega)
  refine ⟨b, off, hA, hs, fun W hc k kd ky x y v hk => ?_⟩
  have g := fun j u hj => hx (k * 5 + j) u (ops_get l k _ hk j u hj)
  exact ⟨hc.cell (g 0 _ rfl) (fun h => h), hc.cell (g 1 _ rfl) (fun h => h), hc.cell (g 2 _ rfl) (fun h => h), hc.cell (g 3 _ rfl) (fun h => h), hc.cell (g 4 _ rfl) (fun h => h)⟩
theorem rdo_one (w : World) (o : Oq) : RdO (w.alloc (.cells o.cs.toArray 58)) (fun k => k = w.heap.size) (some ⟨w.heap.size, 0, none⟩) 1 [o] := by
  have hb := Bk.new w 58 o.cs.toArray
  refine ⟨by rw [ops_len]; rfl, fun _ => ⟨_, rfl, rfl, fun j u hu => ?_⟩⟩
  have hu' : o.cs.toArray[j]? = some u := by simpa using hu
  have := hb.cell j hu'
  unfold Addr.add
  split
  · next h0 => subst h0; exact this
  · simpa using this
theorem ops_one (l : List Oq) : ∀ u ∈ l.flatMap Oq.cs, u.oneCell' = true := by
  intro u hu
  obtain ⟨o, _, hu⟩ := List.mem_flatMap.1 hu
  simp [Oq.cs, Pt.cs] at hu
  rcases hu with rfl | rfl | rfl | rfl | rfl <;> rfl
theorem batE_any {l : List Oq} (h : ¬ 500 < l.length) {k : Nat} {o : Oq} (hk : l[k]? = some o) (ho : o.ok = false) : batE l = 1 := by
  unfold batE
  rw [if_neg h, if_pos]
  exact .inr (List.any_eq_true.2 ⟨o, List.mem_of_getElem? hk, by rw [ho]; rfl⟩)
theorem batE_all {l : List Oq} (h : ¬ 500 < l.length) (hall : ∀ (k : Nat) (o : Oq), l[k]? = some o → o.ok = true) : batE l = if l.length = 0 then 1 else 0 := by
  unfold batE
  rw [if_neg h]
  have : (l.any fun o => !o.ok) = false := by
    rw [List.any_eq_false]
    intro o ho
    obtain ⟨k, hk, he⟩ := List.mem_iff_getElem.1 ho
    rw [hall k o (by rw [List.getElem?_eq_getElem hk, he])]
    decide
  rw [this]
  simp

/-- The good ones. -/
def goodL (l : List Oq) : List Oq := l.filter Oq.ok
theorem goodL_take (l : List Oq) (k : Nat) (o : Oq) (h : l[k]? = some o) : goodL (l.take (k + 1)) = goodL (l.take k) ++ (if o.ok then [o] else []) := by
  rw [goodL, List.take_add_one, h, List.filter_append]
  congr 1
  cases ho : o.ok <;> simp [ho]
theorem goodL_len (l : List Oq) : (goodL l).length ≤ l.length := List.length_filter_le _ _

end Go.Proofs.Ytomlmedfiajfkaa
namespace Go.Proofs.Ytomlmedfiajfkaa
open Go.RowKit

theorem rnum_any (k : Int) (w : World) : Calls Try.prog 21 #[.int .u64 (IntKind.u64.wrap k), .int .i64 4] w fun e w' => e = .returned (.string ⟨(numB (un k) 4).toArray⟩) ∧ Below w.heap.size w w' := by
  rw [un_val]
  exact rnumber_any (un k) 4 w (by omega)
theorem pt_bytes (p : Pt) : p.bytes = numB (un p.key) 4 ++ numB (un p.x) 4 ++ numB (un p.y) 4 ++ numB (un p.v) 4 := by
  simp [Pt.bytes, numsB, Pt.is, List.append_assoc]
theorem str_add (a b : List UInt8) (h : a.length + b.length ≤ 1000000) (W : World) : (Op.stringOp .add ⟨a.toArray⟩ ⟨b.toArray⟩).run Try.prog W = .ok (.string ⟨(a ++ b).toArray⟩) W := by
  rw [run_string_add_sum W _ _ (by simp [ByteArray.size]; omega), ByteArray.mk_append_mk]

set_option maxHeartbeats 1000000 in
set_option maxRecDepth 100000 in
theorem rpoint_any (p : Pt) (w : World) : Calls Try.prog 42 #[.agg p.cs.toArray] w fun e w' => e = .returned (.string ⟨p.bytes.toArray⟩) ∧ Chg Nil w w' := by
  rw [pt_bytes]
  obtain ⟨k, x, y, v⟩ := p
  simp only [Pt.cs]
  have r1 := Hid.mk (fun wb : World => After.call (w := wb) fun W _ => rnum_any k W)
  have r2 := Hid.mk (fun wb : World => After.call (w := wb) fun W _ => rnum_any x W)
  have r3 := Hid.mk (fun wb : World => After.call (w := wb) fun W _ => rnum_any y W)
  have r4 := Hid.mk (fun wb : World => After.call (w := wb) fun W _ => rnum_any v W)
  have l1 : (numB (un k) 4).length = 4 := numB_len _ _
  have l2 : (numB (un x) 4).length = 4 := numB_len _ _
  have l3 : (numB (un y) 4).length = 4 := numB_len _ _
  have l4 : (numB (un v) 4).length = 4 := numB_len _ _
  generalize numB (un k) 4 = n1 at *
  generalize numB (un x) 4 = n2 at *
  generalize numB (un y) 4 = n3 at *
  generalize numB (un v) 4 = n4 at *
  have a1 := fun W => str_add n1 n2 (by omega) W
  have a2 := fun W => str_add (n1 ++ n2) n3 (by simp; omega) W
  have a3 := fun W => str_add (n1 ++ n2 ++ n3) n4 (by simp; omega) W
  clear l1 l2 l3 l4
  have l12 : (n1 ++ n2).toArray = n1.toArray ++ n2.toArray := by simp
  generalize h12 : n1 ++ n2 = n12 at *
  generalize h123 : n12 ++ n3 = n123 at *
  generalize h1234 : n123 ++ n4 = n1234 at *
  clear l12 h12 h123 h1234
  go_enter Try.func42, Try.ntmps42
  go_upto_region 1 with fail
  have hB := Bk.new w 42 #[.int .i64 k, .int .i64 x, .int .i64 y, .int .i64 v]
  generalize hwb : w.alloc (.cells #[.int .i64 k, .int .i64 x, .int .i64 y, .int .i64 v] 42) = wb at *
  have hA : Chg Nil w wb := by rw [← hwb]; exact (Chg.refl _ _).alloc _
  have c1 : ∀ z : After wb, z.world.cell? ⟨w.heap.size, 0, none⟩ = some (.int .i64 k) := fun z => z.chg.cell (hB.cell 0 rfl) (fun h => h)
  have c2 : ∀ z : After wb, z.world.cell? ⟨w.heap.size, 1, none⟩ = some (.int .i64 x) := fun z => z.chg.cell (hB.cell 1 rfl) (fun h => h)
  have c3 : ∀ z : After wb, z.world.cell? ⟨w.heap.size, 2, none⟩ = some (.int .i64 y) := fun z => z.chg.cell (hB.cell 2 rfl) (fun h => h)
  have c4 : ∀ z : After wb, z.world.cell? ⟨w.heap.size, 3, none⟩ = some (.int .i64 v) := fun z => z.chg.cell (hB.cell 3 rfl) (fun h => h)
  have H := Hid.mk (And.intro hA hwb)
  clear hB hA hwb
  have hne := After.some wb
  refine wp_region_after (by kernel_rfl) (by kernel_rfl) ?_
  repeat (go_big_quiet_step (first | (with_reducible exact r1.out _ _) | (with_reducible exact r2.out _ _) | (with_reducible exact r3.out _ _) | (with_reducible exact r4.out _ _)))
  refine wpQuiet_nil ?_
  rintro _ ⟨z, rfl⟩
  have H2 := Hid.mk (H.out.1.trans z.chg (fun _ _ h => h))
  go_wp2_with fail
  go_ret
  exact ⟨rfl, H2.out⟩
theorem batB_take (l : List Oq) (k : Nat) (o : Oq) (h : l[k]? = some o) : batB (l.take (k + 1)) = batB (l.take k) ++ o.bytes := by
  rw [List.take_add_one, h]
  simp [batB]

end Go.Proofs.Ytomlmedfiajfkaa
namespace Go.Proofs.Ytomlmedfiajfkaa
open Go.RowKit

theorem wrapI32 (n : Int) : IntKind.i32.wrap n = (n + 2147483648) % 4294967296 - 2147483648 := by
  simp [IntKind.wrap, IntKind.bits, IntKind.signed]
  split <;> omega
def unPt (b : List UInt8) : Pt := ⟨(unB (b.take 4) : Nat), (unB ((b.drop 4).take 4) : Nat), (unB ((b.drop 8).take 4) : Nat), IntKind.i32.wrap (unB ((b.drop 12).take 4) : Nat)⟩
def opLen (c : UInt8) : Nat := if c = 1 then 16 else 4
def opAt (c : UInt8) (t : List UInt8) : Oq := ⟨(c.toNat : Int), if c = 1 then unPt t else ⟨(unB (t.take 4) : Nat), 0, 0, 0⟩⟩
def decR : Nat → List UInt8 → Option (List Oq)
  | 0, b => if b = [] then some [] else none
  | k + 1, b => match b with
    | [] => some []
    | c :: t => if t.length < opLen c then none else (decR k (t.drop (opLen c))).map (opAt c t :: ·)
def dec (b : List UInt8) : Option (List Oq) := decR b.length b
theorem opLen_pos (c : UInt8) : 4 ≤ opLen c := by unfold opLen; split <;> omega
theorem decR_more : ∀ (k m : Nat) (b : List UInt8), b.length ≤ k → b.length ≤ m → decR k b = decR m b
  | 0, 0, _, _, _ => rfl
  | 0, m + 1, b, h, _ => by
    have : b = [] := List.eq_nil_of_length_eq_zero (by omega)
    subst this
    rfl
  | k + 1, 0, b, _, h => by
    have : b = [] := List.eq_nil_of_length_eq_zero (by omega)
    subst this
    rfl
  | k + 1, m + 1, [], _, _ => rfl
  | k + 1, m + 1, c :: t, h1, h2 => by
    unfold decR
    split
    · rfl
    · rename_i heq
      injection heq with h3 h4
      subst h3 h4
      simp only [List.length_cons] at h1 h2
      split
      · rfl
      · rw [decR_more k m _ (by rw [List.length_drop]; omega) (by rw [List.length_drop]; omega)]
theorem dec_nil : dec [] = some [] := rfl
theorem dec_short {c : UInt8} {t : List UInt8} (h : t.length < opLen c) : dec (c :: t) = none := by
  unfold dec
  rw [List.length_cons, decR]
  simp [h]
theorem dec_cons {c : UInt8} {t : List UInt8} (h : opLen c ≤ t.length) : dec (c :: t) = (dec (t.drop (opLen c))).map (opAt c t :: ·) := by
  unfold dec
  rw [List.length_cons, decR]
  rw [if_neg (by omega), decR_more t.length (t.drop (opLen c)).length _ (by rw [List.length_drop]; omega) (Nat.le_refl _)]

/-- What Ops answers. -/
def opsD (b : List UInt8) : Option (List Oq) := (dec b).bind fun l => if batE l = 0 then some l else none
/-- So far X, and R is to come. -/
def Dec (b R : List UInt8) (X : List Oq) : Prop := dec b = (dec R).map (X ++ ·)
theorem Dec.start (b : List UInt8) : Dec b b [] := by simp [Dec]
theorem Dec.step {b t : List UInt8} {c : UInt8} {X : List Oq} (h : Dec b (c :: t) X) (hl : opLen c ≤ t.length) : Dec b (t.drop (opLen c)) (X ++ [opAt c t]) := by
  unfold Dec at *
  rw [h, dec_cons hl]
  cases dec (t.drop (opLen c)) <;> simp
theorem Dec.short {b t : List UInt8} {c : UInt8} {X : List Oq} (h : Dec b (c :: t) X) (hl : t.length < opLen c) : opsD b = none := by
  unfold Dec at h
  rw [opsD, h, dec_short hl]
  rfl
theorem Dec.done {b : List UInt8} {X : List Oq} (h : Dec b [] X) : opsD b = if batE X = 0 then some X else none := by
  unfold Dec at h
  rw [opsD, h, dec_nil]
  simp
theorem batE_bad_mem {l : List Oq} {o : Oq} (ho : o ∈ l) (hb : o.ok = false) : batE l ≠ 0 := by
  unfold batE
  split
  · decide
  · rw [if_pos]
    · decide
    · exact .inr (List.any_eq_true.2 ⟨o, ho, by rw [hb]; rfl⟩)
theorem batE_long {l : List Oq} (h : 500 < l.length) : batE l ≠ 0 := by
  unfold batE
  rw [if_pos h]
  decide
theorem Dec.long {b R : List UInt8} {X : List Oq} (h : Dec b R X) (hl : 500 < X.length) : opsD b = none := by
  unfold Dec at h
  rw [opsD, h]
  cases dec R with
  | none => rfl
  | some l =>
    have : batE (X ++ l) ≠ 0 := batE_long (by simp; omega)
    simp [this]
theorem opAt_bad {c : UInt8} (t : List UInt8) (h1 : c ≠ 1) (h2 : c ≠ 2) : (opAt c t).ok = false := by
  have e1 : ¬ ((c.toNat : Int) = 1) := fun h => h1 (UInt8.toNat_inj.1 (by show c.toNat = 1; omega))
  have e2 : ¬ ((c.toNat : Int) = 2) := fun h => h2 (UInt8.toNat_inj.1 (by show c.toNat = 2; omega))
  simp [Oq.ok, opAt, e1, e2]
theorem Dec.kind {b t : List UInt8} {c : UInt8} {X : List Oq} (h : Dec b (c :: t) X) (h1 : c ≠ 1) (h2 : c ≠ 2) : opsD b = none := by
  rcases Nat.lt_or_ge t.length (opLen c) with hl | hl
  · exact h.short hl
  · have h3 := h.step hl
    unfold Dec at h3
    rw [opsD, h3]
    cases dec (t.drop (opLen c)) with
    | none => rfl
    | some l =>
      have : batE (X ++ [opAt c t] ++ l) ≠ 0 := batE_bad_mem (o := opAt c t) (by simp) (opAt_bad t h1 h2)
      simp only [Option.map_some, Option.bind_some, this, if_false]

theorem take_len_append {α : Type _} (a b : List α) (n : Nat) (h : a.length = n) : (a ++ b).take n = a := by subst h; simp
theorem drop_len_append {α : Type _} (a b : List α) (n : Nat) (h : a.length = n) : (a ++ b).drop n = b := by subst h; simp
theorem un_small (k : Int) (h0 : 0 ≤ k) (h1 : k < 4294967296) : ((unB (numB (un k) 4) : Nat) : Int) = k := by
  rw [unB_numB]
  unfold un
  omega
theorem un_neg (k : Int) (h0 : -2147483648 ≤ k) (h1 : k ≤ 2147483647) : IntKind.i32.wrap ((unB (numB (un k) 4) : Nat) : Int) = k := by
  rw [unB_numB, wrapI32]
  unfold un
  omega
theorem pt_parts (p : Pt) (t : List UInt8) : unPt (p.bytes ++ t) = ⟨(unB (numB (un p.key) 4) : Nat), (unB (numB (un p.x) 4) : Nat), (unB (numB (un p.y) 4) : Nat), IntKind.i32.wrap (unB (numB (un p.v) 4) : Nat)⟩ := by
  have hb : p.bytes = numB (un p.key) 4 ++ (numB (un p.x) 4 ++ (numB (un p.y) 4 ++ numB (un p.v) 4)) := by simp [Pt.bytes, numsB, Pt.is]
  have l1 : (numB (un p.key) 4).length = 4 := numB_len _ _
  have l2 : (numB (un p.x) 4).length = 4 := numB_len _ _
  have l3 : (numB (un p.y) 4).length = 4 := numB_len _ _
  have l4 : (numB (un p.v) 4).length = 4 := numB_len _ _
  rw [hb]
  generalize numB (un p.key) 4 = n1 at *
  generalize numB (un p.x) 4 = n2 at *
  generalize numB (un p.y) 4 = n3 at *
  generalize numB (un p.v) 4 = n4 at *
  unfold unPt
  have e1 : (n1 ++ (n2 ++ (n3 ++ n4)) ++ t) = n1 ++ (n2 ++ (n3 ++ (n4 ++ t))) := by simp
  have e2 : (n1 ++ (n2 ++ (n3 ++ (n4 ++ t)))).drop 4 = n2 ++ (n3 ++ (n4 ++ t)) := drop_len_append _ _ _ l1
  have e3 : (n1 ++ (n2 ++ (n3 ++ (n4 ++ t)))).drop 8 = n3 ++ (n4 ++ t) := by
    rw [show n1 ++ (n2 ++ (n3 ++ (n4 ++ t))) = (n1 ++ n2) ++ (n3 ++ (n4 ++ t)) by simp]
    exact drop_len_append _ _ _ (by simp [l1, l2])
  have e4 : (n1 ++ (n2 ++ (n3 ++ (n4 ++ t)))).drop 12 = n4 ++ t := by
    rw [show n1 ++ (n2 ++ (n3 ++ (n4 ++ t))) = (n1 ++ n2 ++ n3) ++ (n4 ++ t) by simp]
    exact drop_len_append _ _ _ (by simp [l1, l2, l3])
  rw [e1, e2, e3, e4, take_len_append _ _ _ l1, take_len_append _ _ _ l2, take_len_append _ _ _ l3, take_len_append _ _ _ l4]
theorem op_back (o : Oq) (t : List UInt8) (h : o.ok = true) : ∃ c r, o.bytes ++ t = c :: r ∧ opLen c ≤ r.length ∧ opAt c r = o ∧ r.drop (opLen c) = t := by
  obtain ⟨kd, p⟩ := o
  unfold Oq.ok at h
  split at h
  · rename_i hk
    simp only at hk h
    subst hk
    have hp : p.bytes.length = 16 := by simp [Pt.bytes, numsB, Pt.is, numB_len]
    have h16 : opLen 1 = 16 := rfl
    refine ⟨1, p.bytes ++ t, ?_, ?_, ?_, ?_⟩
    · have : UInt8.ofNat (un 1) = 1 := rfl
      simp [Oq.bytes, this]
    · rw [h16, List.length_append]; omega
    · simp only [Pt.ok, keyOk, inOk, Bool.and_eq_true, decide_eq_true_eq] at h
      obtain ⟨k, x, y, v⟩ := p
      simp only at h
      have hu := pt_parts ⟨k, x, y, v⟩ t
      simp only at hu
      rw [un_small k (by omega) (by omega), un_small x (by omega) (by omega), un_small y (by omega) (by omega), un_neg v (by omega) (by omega)] at hu
      unfold opAt
      rw [if_pos rfl, hu]
      rfl
    · rw [h16]; exact drop_len_append _ _ _ hp
  · split at h
    · rename_i hk
      simp only at hk h
      subst hk
      have hp : (numB (un p.key) 4).length = 4 := numB_len _ _
      have h4 : opLen 2 = 4 := rfl
      refine ⟨2, numB (un p.key) 4 ++ t, ?_, ?_, ?_, ?_⟩
      · have : UInt8.ofNat (un 2) = 2 := rfl
        simp [Oq.bytes, this]
      · rw [h4, List.length_append]; omega
      · simp only [Pt.only, keyOk, Bool.and_eq_true, decide_eq_true_eq] at h
        obtain ⟨k, x, y, v⟩ := p
        simp only at h hp
        obtain ⟨h1, ⟨h2, h3⟩, h4⟩ := h
        subst h2 h3 h4
        unfold opAt
        rw [if_neg (by decide), take_len_append _ _ _ hp, un_small k (by omega) (by omega)]
        rfl
      · rw [h4]; exact drop_len_append _ _ _ hp
    · cases h
theorem dec_back : ∀ (l : List Oq), (∀ o ∈ l, o.ok = true) → dec (batB l) = some l
  | [], _ => rfl
  | o :: l, h => by
    obtain ⟨c, r, h1, h2, h3, h4⟩ := op_back o (batB l) (h o (by simp))
    have : batB (o :: l) = c :: r := by rw [← h1]; rfl
    rw [this, dec_cons h2, h3, h4, dec_back l (fun o ho => h o (by simp [ho]))]
    rfl
theorem opsD_back (l : List Oq) (h : batE l = 0) : opsD (batB l) = some l := by
  have hall : ∀ o ∈ l, o.ok = true := fun o ho => by
    cases hb : o.ok with
    | true => rfl
    | false => exact absurd h (batE_bad_mem ho hb)
  rw [opsD, dec_back l hall, Option.bind_some, if_pos h]

end Go.Proofs.Ytomlmedfiajfkaa
namespace Go.Proofs.Ytomlmedfiajfkaa
open Go.RowKit

theorem unB4 (l : List UInt8) : unB (l.take 4) < 4294967296 :=
  Nat.lt_of_lt_of_le (unB_lt _) (Nat.le_trans (Nat.pow_le_pow_right (by omega) (by rw [List.length_take]; omega : (l.take 4).length ≤ 4)) (by decide))

theorem w3264 (n : Int) : wrap64 (wrap32 n) = IntKind.i32.wrap n := by
  have h : -2147483648 ≤ wrap32 n ∧ wrap32 n ≤ 2147483647 := by unfold wrap32; omega
  generalize hm : wrap32 n = m at *
  rw [wrapI32]
  unfold wrap32 at hm
  rw [hm]
  unfold wrap64
  omega

set_option maxHeartbeats 2000000 in
set_option maxRecDepth 100000 in
theorem takePt_ok (p : Nat) (A : Option Addr) (c n : Nat) (bs : List UInt8) (bad : Bool) (S : Nat → Prop) (w : World)
    (hp : Bk w p 73 #[.slice A n c, .bool bad]) (hr : RdB w S A n bs) (hS : ¬ S p) (hSw : ∀ k, S k → k < w.heap.size) (hle : 16 ≤ n) (hc : n ≤ c) (hcm : c ≤ maxLen) :
    Calls Try.prog 45 #[.pointer (some ⟨p, 0, none⟩)] w fun e w' => e = .returned (.agg (unPt bs).cs.toArray) ∧
      Chg (· = p) w w' ∧ ∃ A', Bk w' p 73 #[.slice A' (n - 16) (c - 16), .bool bad] ∧ RdB w' S A' (n - 16) (bs.drop 16) := by
  have hlt := hp.lt
  have hlen := hr.len
  have b1 := unB4 bs
  have b2 := unB4 (bs.drop 4)
  have b3 := unB4 (bs.drop 8)
  have b4 := unB4 (bs.drop 12)
  have hB := Bk.new w 42 #[.int .i64 0, .int .i64 0, .int .i64 0, .int .i64 0]
  have hA : Chg Nil w (w.alloc (.cells #[.int .i64 0, .int .i64 0, .int .i64 0, .int .i64 0] 42)) := (Chg.refl _ _).alloc _
  have HH := Hid.mk (And.intro (hp.alloc (.cells #[.int .i64 0, .int .i64 0, .int .i64 0, .int .i64 0] 42)) (And.intro (hr.keep hA (fun _ _ h => h)) (And.intro hS (And.intro hB hSw))))
  clear hp hr hS hB hA hSw
  simp only [unPt, Pt.cs]
  generalize g1 : unB (bs.take 4) = N1 at *
  generalize g2 : unB ((bs.drop 4).take 4) = N2 at *
  generalize g3 : unB ((bs.drop 8).take 4) = N3 at *
  generalize g4 : unB ((bs.drop 12).take 4) = N4 at *
  have hw4 := w3264 (N4 : Int)
  generalize IntKind.i32.wrap (N4 : Int) = V4 at *
  have G := Hid.mk (And.intro g1 (And.intro g2 (And.intro g3 g4)))
  clear g1 g2 g3 g4
  go_enter Try.func45, Try.ntmps45
  go_wp2_with fail
  refine (take_any p A c n bs bad S 4 _ HH.out.1 HH.out.2.1 HH.out.2.2.1 (by omega) (by omega) (by omega) hc hcm).mono ?_
  rintro e w1 ⟨rfl, hc1, A1, hp1, hr1⟩
  rw [G.out.1]
  have H1 := Hid.mk (And.intro hc1 (And.intro hp1 hr1))
  clear hc1 hp1 hr1
  go_wp2_with fail
  refine (take_any p A1 (c - 4) (n - 4) (bs.drop 4) bad S 4 _ H1.out.2.1 H1.out.2.2 HH.out.2.2.1 (by omega) (by omega) (by omega) (by omega) (by omega)).mono ?_
  rintro e w2 ⟨rfl, hc2, A2, hp2, hr2⟩
  rw [G.out.2.1]
  have H2 := Hid.mk (And.intro (H1.out.1.trans hc2 (fun _ _ h => h)) (And.intro hp2 hr2))
  clear hc2 hp2 hr2
  go_wp2_with fail
  refine (take_any p A2 (c - 4 - 4) (n - 4 - 4) ((bs.drop 4).drop 4) bad S 4 _ H2.out.2.1 H2.out.2.2 HH.out.2.2.1 (by omega) (by omega) (by omega) (by omega) (by omega)).mono ?_
  rintro e w3 ⟨rfl, hc3, A3, hp3, hr3⟩
  rw [show ((bs.drop 4).drop 4) = bs.drop 8 by rw [List.drop_drop], G.out.2.2.1]
  have H3 := Hid.mk (And.intro (H2.out.1.trans hc3 (fun _ _ h => h)) (And.intro hp3 hr3))
  clear hc3 hp3 hr3
  go_wp2_with fail
  refine (take_any p A3 (c - 4 - 4 - 4) (n - 4 - 4 - 4) (((bs.drop 4).drop 4).drop 4) bad S 4 _ H3.out.2.1 H3.out.2.2 HH.out.2.2.1 (by omega) (by omega) (by omega) (by omega) (by omega)).mono ?_
  rintro e w4 ⟨rfl, hc4, A4, hp4, hr4⟩
  rw [show (((bs.drop 4).drop 4).drop 4) = bs.drop 12 by rw [List.drop_drop, List.drop_drop], G.out.2.2.2]
  have hch := H3.out.1.trans hc4 (fun _ _ h => h)
  have hB : Bk w4 w.heap.size 42 #[.int .i64 0, .int .i64 0, .int .i64 0, .int .i64 0] := HH.out.2.2.2.1.keep hch (by omega)
  have f0 := hB.free 0
  have f1 := hB.free 1
  have f2 := hB.free 2
  have f3 := hB.free 3
  have c0 := hB.cell 0 rfl
  have c1 := hB.cell 1 rfl
  have c2 := hB.cell 2 rfl
  have c3 := hB.cell 3 rfl
  have H4 := Hid.mk (And.intro hch (And.intro hp4 (And.intro hr4 hB)))
  clear hch hp4 hr4 hc4 hB
  go_wp2_with fail
  have hE : Bk ((((w4.setCell ⟨w.heap.size, 0, none⟩ (.int .i64 N1)).setCell ⟨w.heap.size, 1, none⟩ (.int .i64 N2)).setCell ⟨w.heap.size, 2, none⟩ (.int .i64 N3)).setCell ⟨w.heap.size, 3, none⟩ (.int .i64 V4)) w.heap.size 42 #[.int .i64 N1, .int .i64 N2, .int .i64 N3, .int .i64 V4] := (((H4.out.2.2.2.set 0 _).set 1 _).set 2 _).set 3 _
  have hne : p ≠ w.heap.size := by omega
  have hch : Chg (· = p) w ((((w4.setCell ⟨w.heap.size, 0, none⟩ (.int .i64 N1)).setCell ⟨w.heap.size, 1, none⟩ (.int .i64 N2)).setCell ⟨w.heap.size, 2, none⟩ (.int .i64 N3)).setCell ⟨w.heap.size, 3, none⟩ (.int .i64 V4)) :=
    (((((Chg.refl _ _).alloc _).trans H4.out.1 (fun _ _ h => h)).setCell (fun h => absurd h (Nat.lt_irrefl _)) _).setCell (fun h => absurd h (Nat.lt_irrefl _)) _ |>.setCell (fun h => absurd h (Nat.lt_irrefl _)) _).setCell (fun h => absurd h (Nat.lt_irrefl _)) _
  have hP : Bk ((((w4.setCell ⟨w.heap.size, 0, none⟩ (.int .i64 N1)).setCell ⟨w.heap.size, 1, none⟩ (.int .i64 N2)).setCell ⟨w.heap.size, 2, none⟩ (.int .i64 N3)).setCell ⟨w.heap.size, 3, none⟩ (.int .i64 V4)) p 73 #[.slice A4 (n - 16) (c - 16), .bool bad] := by
    have h := (((H4.out.2.1.far (p := ⟨w.heap.size, 0, none⟩) hne (.int .i64 N1)).far (p := ⟨w.heap.size, 1, none⟩) hne (.int .i64 N2)).far (p := ⟨w.heap.size, 2, none⟩) hne (.int .i64 N3)).far (p := ⟨w.heap.size, 3, none⟩) hne (.int .i64 V4)
    rw [show n - 4 - 4 - 4 - 4 = n - 16 by omega, show c - 4 - 4 - 4 - 4 = c - 16 by omega] at h
    exact h
  have hR : RdB ((((w4.setCell ⟨w.heap.size, 0, none⟩ (.int .i64 N1)).setCell ⟨w.heap.size, 1, none⟩ (.int .i64 N2)).setCell ⟨w.heap.size, 2, none⟩ (.int .i64 N3)).setCell ⟨w.heap.size, 3, none⟩ (.int .i64 V4)) S A4 (n - 16) (bs.drop 16) := by
    have h := H4.out.2.2.1.keep (T := (· = w.heap.size)) (((((Chg.refl (· = w.heap.size) w4).setCell (p := ⟨w.heap.size, 0, none⟩) (fun _ => rfl) (.int .i64 N1)).setCell (p := ⟨w.heap.size, 1, none⟩) (fun _ => rfl) (.int .i64 N2)).setCell (p := ⟨w.heap.size, 2, none⟩) (fun _ => rfl) (.int .i64 N3)).setCell (p := ⟨w.heap.size, 3, none⟩) (fun _ => rfl) (.int .i64 V4)) (fun k hs hk => by
      have := HH.out.2.2.2.2 k hs
      omega)
    rw [show n - 4 - 4 - 4 - 4 = n - 16 by omega, List.drop_drop, List.drop_drop, List.drop_drop] at h
    exact h
  exact bodyPost_ret (results_cell_row rfl _ _ w.heap.size 42 _ (0, 0) _ rfl hE Try.underlying42 rfl (by kernel_rfl)) rfl ⟨rfl, hch, A4, hP, hR⟩
/-- Four bytes off the front, if they are there or not. -/
theorem take_either (p : Nat) (A : Option Addr) (c n : Nat) (bs : List UInt8) (bad : Bool) (S : Nat → Prop) (w : World)
    (hp : Bk w p 73 #[.slice A n c, .bool bad]) (hr : RdB w S A n bs) (hS : ¬ S p) (hc : n ≤ c) (hcm : c ≤ maxLen) :
    Calls Try.prog 31 #[.pointer (some ⟨p, 0, none⟩), .int .i64 4] w fun e w' => ∃ (N : Nat) (A' : Option Addr) (c' n' : Nat) (bs' : List UInt8) (bad' : Bool), e = .returned (.int .u64 N) ∧ N < 4294967296 ∧
      Chg (· = p) w w' ∧ Bk w' p 73 #[.slice A' n' c', .bool bad'] ∧ RdB w' S A' n' bs' ∧ n' ≤ n - 4 ∧ n' ≤ c' ∧ c' ≤ maxLen := by
  by_cases h4 : n < 4
  · refine (take_short p A c n bad 4 w hp h4).mono ?_
    rintro e w1 ⟨rfl, hc1, hp1⟩
    exact ⟨0, none, 0, 0, [], true, rfl, by omega, hc1, hp1, RdB.nil, by omega, Nat.le_refl _, by simp [maxLen]⟩
  · refine (take_any p A c n bs bad S 4 w hp hr hS (by omega) (by omega) (by omega) hc hcm).mono ?_
    rintro e w1 ⟨rfl, hc1, A1, hp1, hr1⟩
    exact ⟨_, A1, c - 4, n - 4, _, bad, rfl, unB4 bs, hc1, hp1, hr1, Nat.le_refl _, by omega, by omega⟩

set_option maxHeartbeats 2000000 in
set_option maxRecDepth 100000 in
theorem takePt_short (p : Nat) (A : Option Addr) (c n : Nat) (bs : List UInt8) (bad : Bool) (S : Nat → Prop) (w : World)
    (hp : Bk w p 73 #[.slice A n c, .bool bad]) (hr : RdB w S A n bs) (hS : ¬ S p) (hle : n < 16) (hc : n ≤ c) (hcm : c ≤ maxLen) :
    Calls Try.prog 45 #[.pointer (some ⟨p, 0, none⟩)] w fun e w' => (∃ q : Pt, e = .returned (.agg q.cs.toArray)) ∧
      Chg (· = p) w w' ∧ Bk w' p 73 #[.slice none 0 0, .bool true] := by
  have hlt := hp.lt
  have hB := Bk.new w 42 #[.int .i64 0, .int .i64 0, .int .i64 0, .int .i64 0]
  have hA : Chg Nil w (w.alloc (.cells #[.int .i64 0, .int .i64 0, .int .i64 0, .int .i64 0] 42)) := (Chg.refl _ _).alloc _
  have HH := Hid.mk (And.intro (hp.alloc (.cells #[.int .i64 0, .int .i64 0, .int .i64 0, .int .i64 0] 42)) (And.intro (hr.keep hA (fun _ _ h => h)) (And.intro hS hB)))
  clear hp hr hS hB hA
  go_enter Try.func45, Try.ntmps45
  go_wp2_with fail
  refine (take_either p A c n bs bad S _ HH.out.1 HH.out.2.1 HH.out.2.2.1 hc hcm).mono ?_
  rintro e w1 ⟨N1, A1, m1, n1, s1, d1, rfl, q1, hc1, hp1, hr1, hn1, hk1, hm1⟩
  have H1 := Hid.mk (And.intro hc1 (And.intro hp1 hr1))
  clear hc1 hp1 hr1
  go_wp2_with fail
  refine (take_either p A1 m1 n1 s1 d1 S _ H1.out.2.1 H1.out.2.2 HH.out.2.2.1 hk1 hm1).mono ?_
  rintro e w2 ⟨N2, A2, m2, n2, s2, d2, rfl, q2, hc2, hp2, hr2, hn2, hk2, hm2⟩
  have H2 := Hid.mk (And.intro (H1.out.1.trans hc2 (fun _ _ h => h)) (And.intro hp2 hr2))
  clear hc2 hp2 hr2
  go_wp2_with fail
  refine (take_either p A2 m2 n2 s2 d2 S _ H2.out.2.1 H2.out.2.2 HH.out.2.2.1 hk2 hm2).mono ?_
  rintro e w3 ⟨N3, A3, m3, n3, s3, d3, rfl, q3, hc3, hp3, hr3, hn3, hk3, hm3⟩
  have H3 := Hid.mk (And.intro (H2.out.1.trans hc3 (fun _ _ h => h)) (And.intro hp3 hr3))
  clear hc3 hp3 hr3
  go_wp2_with fail
  refine (take_short p A3 m3 n3 d3 4 _ H3.out.2.1 (by omega)).mono ?_
  rintro e w4 ⟨rfl, hc4, hp4⟩
  have hch := H3.out.1.trans hc4 (fun _ _ h => h)
  have hB : Bk w4 w.heap.size 42 #[.int .i64 0, .int .i64 0, .int .i64 0, .int .i64 0] := HH.out.2.2.2.keep hch (by omega)
  have f0 := hB.free 0
  have f1 := hB.free 1
  have f2 := hB.free 2
  have f3 := hB.free 3
  have c0 := hB.cell 0 rfl
  have c1 := hB.cell 1 rfl
  have c2 := hB.cell 2 rfl
  have c3 := hB.cell 3 rfl
  have H4 := Hid.mk (And.intro hch (And.intro hp4 hB))
  clear hch hp4 hc4 hB
  go_wp2_with fail
  have hE : Bk ((((w4.setCell ⟨w.heap.size, 0, none⟩ (.int .i64 N1)).setCell ⟨w.heap.size, 1, none⟩ (.int .i64 N2)).setCell ⟨w.heap.size, 2, none⟩ (.int .i64 N3)).setCell ⟨w.heap.size, 3, none⟩ (.int .i64 0)) w.heap.size 42 #[.int .i64 N1, .int .i64 N2, .int .i64 N3, .int .i64 0] := (((H4.out.2.2.set 0 _).set 1 _).set 2 _).set 3 _
  have hne : p ≠ w.heap.size := by omega
  have hch : Chg (· = p) w ((((w4.setCell ⟨w.heap.size, 0, none⟩ (.int .i64 N1)).setCell ⟨w.heap.size, 1, none⟩ (.int .i64 N2)).setCell ⟨w.heap.size, 2, none⟩ (.int .i64 N3)).setCell ⟨w.heap.size, 3, none⟩ (.int .i64 0)) :=
    (((((Chg.refl _ _).alloc _).trans H4.out.1 (fun _ _ h => h)).setCell (fun h => absurd h (Nat.lt_irrefl _)) _).setCell (fun h => absurd h (Nat.lt_irrefl _)) _ |>.setCell (fun h => absurd h (Nat.lt_irrefl _)) _).setCell (fun h => absurd h (Nat.lt_irrefl _)) _
  have hP : Bk ((((w4.setCell ⟨w.heap.size, 0, none⟩ (.int .i64 N1)).setCell ⟨w.heap.size, 1, none⟩ (.int .i64 N2)).setCell ⟨w.heap.size, 2, none⟩ (.int .i64 N3)).setCell ⟨w.heap.size, 3, none⟩ (.int .i64 0)) p 73 #[.slice none 0 0, .bool true] :=
    (((H4.out.2.1.far (p := ⟨w.heap.size, 0, none⟩) hne (.int .i64 N1)).far (p := ⟨w.heap.size, 1, none⟩) hne (.int .i64 N2)).far (p := ⟨w.heap.size, 2, none⟩) hne (.int .i64 N3)).far (p := ⟨w.heap.size, 3, none⟩) hne (.int .i64 0)
  exact bodyPost_ret (results_cell_row rfl _ _ w.heap.size 42 _ (0, 0) _ rfl hE Try.underlying42 rfl (by kernel_rfl)) rfl ⟨⟨⟨N1, N2, N3, 0⟩, rfl⟩, hch, hP⟩

end Go.Proofs.Ytomlmedfiajfkaa
namespace Go.Proofs.Ytomlmedfiajfkaa
open Go.RowKit

theorem str_at {l : List UInt8} {j : Nat} (h : j < l.length) : (ByteArray.mk l.toArray)[j]'(by simpa [ByteArray.size] using h) = l[j] := by
  simp [ByteArray.getElem_eq_getElem_data]

set_option maxHeartbeats 400000 in
set_option maxRecDepth 100000 in
theorem unnumber_any (l : List UInt8) (w : World) (hl : l.length ≤ 8) :
    Calls Try.prog 34 #[.string ⟨l.toArray⟩] w fun e w' => e = .returned (.int .u64 (unB l : Nat)) ∧ w = w' := by
  have hsz : (ByteArray.mk l.toArray).size = l.length := by simp [ByteArray.size]
  go_enter Try.func34, Try.ntmps34
  go_wp2_with fail
  go_loop [3, 4] (fun n i => ∃ k : Nat, k ≤ l.length ∧ i = .int .i64 k ∧ n = .int .u64 (unB (l.take k) : Nat)) (fun _ i => l.length - (intOf i).toNat)
  case atStart => exact ⟨0, Nat.zero_le _, rfl, rfl⟩
  case round =>
    obtain ⟨k, hk, rfl, rfl⟩ := hrel
    by_cases hlt : k < l.length
    · have hs := unB_take l k hlt
      have hN := unB_take_lt l k (by omega)
      have h256 := l[k].toNat_lt
      have hv := shl_or_val _ _ hN h256
      have hat := str_at hlt
      generalize hb : l[k] = b at *
      generalize unB (l.take k) = N at *
      have HV := Hid.mk (And.intro hv (And.intro hs hN))
      clear hv hs hN
      go_wp2_with fail
      go_round
      case rel => exact ⟨k + 1, by omega, by go_num, by rw [HV.out.1, HV.out.2.1]⟩
      case measure => simp [intOf]; omega
    · have : k = l.length := by omega
      subst this
      go_wp2_with fail
      go_ret
      exact ⟨by simp, rfl⟩

/-- The error of Put. -/
def recMayR (gen n : Nat) : Nat := if 400000 < n then 11 else if gen < 1 ∨ 4611686018427387904 < gen then 1 else 0

theorem Try.infoStr : (Try.prog.info? 9).map (fun i => (i.zero, i.size, i.bytes)) = some (some (.string ⟨#[]⟩), 1, 16) := by kernel_rfl

theorem run_str_part {P : Program} (t : TypeId) (ht : P.underlying t = some .string) (l : List UInt8) (a b : Nat) (kd kd' : IntKind) (hab : a ≤ b) (hb : b ≤ l.length) (w : World) :
    (Instr.slice t (.string ⟨l.toArray⟩) (some (.int kd (a : Int))) (some (.int kd' (b : Int))) none).run P w = .ok (.string ⟨((l.drop a).take (b - a)).toArray⟩) w := by
  have hs : (ByteArray.mk l.toArray).size = l.length := by simp [ByteArray.size]
  simp [Instr.slice, Instr.sliceBounds, run_underlying ht, hs, run_bound_in w kd a b _ hab, run_bound_in w kd' b l.length _ hb]
  apply ByteArray.ext
  simp [ByteArray.data_extract, List.take_drop]

theorem scanA_stop {gen : Nat} {x : List UInt8} (h : oneR gen x = none) : scanA gen x = ([], 0) := by
  unfold scanA
  split
  · rfl
  · exact scanR_none h
theorem scanA_bad {gen : Nat} {x : List UInt8} (h : gen < 1 ∨ 4611686018427387904 < gen) : scanA gen x = ([], 0) := by
  unfold scanA
  rw [if_pos h]
theorem scanA_go {gen : Nat} {x body : List UInt8} (hg : ¬ (gen < 1 ∨ 4611686018427387904 < gen)) (h : oneR gen x = some body) :
    scanA gen x = (body :: (scanA gen (x.drop (body.length + 13))).1, body.length + 13 + (scanA gen (x.drop (body.length + 13))).2) := by
  unfold scanA
  rw [if_neg hg, if_neg hg, scanR_some h]
theorem oneR_short {gen : Nat} {x : List UInt8} (h : x.length ≤ 12) : oneR gen x = none := by
  unfold oneR
  rw [if_pos h]
theorem oneR_long {gen : Nat} {x : List UInt8} (h : 12 < x.length) : oneR gen x = if x[0]? ≠ some 165 then none else if unB ((x.drop 1).take 8) ≠ gen then none else if 400000 < unB ((x.drop 9).take 3) then none
    else if x.length - 12 ≤ unB ((x.drop 9).take 3) then none else if (x.drop 12)[unB ((x.drop 9).take 3)]? ≠ some 90 then none else some ((x.drop 12).take (unB ((x.drop 9).take 3))) := by
  unfold oneR
  rw [if_neg (by omega)]

/-- What the document's Scan answers. -/
def RScanIs (B : Nat) (r : List (List UInt8) × Nat) (e : Ending) (w' : World) : Prop :=
  ∃ v, e = .returned (.tuple #[v, .int .i64 r.2]) ∧ w'.ownsRow B 9 1 v r.1.length (r.1.map sv)

end Go.Proofs.Ytomlmedfiajfkaa
namespace Go.Proofs.Ytomlmedfiajfkaa
open Go.RowKit

theorem run_str_front {P : Program} (t : TypeId) (ht : P.underlying t = some .string) (l : List UInt8) (b : Nat) (kd' : IntKind) (hb : b ≤ l.length) (w : World) :
    (Instr.slice t (.string ⟨l.toArray⟩) none (some (.int kd' (b : Int))) none).run P w = .ok (.string ⟨(l.take b).toArray⟩) w := by
  have hs : (ByteArray.mk l.toArray).size = l.length := by simp [ByteArray.size]
  simp [Instr.slice, Instr.sliceBounds, run_underlying ht, hs, run_bound_in w kd' b l.length _ hb]
  apply ByteArray.ext
  simp [ByteArray.data_extract]
theorem unn_any (l : List UInt8) (hl : l.length ≤ 8) (w : World) : Calls Try.prog 34 #[.string ⟨l.toArray⟩] w fun e w' => e = .returned (.int .u64 (unB l : Nat)) ∧ w' = w :=
  (unnumber_any l w hl).mono fun _ _ ⟨h1, h2⟩ => ⟨h1, h2.symm⟩

set_option maxHeartbeats 2000000 in
set_option maxRecDepth 100000 in
theorem unpoint_any (bs : List UInt8) (w : World) (hl : bs.length = 16) :
    Calls Try.prog 49 #[.string ⟨bs.toArray⟩] w fun e w' => e = .returned (.agg (unPt bs).cs.toArray) ∧ Chg Nil w w' := by
  have b1 := unB4 bs
  have b2 := unB4 (bs.drop 4)
  have b3 := unB4 (bs.drop 8)
  have b4 := unB4 (bs.drop 12)
  have s1 : ∀ W, (Instr.slice 9 (.string ⟨bs.toArray⟩) none (some (.int .i64 4)) none).run Try.prog W = .ok (.string ⟨(bs.take 4).toArray⟩) W := fun W => run_str_front (P := Try.prog) 9 Try.underlying9 bs 4 .i64 (by omega) W
  have s2 : ∀ W, (Instr.slice 9 (.string ⟨bs.toArray⟩) (some (.int .i64 4)) (some (.int .i64 8)) none).run Try.prog W = .ok (.string ⟨((bs.drop 4).take 4).toArray⟩) W := fun W => run_str_part (P := Try.prog) 9 Try.underlying9 bs 4 8 .i64 .i64 (by omega) (by omega) W
  have s3 : ∀ W, (Instr.slice 9 (.string ⟨bs.toArray⟩) (some (.int .i64 8)) (some (.int .i64 12)) none).run Try.prog W = .ok (.string ⟨((bs.drop 8).take 4).toArray⟩) W := fun W => run_str_part (P := Try.prog) 9 Try.underlying9 bs 8 12 .i64 .i64 (by omega) (by omega) W
  have s4 : ∀ W, (Instr.slice 9 (.string ⟨bs.toArray⟩) (some (.int .i64 12)) (some (.int .i64 16)) none).run Try.prog W = .ok (.string ⟨((bs.drop 12).take 4).toArray⟩) W := fun W => run_str_part (P := Try.prog) 9 Try.underlying9 bs 12 16 .i64 .i64 (by omega) (by omega) W
  have r1 := Hid.mk (unn_any (bs.take 4) (by rw [List.length_take]; omega))
  have r2 := Hid.mk (unn_any ((bs.drop 4).take 4) (by rw [List.length_take]; omega))
  have r3 := Hid.mk (unn_any ((bs.drop 8).take 4) (by rw [List.length_take]; omega))
  have r4 := Hid.mk (unn_any ((bs.drop 12).take 4) (by rw [List.length_take]; omega))
  simp only [unPt, Pt.cs]
  generalize unB (bs.take 4) = N1 at *
  generalize unB ((bs.drop 4).take 4) = N2 at *
  generalize unB ((bs.drop 8).take 4) = N3 at *
  generalize unB ((bs.drop 12).take 4) = N4 at *
  have hw4 := w3264 (N4 : Int)
  generalize IntKind.i32.wrap (N4 : Int) = V4 at *
  generalize bs.take 4 = p1 at *
  generalize (bs.drop 4).take 4 = p2 at *
  generalize (bs.drop 8).take 4 = p3 at *
  generalize (bs.drop 12).take 4 = p4 at *
  clear hl
  go_enter Try.func49, Try.ntmps49
  go_upto_region 1 with fail
  have hB := Bk.new w 42 #[.int .i64 0, .int .i64 0, .int .i64 0, .int .i64 0]
  generalize hwb : w.alloc (.cells #[.int .i64 0, .int .i64 0, .int .i64 0, .int .i64 0] 42) = wb at *
  have hA : Chg Nil w wb := by rw [← hwb]; exact (Chg.refl _ _).alloc _
  have H := Hid.mk (And.intro hA hB)
  clear hB hA hwb
  refine wp_region_tail 19 (by kernel_rfl) (by kernel_rfl) ?_
  intro W hW
  have hc : Chg Nil w W := by rw [hW]; exact H.out.1.drew
  have hB : Bk W w.heap.size 42 #[.int .i64 0, .int .i64 0, .int .i64 0, .int .i64 0] := by rw [hW]; exact H.out.2
  have f0 := hB.free 0
  have f1 := hB.free 1
  have f2 := hB.free 2
  have f3 := hB.free 3
  have c0 := hB.cell 0 rfl
  have c1 := hB.cell 1 rfl
  have c2 := hB.cell 2 rfl
  have c3 := hB.cell 3 rfl
  have HW := Hid.mk (And.intro hc hB)
  clear hW hc hB
  simp only [List.take_succ_cons, List.take_zero, List.drop_succ_cons, List.drop_zero]
  repeat (first | go_big_quiet_skip | (go_big_quiet_want; go_big_quiet_op; go_big_quiet_on) | (go_big_quiet_want; go_big_quiet_op; apply Exists.intro; refine ⟨by first | (with_reducible exact r1.out _) | (with_reducible exact r2.out _) | (with_reducible exact r3.out _) | (with_reducible exact r4.out _), ?_⟩; go_big_quiet_on))
  refine wpQuiet_nil ?_
  go_wp2_with fail
  have hE : Bk ((((W.setCell ⟨w.heap.size, 0, none⟩ (.int .i64 N1)).setCell ⟨w.heap.size, 1, none⟩ (.int .i64 N2)).setCell ⟨w.heap.size, 2, none⟩ (.int .i64 N3)).setCell ⟨w.heap.size, 3, none⟩ (.int .i64 V4)) w.heap.size 42 #[.int .i64 N1, .int .i64 N2, .int .i64 N3, .int .i64 V4] := (((HW.out.2.set 0 _).set 1 _).set 2 _).set 3 _
  have hch : Chg Nil w ((((W.setCell ⟨w.heap.size, 0, none⟩ (.int .i64 N1)).setCell ⟨w.heap.size, 1, none⟩ (.int .i64 N2)).setCell ⟨w.heap.size, 2, none⟩ (.int .i64 N3)).setCell ⟨w.heap.size, 3, none⟩ (.int .i64 V4)) :=
    (((HW.out.1.setCell (fun h => absurd h (Nat.lt_irrefl _)) _).setCell (fun h => absurd h (Nat.lt_irrefl _)) _).setCell (fun h => absurd h (Nat.lt_irrefl _)) _).setCell (fun h => absurd h (Nat.lt_irrefl _)) _
  exact bodyPost_ret (results_cell_row rfl _ _ w.heap.size 42 _ (0, 0) _ rfl hE Try.underlying42 rfl (by kernel_rfl)) rfl ⟨rfl, hch⟩

end Go.Proofs.Ytomlmedfiajfkaa
namespace Go.Proofs.Ytomlmedfiajfkaa
open Go.RowKit

/-- What Ops answers: ops in new memory, or nothing. -/
def OpsIs (B : Nat) (r : Option (List Oq)) (e : Ending) (w' : World) : Prop :=
  match r with
  | some l => ∃ v, e = .returned (.tuple #[v, .int .i64 0]) ∧ w'.ownsRow B 58 5 v l.length (l.flatMap Oq.cs)
  | none => e = .returned (.tuple #[.slice none 0 0, .int .i64 10])

theorem ops_row {S : Nat → Prop} {w wr W w2 : World} {u v2 : Value} {X : List Oq} {o : Oq} {ob : Obj} {T : TypeId} (hown : wr.ownsRow w.heap.size T 5 u X.length (X.flatMap Oq.cs)) (hc : Chg S w wr) (hW : Chg S wr W)
    (o2 : w2.ownsRow w.heap.size T 5 v2 (X.length + 1) (X.flatMap Oq.cs ++ o.cs)) (g2 : Grew (W.alloc ob) u w2 v2) :
    w2.ownsRow w.heap.size T 5 v2 (X ++ [o]).length ((X ++ [o]).flatMap Oq.cs) ∧ Chg S w w2 := by
  refine ⟨by simpa using o2, ((hc.trans hW (fun _ _ h => h)).trans ((Chg.refl S W).alloc ob) (fun _ _ h => h)).trans g2.chg (fun i hi hm => ?_)⟩
  have := own_ge hown i hm
  omega
theorem no_old {S : Nat → Prop} {n : Nat} : n < n → S n := fun h => absurd h (Nat.lt_irrefl _)
theorem str_cut (l : List UInt8) (a n : Nat) : (⟨((l.drop a).take n).toArray⟩ : ByteArray) = (ByteArray.mk l.toArray).extract a (a + n) := by
  apply ByteArray.ext
  simp [ByteArray.data_extract, List.take_drop]
theorem unPt_take (t : List UInt8) : unPt (t.take 16) = unPt t := by
  simp [unPt, List.take_take, List.drop_take]

end Go.Proofs.Ytomlmedfiajfkaa
namespace Go.Proofs.Ytomlmedfiajfkaa
open Go.RowKit

/-- The reader behind some ops: what is to come, or it is bad. -/
def RSt (w : World) (p : Nat) (S : Nat → Prop) (bs : List UInt8) (X : List Oq) : Prop :=
  ∃ A n c bad, Bk w p 73 #[.slice A n c, .bool bad] ∧ n ≤ c ∧ c ≤ maxLen ∧ ((bad = false ∧ ∃ R, RdB w S A n R ∧ Dec bs R X) ∨ (bad = true ∧ n = 0 ∧ opsD bs = none))
theorem RSt.keep {w w' : World} {p : Nat} {S T : Nat → Prop} {bs : List UInt8} {X : List Oq} (h : RSt w p S bs X) (hc : Chg T w w') (hp : ¬ T p) (hS : ∀ k, S k → T k → False) : RSt w' p S bs X := by
  obtain ⟨A, n, c, bad, h1, h2, h3, h4⟩ := h
  refine ⟨A, n, c, bad, h1.keep hc hp, h2, h3, ?_⟩
  rcases h4 with ⟨h5, R, h6, h7⟩ | h5
  · exact .inl ⟨h5, R, h6.keep hc hS, h7⟩
  · exact .inr h5
theorem pt_step (p : Nat) (A : Option Addr) (c n : Nat) (bs t : List UInt8) (X : List Oq) (S : Nat → Prop) (w : World)
    (hp : Bk w p 73 #[.slice A n c, .bool false]) (hr : RdB w S A n t) (hS : ¬ S p) (hSw : ∀ k, S k → k < w.heap.size) (hc : n ≤ c) (hcm : c ≤ maxLen) (hd : Dec bs (1 :: t) X) :
    Calls Try.prog 45 #[.pointer (some ⟨p, 0, none⟩)] w fun e w' => ∃ q : Pt, e = .returned (.agg q.cs.toArray) ∧ Chg (· = p) w w' ∧ RSt w' p S bs (X ++ [⟨1, q⟩]) := by
  have hl := hr.len
  have h16 : opLen 1 = 16 := rfl
  by_cases h : 16 ≤ n
  · refine (takePt_ok p A c n t false S w hp hr hS hSw h hc hcm).mono ?_
    rintro e w1 ⟨rfl, hc1, A1, hp1, hr1⟩
    refine ⟨_, rfl, hc1, A1, n - 16, c - 16, false, hp1, by omega, by omega, .inl ⟨rfl, _, hr1, ?_⟩⟩
    have := hd.step (by rw [h16]; omega)
    rw [h16] at this
    exact this
  · refine (takePt_short p A c n t false S w hp hr hS (by omega) hc hcm).mono ?_
    rintro e w1 ⟨⟨q, rfl⟩, hc1, hp1⟩
    exact ⟨q, rfl, hc1, none, 0, 0, true, hp1, Nat.le_refl _, by simp [maxLen], .inr ⟨rfl, rfl, hd.short (by rw [h16]; omega)⟩⟩
theorem key_step (p : Nat) (A : Option Addr) (c n : Nat) (bs t : List UInt8) (k : UInt8) (X : List Oq) (S : Nat → Prop) (w : World)
    (hp : Bk w p 73 #[.slice A n c, .bool false]) (hr : RdB w S A n t) (hS : ¬ S p) (hc : n ≤ c) (hcm : c ≤ maxLen) (hd : Dec bs (k :: t) X) (hk : k ≠ 1) :
    Calls Try.prog 31 #[.pointer (some ⟨p, 0, none⟩), .int .i64 4] w fun e w' => ∃ N : Nat, N < 4294967296 ∧ e = .returned (.int .u64 N) ∧ Chg (· = p) w w' ∧ RSt w' p S bs (X ++ [⟨(k.toNat : Int), ⟨N, 0, 0, 0⟩⟩]) := by
  have hl := hr.len
  have h4 : opLen k = 4 := by unfold opLen; rw [if_neg hk]
  by_cases h : 4 ≤ n
  · refine (take_any p A c n t false S 4 w hp hr hS (by omega) (by omega) h hc hcm).mono ?_
    rintro e w1 ⟨rfl, hc1, A1, hp1, hr1⟩
    refine ⟨_, unB4 t, rfl, hc1, A1, n - 4, c - 4, false, hp1, by omega, by omega, .inl ⟨rfl, _, hr1, ?_⟩⟩
    have := hd.step (by rw [h4]; omega)
    have ho : opAt k t = ⟨(k.toNat : Int), ⟨(unB (t.take 4) : Nat), 0, 0, 0⟩⟩ := by unfold opAt; rw [if_neg hk]
    rw [h4, ho] at this
    exact this
  · refine (take_short p A c n false 4 w hp (by omega)).mono ?_
    rintro e w1 ⟨rfl, hc1, hp1⟩
    exact ⟨0, by omega, rfl, hc1, none, 0, 0, true, hp1, Nat.le_refl _, by simp [maxLen], .inr ⟨rfl, rfl, hd.short (by rw [h4]; omega)⟩⟩
def sliceLen : Value → Nat
  | .slice _ n _ => n
  | _ => 0

end Go.Proofs.Ytomlmedfiajfkaa
