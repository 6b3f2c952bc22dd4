/- Joined for this seat from: XSlReads. -/
import Derived.Test.YtomlmedfiajfkaaLo
namespace Go.Proofs.Ytomlmedfiajfkaa
open Go.RowKit

theorem run_append_zero0 {P : Program} (w : World) (t u ty e : TypeId) (i : TypeInfo) (z : Value) (sz : Nat) (ht : P.underlying t = some (.slice e)) (hu : P.underlying u = some (.int .i64)) (hi : P.info? e = some i) (hz : i.zero = some z)
    (v : Value) (n : Nat) (xs : List Value) (hown : Row w e sz v n xs) : (Builtin.append_ #[t, u] ty #[v, .int .i64 0]).run P w = .ok v w := by
  have hwr : IntKind.i64.wrap 0 = 0 := by rw [IntKind.wrap_i64]; rfl
  rcases hown.2 with ⟨rfl, rfl⟩ | ⟨g, cap, cur, lo, hi', rfl, hg, hf, hnc, hcm, hcs, htake⟩
  · simp [Builtin.append_, run_underlying ht, run_underlying hu, sizeOf, typeInfo, zeroValue, hi, hz, asInt, asIntOf, hwr]
  · simp [Builtin.append_, run_underlying ht, run_underlying hu, sizeOf, typeInfo, zeroValue, hi, hz, asInt, asIntOf, storeCells, hnc, hwr]
/-- 'append(s, make([]T, m)...)', m nought too. -/
theorem wpl_append_zeros' {P : Program} {ops : Array Oper} {rest : List Oper} {o : Oper} {a : Act} {w : World} {Q : Exit → Act → World → Prop} (hgd : o.guard = none) (s x : Operand) (t u : TypeId)
    (ho : o.op = .call { callee := .builtin .append, args := #[s, x], argTypes := #[t, u] })
    (e : TypeId) (i : TypeInfo) (z : Value) (sz bytes : Nat) (ht : P.underlying t = some (.slice e)) (hu : P.underlying u = some (.int .i64)) (hi : P.info? e = some i) (hz : i.zero = some z)
    (hsize : i.size = sz) (hby : i.bytes = bytes) (hzs : z.cells.size = sz) (hsz : 0 < sz) (m : Nat) (hone : ∀ x ∈ (Builtin.zeroCells z.cells m).toList, x.oneCell' = true)
    (v : Value) (n : Nat) (xs : List Value) (hs : a.eval s = v) (hown : Row w e sz v n xs) (hx : a.eval x = .int .i64 (m : Int))
    (h63 : n + m ≤ maxLen) (hbytes : (n + m) * bytes ≤ 140737488355328)
    (h : ∀ v' w', Row w' e sz v' (n + m) (xs ++ (Builtin.zeroCells z.cells m).toList) → Grew w v w' v' → wpList P ops Q rest (a.put o.dst v') w') : wpList P ops Q (o :: rest) a w := by
  rcases Nat.eq_zero_or_pos m with rfl | hm
  · refine wpList_plain hgd fun K hK => ?_
    have hrun := run_append_zero0 (P := P) w t u o.type e i z sz ht hu hi hz v n xs hown
    unfold Oper.wp execOp
    simp only [ho, resolve, invoke, builtin, Sem.run_bind, Sem.run_pure, Result.andThen_ok, List.map_toArray, List.map_cons, List.map_nil, hs, hx]
    have h0 : ((0 : Nat) : Int) = 0 := rfl
    rw [h0, hrun]
    refine hK _ _ (h v w ?_ (Grew.refl w v))
    have hz0 : (Builtin.zeroCells z.cells 0).toList = [] := List.eq_nil_of_length_eq_zero (by rw [Array.length_toList, size_zeroCells]; simp)
    rw [hz0, List.append_nil]
    exact hown
  · exact wpl_append_zeros hgd s x t u ho e i z sz bytes ht hu hi hz hsize hby hzs hsz m hone v n xs hs hown hx hm h63 hbytes h
theorem same_eq {P : Program} {f : FuncId} {args : Array Value} {W : World} {p : Prop} (h : Calls P f args W fun e w' => e = .returned (.bool (eqB p)) ∧ Chg Nil W w') (hp : p) : Calls P f args W fun e w' => e = .returned (.bool true) ∧ Chg Nil W w' := by rwa [eqB_true hp] at h
/-- A disk written on from the front. -/
theorem new_write {n : Nat} {xs : List UInt8} (hn : n ≤ 1000000) : ((Dp.new n).write 0 xs).now = xs ++ List.replicate (n - xs.length) 0 := by
  have hl := new_len hn
  have he : (Dp.new n).now = List.replicate n 0 := by
    have : (Dp.new n).now = List.replicate (newN n) 0 := rfl
    rw [this] at hl ⊢
    rw [List.length_replicate] at hl
    rw [hl]
  rw [Dp.write_now, he]
  unfold splice
  rw [List.take_zero, List.nil_append, List.drop_replicate, Nat.zero_add]
theorem readS_cons (c : UInt8) (x : List UInt8) : readS (c :: x) = if c = 197 then parseS x else none := by
  unfold readS
  by_cases hc : c = 197
  · rw [if_pos hc, if_pos (by rw [hc]; rfl)]; rfl
  · rw [if_neg hc, if_neg (by intro h; injection h with h; exact hc h)]
theorem win_all {l : List UInt8} {n : Nat} (h : l.length = n) : winS l 0 n = l := by unfold winS; rw [List.drop_zero, List.take_of_length_le (by omega)]
set_option maxHeartbeats 8000000 in
set_option maxRecDepth 100000 in
theorem slotReads_walk (A0 : Option Addr) (n0 c0 : Nat) (bs : List UInt8) (gen u : Nat) (A3 : Option Addr) (n3 c3 : Nat) (l : List Oq) (S0 S3 : Nat → Prop) (at_ : Int) (by_ : Nat) (w : World) (hr0 : RdB w S0 A0 n0 bs) (hc0 : n0 ≤ c0) (hm0 : c0 ≤ maxLen) (hr3 : RdO w S3 A3 n3 l) (hby : by_ < 256) :
    Calls Try.prog 3 #[.slice A0 n0 c0, .int .u64 (gen : Int), .int .u64 (u : Int), .slice A3 n3 c3, .int .i64 at_, .int .u8 (by_ : Int)] w fun e w' => e = .returned (.bool true) ∧ Below w.heap.size w w' := by
  have hl0 := hr0.len
  have hl3 := hr3.len
  have HA := Hid.mk (fun W => awake14_any W)
  by_cases hbig : n0 ≤ 700 ∧ n3 ≤ 100
  rotate_left
  · have hd : (decide ((n0 : Int) > 700) = true) ∨ (decide ((n0 : Int) > 700) = false ∧ decide ((n3 : Int) > 100) = true) := by
      by_cases h : n0 ≤ 700
      · exact .inr ⟨decide_eq_false (by omega), decide_eq_true (by omega)⟩
      · exact .inl (decide_eq_true (by omega))
    clear hr0 hr3 hbig
    rcases hd with h1 | ⟨h1, h2⟩
    all_goals
      go_enter Try.func3, Try.ntmps3
      go_wp2_with fail
      refine (HA.out _).mono ?_
      rintro e w1 ⟨rfl, hc⟩
      have H1 := Hid.mk hc
      clear hc
      go_wp2_with fail
      go_ret
      exact ⟨rfl, H1.out.below_nil⟩
  obtain ⟨hb0, hb3⟩ := hbig
  have hdA : decide (700 < (n0 : Int)) = false := decide_eq_false (by omega)
  have hdB : decide (100 < (n3 : Int)) = false := decide_eq_false (by omega)
  obtain ⟨i0, hi, hz0, hz1, hz2⟩ := info_parts Try.infoByte
  have hs1 := snap14_any gen u A3 n3 c3 l S3 w hr3 hb3
  have hsl := snapP_len gen u l
  have hsp : (snapP gen u l).pts.length ≤ 30 := by have := Sn.len (snapP gen u l); omega
  generalize snapP gen u l = s at *
  have ha1 : ∀ W, (Op.stringOp .add ⟨#[197]⟩ ⟨s.bytes.toArray⟩).run Try.prog W = .ok (.string ⟨(197 :: s.bytes).toArray⟩) W := fun W => str_add [197] s.bytes (by simp; omega) W
  have hcl : (197 :: s.bytes).length ≤ 501 := by rw [List.length_cons]; omega
  have hcp : 0 < (197 :: s.bytes).length := by rw [List.length_cons]; omega
  generalize hcc : 197 :: s.bytes = cc at *
  have hcm : cc.length ≤ maxLen := by simp only [maxLen]; omega
  have H0 := Hid.mk (And.intro hs1 (And.intro hr0.here hcc))
  clear hs1 hr0 hr3 hcc hsl
  go_enter Try.func3, Try.ntmps3
  go_wp2_with fail
  refine H0.out.1.mono ?_
  rintro e w1 ⟨As, cs, rfl, rs, c1⟩
  have H1 := Hid.mk (And.intro rs c1)
  clear rs c1
  go_wp2_with fail
  refine (rsnap_any s.gen s.u As s.pts.length cs s.pts _ w1 H1.out.1 (by omega)).mono ?_
  rintro e w2 ⟨rfl, c2⟩
  rw [show (⟨s.gen, s.u, s.pts⟩ : Sn) = s from rfl]
  have H2 := Hid.mk (H1.out.2.trans c2 (fun _ _ h => h))
  clear c2
  go_upto_region 4 with ((with_reducible refine wpl_bytes (o := ⟨some 37, _, _, _, _, _⟩) rfl (.tmp 36) 9 22 5 rfl Try.underlying9 Try.underlying22 Try.underlying5 cc rfl hcm ?_); intro C3 w3 hC3 hM3 row3 ch3 hl3; have H3 := Hid.mk (And.intro row3 (And.intro (H2.out.trans ch3 (fun _ _ h => h)) (And.intro H2.out.size hl3))); clear row3 ch3 hl3)
  obtain ⟨D, hD, hD2⟩ := i64_and_mask at_ 65535 16 (by decide) (by omega)
  simp only [Int.cast_ofNat_Int] at hD
  obtain ⟨ix, hix, hixl⟩ : ∃ ix : Nat, (D : Int) % (cc.length : Int) = (ix : Int) ∧ ix < cc.length := ⟨D % cc.length, by simp, Nat.mod_lt _ hcp⟩
  have hcl0 : w3.cell? ⟨w2.heap.size, ix, none⟩ = some (.int .u8 (cc[ix].toNat : Int)) := (H3.out.1.cellAt hixl).trans (by simp [hixl, bv])
  have hfr := H3.out.1.freeAt hixl
  have h256 := cc[ix].toNat_lt
  have hxr := xor_byte cc[ix] by_ hby
  have hst := (H3.out.1.stored ix (bv (UInt8.ofNat (cc[ix].toNat ^^^ by_))))
  rw [set_map_bv] at hst
  generalize UInt8.ofNat (cc[ix].toNat ^^^ by_) = nb at *
  generalize cc[ix].toNat = ob at *
  have hxl : (cc.set ix nb).length = cc.length := by simp
  generalize cc.set ix nb = X at *
  have HX := Hid.mk (And.intro hxr hst)
  clear hxr hst
  go_wp2_with fail
  rw [HX.out.1]
  have hw3 : Chg Nil w (w3.setCell ⟨w2.heap.size, ix, none⟩ (bv nb)) := H3.out.2.1.setCell (p := ⟨w2.heap.size, ix, none⟩) (fun h => absurd (show w2.heap.size < w.heap.size from h) (by have := H3.out.2.2.1; omega)) _
  have hrX : RdB (w3.setCell ⟨w2.heap.size, ix, none⟩ (bv nb)) (fun k => k < (w3.setCell ⟨w2.heap.size, ix, none⟩ (bv nb)).heap.size) (some ⟨w2.heap.size, 0, none⟩) cc.length X := (RdB.here HX.out.2.rd).wider (fun k hk _ => hk)
  generalize w3.setCell ⟨w2.heap.size, ix, none⟩ (bv nb) = wa at *
  have hrb : RdB wa (fun k => k < wa.heap.size) A0 n0 bs := (H0.out.2.1.keep hw3 (fun _ _ h => h)).wider (fun k hk _ => hk)
  have HW := Hid.mk (And.intro hw3 (And.intro hrX hrb))
  clear hw3 hrX hrb
  rw [hix]
  clear hix hD ha1 hcl0 hfr
  go_loopw [0, 14] (fun b i wr => ∃ (k : Nat) (B : Option Addr) (m mc : Nat) (xs : List UInt8), k ≤ 2 ∧ i = .int .i64 (k : Int) ∧ b = .slice B m mc ∧ m ≤ 700 ∧ m ≤ mc ∧ mc ≤ maxLen ∧ Hid (Chg Nil w wr ∧ RdB wr (fun k => k < wr.heap.size) (some ⟨w2.heap.size, 0, none⟩) cc.length X ∧ RdB wr (fun k => k < wr.heap.size) B m xs)) (fun _ i _ => 2 - (intOf i).toNat)
  case atStart => exact ⟨0, A0, n0, c0, bs, by omega, rfl, rfl, hb0, hc0, hm0, Hid.mk ⟨HW.out.1, HW.out.2.1, HW.out.2.2⟩⟩
  case round =>
    obtain ⟨k, B, m, mc, xs, hk, rfl, rfl, hm7, hmc, hmm, HK⟩ := hrel
    by_cases hk2 : k < 2
    rotate_left
    · obtain rfl : k = 2 := by omega
      go_wp2_with fail
      refine (HA.out _).mono ?_
      rintro e wz ⟨rfl, cz⟩
      have Hz := Hid.mk (HK.out.1.trans cz (fun _ _ h => h))
      clear cz
      go_wp2_with fail
      go_ret
      exact ⟨rfl, Hz.out.below_nil⟩
    have hk01 : k = 0 ∨ k = 1 := by omega
    rcases hk01 with rfl | rfl
    · go_upto_region 10 with fail
      have hN := dnew_any 700 wr
      have hnl : (Dp.new 700).now.length = 700 := new_len (n := 700) (by omega)
      have hxl2 : xs.length = m := (HK.out.2.2).len
      have hYn : ((Dp.new 700).write 0 xs).now = xs ++ List.replicate (700 - xs.length) 0 := new_write (n := 700) (xs := xs) (by omega)
      have hYl : (xs ++ List.replicate (700 - xs.length) 0).length = 700 := by rw [List.length_append, List.length_replicate, hxl2]; have := hm7; omega
      obtain ⟨y0, yt, hY⟩ : ∃ y0 yt, xs ++ List.replicate (700 - xs.length) (0 : UInt8) = y0 :: yt := by
        cases h : xs ++ List.replicate (700 - xs.length) (0 : UInt8) with
        | nil => rw [h] at hYl; simp at hYl
        | cons a b => exact ⟨a, b, rfl⟩
      have hytl : yt.length = 699 := by rw [hY] at hYl; simpa using hYl
      have HY := Hid.mk (And.intro hN (And.intro hnl (And.intro hxl2 (And.intro hYn (And.intro (And.intro hYl hytl) hY)))))
      have hmle : m ≤ 700 := hm7
      have hsub : ∃ z : Nat, (700 : Int) - ((m : Nat) : Int) = (z : Int) ∧ z = 700 - m := ⟨700 - m, by omega, rfl⟩
      obtain ⟨z, hz, hzz⟩ := hsub
      have HZ := Hid.mk hzz
      clear hN hnl hxl2 hYn hYl hytl hY hzz
      go_wp2_with fail
      refine HY.out.1.mono ?_
      rintro e w4 ⟨g, M, R, rfl, c4, d4, low4⟩
      have H4 := Hid.mk (And.intro (Live.mk (HK.out.1.trans c4 (fun _ _ h => h)) d4 (fun k hk => by have := low4 k hk; have := HK.out.1.size; omega)) (And.intro ((HK.out.2.2).keep c4 (fun _ _ h => h)) (And.intro (HK.out.2.1.keep c4 (fun _ _ h => h)) low4)))
      clear c4 d4 low4
      go_wp2_with fail
      refine (dwrite_ok H4.out.1.dk 0 B m mc xs H4.out.2.1 (fun k hk hm => by have h1 := H4.out.2.2.2 k (.inl hm); have h2 : k < wr.heap.size := hk; omega) (by rw [HY.out.2.1]; omega) rfl (by show (0 : Nat) ≤ _; omega)).mono ?_
      rintro e w5 ⟨M5, R5, rfl, ww5, d5⟩
      have hfar : ∀ k, k < wr.heap.size → M k → False := fun k hk hm => by have := H4.out.2.2.2 k (.inl hm); omega
      have H5 := Hid.mk (And.intro (H4.out.1.went ww5 d5) (And.intro (H4.out.2.1.keep ww5.chg (fun k hk hm => hfar k hk hm)) (H4.out.2.2.1.keep ww5.chg (fun k hk hm => hfar k hk hm))))
      clear ww5 d5 hfar
      go_upto_region 14 with (first
        | (at_builtin; refine wpl_append rfl (.tmp 65) (.tmp 66) 22 rfl w5.heap.size 5 i0 _ 1 1 Try.underlying22 hi hz0 hz1 hz2 rfl (by omega) _ 0 [] rfl (World.ownsRow_lit w5 #[] 0 (Nat.le_refl _) (Nat.zero_le _) rfl) _ B m mc _ rfl (H5.out.2.1.keep ((Chg.refl Nil w5).alloc _) (fun _ _ h => h)) (bv_one _) (by simp only [maxLen]; omega) (by omega) (by simp) ?_; intro v6 w6 o6 g6; have H6 := Hid.mk (And.intro o6 g6); clear o6 g6)
        | (at_builtin; refine wpl_append_zeros' rfl (.tmp 67) (.tmp 70) 22 3 rfl 5 i0 _ 1 1 Try.underlying22 Try.underlying3 hi hz0 hz1 hz2 rfl (by omega) z (fun x hx => by rw [zero_bytes] at hx; exact bv_one _ x hx) _ _ _ rfl (Row.of_own H6.out.1) rfl (by have := HZ.out; simp only [maxLen]; omega) (by have := HZ.out; omega) ?_; intro v7 w7 row7 g7; have H7 := Hid.mk (And.intro row7 g7); clear row7 g7))
      have hfr6 := H6.out.2.fresh
      obtain ⟨A7, k7, hv7, hk7, hmx7⟩ := H7.out.1.form
      subst hv7
      have hc57 : Chg Nil w5 w7 := hfr6.1.trans H7.out.2.chg (fun i hi h => by have := own_ge H6.out.1 i h; omega)
      have hrow : RdB w7 (fun k => k < w7.heap.size) A7 700 (y0 :: yt) := by
        have h := H7.out.1.rd
        have hzx : z = 700 - xs.length := by rw [HY.out.2.2.1]; exact HZ.out
        have hll : ([] ++ xs.map bv) ++ (Builtin.zeroCells (Value.int .u8 0).cells z).toList = (y0 :: yt).map bv := by rw [zero_bytes, List.nil_append, ← List.map_append, hzx, HY.out.2.2.2.2.2]
        rw [hll, show 0 + m + z = 700 by have := HZ.out; omega] at h
        exact (RdB.here h).wider (fun k hk _ => hk)
      obtain ⟨b7, o7, rfl, _, hb7, hx7⟩ := hrow.plain (by omega)
      have hmz : 0 + m + z = 700 := by have := HZ.out; omega
      rw [hmz] at hk7 ⊢
      unfold maxLen at hmx7
      have hcell0 : w7.cell? ⟨b7, o7, none⟩ = some (.int .u8 (y0.toNat : Int)) := hx7 0 _ rfl
      have hrt : RdB w7 (fun _ => True) (some ⟨b7, o7 + 1, none⟩) 699 yt := RdB.of_cells HY.out.2.2.2.2.1.2 trivial (RdB.shift 1 hx7)
      have HC57 := Hid.mk hc57
      have H8 := Hid.mk (And.intro (H5.out.1.nil hc57) (And.intro (H5.out.2.2.keep hc57 (fun _ _ h => h)) (And.intro hcell0 (And.intro hrt hb7))))
      have hrd : Calls Try.prog 13 #[.pointer (some ⟨g, 0, none⟩), .int .i64 0, .int .i64 700] w7 _ := sread_ok H8.out.1.dk 0 700 (by omega) (by rw [HY.out.2.2.2.1, HY.out.2.2.2.2.2, List.length_cons, HY.out.2.2.2.2.1.2]; omega) (Dp.free_write (Dp.free_new 700) 0 xs).dead
      rw [HY.out.2.2.2.1, HY.out.2.2.2.2.2, win_all (by rw [List.length_cons, HY.out.2.2.2.2.1.2]), readS_cons] at hrd
      have HRD := Hid.mk hrd
      clear hfr6 hc57 hrow hx7 hcell0 hrt hrd hmz
      generalize hps : parseS yt = ps at *
      go_upto_region 15 with ((with_reducible refine HRD.out.mono ?_); rintro e w8 ⟨hi8, c8⟩; obtain ⟨A8, c8', rfl, r8⟩ := hi8.uni; have HV8 := Hid.mk (And.intro c8 r8); clear c8 hi8 r8)
      have HPs := Hid.mk hps
      clear hps
      have hslice : ∃ c9, ∀ W, (Instr.slice 22 (.slice (some ⟨b7, o7, none⟩) 700 k7) (some (.int .i64 1)) none none).run Try.prog W = .ok (.slice (some ⟨b7, o7 + 1, none⟩) 699 c9) W := by
        refine ⟨k7 - 1, fun W => ?_⟩
        have h := run_cut_from (P := Try.prog) 22 5 i0 1 Try.underlying22 hi hz1 (some ⟨b7, o7, none⟩) 700 k7 1 .i64 (by omega) W
        unfold cutA at h
        rw [if_neg (by omega)] at h
        exact h
      obtain ⟨c9, hslice⟩ := hslice
      by_cases hy : y0 = 197
      · subst hy
        rw [if_pos rfl] at HV8
        simp only [if_true]
        cases ps with
        | some sn =>
          have hx8 : RdP w8 (fun k => w7.heap.size ≤ k) A8 sn.pts.length sn.pts := HV8.out.2
          have hc8 := HV8.out.1
          simp only [snOr, Option.getD_some, Option.isSome_some]
          have hA9 : Chg Nil w7 (w8.alloc (.cells #[.int .u64 (sn.gen : Int), .int .u64 (sn.u : Int), .slice A8 sn.pts.length c8'] 29)) := hc8.alloc _
          have hV9 := Bk.new w8 29 #[.int .u64 (sn.gen : Int), .int .u64 (sn.u : Int), .slice A8 sn.pts.length c8']
          have hx9 := Rds.keep (T := Nil) hx8 ((Chg.refl Nil w8).alloc (.cells #[.int .u64 (sn.gen : Int), .int .u64 (sn.u : Int), .slice A8 sn.pts.length c8'] 29)) (fun _ _ h => h)
          generalize w8.alloc (.cells #[.int .u64 (sn.gen : Int), .int .u64 (sn.u : Int), .slice A8 sn.pts.length c8'] 29) = w9 at *
          have hconv := run_bytes_str (H8.out.2.2.2.1.keep hA9 (fun _ _ h => h)) 22 9 5 (P := Try.prog) Try.underlying22 Try.underlying5 Try.underlying9 (c := c9)
          have hun := unsnap_any yt w9 (by rw [HY.out.2.2.2.2.1.2]; omega) (by rw [HY.out.2.2.2.2.1.2]; omega)
          rw [HPs.out] at hun
          have H9 := Hid.mk (And.intro hA9 (And.intro hV9 (And.intro hx9 hun)))
          clear hx8 hc8 hA9 hV9 hx9 hun
          go_wp2_with fail
          refine H9.out.2.2.2.mono ?_
          rintro e w10 ⟨⟨A10, c10', rfl, r10⟩, cc10⟩
          have hx10 : RdP w10 (fun k => w9.heap.size ≤ k) A10 sn.pts.length sn.pts := r10
          have H10 := Hid.mk (And.intro (H9.out.1.trans cc10 (fun _ _ h => h)) (And.intro (H9.out.2.1.keep cc10 (fun h => h)) (And.intro (Rds.keep H9.out.2.2.1 cc10 (fun _ _ h => h)) hx10)))
          have v0 := H10.out.2.1.cell 0 rfl
          have v1 := H10.out.2.1.cell 1 rfl
          have v2 := H10.out.2.1.cell 2 rfl
          have vlt := H10.out.2.1.lt
          have q7 := H10.out.1.cell H8.out.2.2.1 (fun h => h)
          have q7lt : b7 < w10.heap.size := by have := H8.out.2.2.2.2; have := H10.out.1.size; omega
          simp only [snOr, Option.getD_some, Option.isSome_some]
          clear cc10 r10 hx10 hconv hslice
          have hsl9 : sn.pts.length ≤ 20000 := (mayP_zero ((Sn.ok_iff _).1 (parse_ok HPs.out)).2.2.2).1
          have HSm := Hid.mk (fun W (hW : Chg Nil w10 W) => same_eq (same14_any sn.gen sn.u sn.gen sn.u A8 A10 sn.pts.length sn.pts.length c8' c10' sn.pts sn.pts _ _ W (Rds.keep H10.out.2.2.1 hW (fun _ _ h => h)) (Rds.keep H10.out.2.2.2 hW (fun _ _ h => h)) (by omega) (by omega)) rfl)
          go_wp2_with fail
          refine (HSm.out _ ((Chg.refl _ _).alloc _)).mono ?_
          rintro e w11 ⟨rfl, c11⟩
          have H11 := Hid.mk (And.intro (H8.out.1.chg.trans (H10.out.1.trans (((Chg.refl Nil w10).alloc _).trans c11 (fun _ _ h => h)) (fun _ _ h => h)) (fun _ _ h => h)) (H10.out.1.trans (((Chg.refl Nil w10).alloc _).trans c11 (fun _ _ h => h)) (fun _ _ h => h)))
          clear c11
          go_wp2_with fail
          go_roundw
          case rel => exact ⟨1, B, m, mc, xs, by omega, by go_num, rfl, hm7, hmc, hmm, Hid.mk ⟨H11.out.1, (H5.out.2.2.keep (HC57.out.trans H11.out.2 (fun _ _ h => h)) (fun _ _ h => h)).wider (fun k hk h => by omega), (H5.out.2.1.keep (HC57.out.trans H11.out.2 (fun _ _ h => h)) (fun _ _ h => h)).wider (fun k hk h => by omega)⟩⟩
          case measure => simp [intOf]
        | none =>
          have hx8 : RdP w8 (fun k => w7.heap.size ≤ k) A8 0 [] := HV8.out.2
          have hc8 := HV8.out.1
          simp only [snOr, Option.getD_none, Option.isSome_none, List.length_nil, Int.natCast_zero]
          have hA9 : Chg Nil w7 (w8.alloc (.cells #[.int .u64 0, .int .u64 0, .slice A8 0 c8'] 29)) := hc8.alloc _
          have hV9 := Bk.new w8 29 #[.int .u64 0, .int .u64 0, .slice A8 0 c8']
          have hx9 := Rds.keep (T := Nil) hx8 ((Chg.refl Nil w8).alloc (.cells #[.int .u64 0, .int .u64 0, .slice A8 0 c8'] 29)) (fun _ _ h => h)
          generalize w8.alloc (.cells #[.int .u64 0, .int .u64 0, .slice A8 0 c8'] 29) = w9 at *
          have hconv := run_bytes_str (H8.out.2.2.2.1.keep hA9 (fun _ _ h => h)) 22 9 5 (P := Try.prog) Try.underlying22 Try.underlying5 Try.underlying9 (c := c9)
          have hun := unsnap_any yt w9 (by rw [HY.out.2.2.2.2.1.2]; omega) (by rw [HY.out.2.2.2.2.1.2]; omega)
          rw [HPs.out] at hun
          have H9 := Hid.mk (And.intro hA9 (And.intro hV9 (And.intro hx9 hun)))
          clear hx8 hc8 hA9 hV9 hx9 hun
          go_wp2_with fail
          refine H9.out.2.2.2.mono ?_
          rintro e w10 ⟨⟨A10, c10', rfl, r10⟩, cc10⟩
          have hx10 : RdP w10 (fun k => w9.heap.size ≤ k) A10 0 [] := r10
          have H10 := Hid.mk (And.intro (H9.out.1.trans cc10 (fun _ _ h => h)) (And.intro (H9.out.2.1.keep cc10 (fun h => h)) (And.intro (Rds.keep H9.out.2.2.1 cc10 (fun _ _ h => h)) hx10)))
          have v0 := H10.out.2.1.cell 0 rfl
          have v1 := H10.out.2.1.cell 1 rfl
          have v2 := H10.out.2.1.cell 2 rfl
          have vlt := H10.out.2.1.lt
          have q7 := H10.out.1.cell H8.out.2.2.1 (fun h => h)
          have q7lt : b7 < w10.heap.size := by have := H8.out.2.2.2.2; have := H10.out.1.size; omega
          simp only [snOr, Option.getD_none, Option.isSome_none, List.length_nil, Int.natCast_zero]
          clear cc10 r10 hx10 hconv hslice
          have HSm := Hid.mk (fun W (hW : Chg Nil w10 W) => same_eq (same14_any 0 0 0 0 A8 none 0 0 c8' 0 [] [] _ (fun _ => True) W (Rds.keep H10.out.2.2.1 hW (fun _ _ h => h)) (Rds.nil) (by omega) (by omega)) rfl)
          go_wp2_with fail
          refine (HSm.out _ ((Chg.refl _ _).alloc _)).mono ?_
          rintro e w11 ⟨rfl, c11⟩
          have H11 := Hid.mk (And.intro (H8.out.1.chg.trans (H10.out.1.trans (((Chg.refl Nil w10).alloc _).trans c11 (fun _ _ h => h)) (fun _ _ h => h)) (fun _ _ h => h)) (H10.out.1.trans (((Chg.refl Nil w10).alloc _).trans c11 (fun _ _ h => h)) (fun _ _ h => h)))
          clear c11
          go_wp2_with fail
          go_roundw
          case rel => exact ⟨1, B, m, mc, xs, by omega, by go_num, rfl, hm7, hmc, hmm, Hid.mk ⟨H11.out.1, (H5.out.2.2.keep (HC57.out.trans H11.out.2 (fun _ _ h => h)) (fun _ _ h => h)).wider (fun k hk h => by omega), (H5.out.2.1.keep (HC57.out.trans H11.out.2 (fun _ _ h => h)) (fun _ _ h => h)).wider (fun k hk h => by omega)⟩⟩
          case measure => simp [intOf]
      · have hyb : (((y0.toNat : Nat) : Int) == 197) = false := by
          rw [beq_eq_false_iff_ne]
          intro h
          exact hy (UInt8.toNat_inj.1 (show y0.toNat = (197 : UInt8).toNat by have : (197 : UInt8).toNat = 197 := rfl; omega))
        rw [if_neg hy] at HV8
        rw [if_neg hy]
        have HYB := Hid.mk hyb
        clear hyb
        cases ps with
        | some sn =>
          have hx8 : RdP w8 (fun k => w7.heap.size ≤ k) A8 0 [] := HV8.out.2
          have hc8 := HV8.out.1
          simp only [snOr, Option.getD_none, Option.isSome_none, List.length_nil, Int.natCast_zero]
          have hA9 : Chg Nil w7 (w8.alloc (.cells #[.int .u64 0, .int .u64 0, .slice A8 0 c8'] 29)) := hc8.alloc _
          have hV9 := Bk.new w8 29 #[.int .u64 0, .int .u64 0, .slice A8 0 c8']
          have hx9 := Rds.keep (T := Nil) hx8 ((Chg.refl Nil w8).alloc (.cells #[.int .u64 0, .int .u64 0, .slice A8 0 c8'] 29)) (fun _ _ h => h)
          generalize w8.alloc (.cells #[.int .u64 0, .int .u64 0, .slice A8 0 c8'] 29) = w9 at *
          have hconv := run_bytes_str (H8.out.2.2.2.1.keep hA9 (fun _ _ h => h)) 22 9 5 (P := Try.prog) Try.underlying22 Try.underlying5 Try.underlying9 (c := c9)
          have hun := unsnap_any yt w9 (by rw [HY.out.2.2.2.2.1.2]; omega) (by rw [HY.out.2.2.2.2.1.2]; omega)
          rw [HPs.out] at hun
          have H9 := Hid.mk (And.intro hA9 (And.intro hV9 (And.intro hx9 hun)))
          clear hx8 hc8 hA9 hV9 hx9 hun
          go_wp2_with fail
          refine H9.out.2.2.2.mono ?_
          rintro e w10 ⟨⟨A10, c10', rfl, r10⟩, cc10⟩
          have hx10 : RdP w10 (fun k => w9.heap.size ≤ k) A10 sn.pts.length sn.pts := r10
          have H10 := Hid.mk (And.intro (H9.out.1.trans cc10 (fun _ _ h => h)) (And.intro (H9.out.2.1.keep cc10 (fun h => h)) (And.intro (Rds.keep H9.out.2.2.1 cc10 (fun _ _ h => h)) hx10)))
          have v0 := H10.out.2.1.cell 0 rfl
          have v1 := H10.out.2.1.cell 1 rfl
          have v2 := H10.out.2.1.cell 2 rfl
          have vlt := H10.out.2.1.lt
          have q7 := H10.out.1.cell H8.out.2.2.1 (fun h => h)
          have q7lt : b7 < w10.heap.size := by have := H8.out.2.2.2.2; have := H10.out.1.size; omega
          simp only [snOr, Option.getD_some, Option.isSome_some]
          clear cc10 r10 hx10 hconv hslice
          have hyb := HYB.out
          generalize y0.toNat = yn at *
          have hsl9 : sn.pts.length ≤ 20000 := (mayP_zero ((Sn.ok_iff _).1 (parse_ok HPs.out)).2.2.2).1
          have HSm := Hid.mk (fun W (hW : Chg Nil w10 W) => same_eq (same14_any 0 0 0 0 A8 none 0 0 c8' 0 [] [] _ (fun _ => True) W (Rds.keep H10.out.2.2.1 hW (fun _ _ h => h)) (Rds.nil) (by omega) (by omega)) rfl)
          go_wp2_with fail
          refine (HSm.out _ ((Chg.refl _ _).alloc _)).mono ?_
          rintro e w11 ⟨rfl, c11⟩
          have H11 := Hid.mk (And.intro (H8.out.1.chg.trans (H10.out.1.trans (((Chg.refl Nil w10).alloc _).trans c11 (fun _ _ h => h)) (fun _ _ h => h)) (fun _ _ h => h)) (H10.out.1.trans (((Chg.refl Nil w10).alloc _).trans c11 (fun _ _ h => h)) (fun _ _ h => h)))
          clear c11
          go_wp2_with fail
          go_roundw
          case rel => exact ⟨1, B, m, mc, xs, by omega, by go_num, rfl, hm7, hmc, hmm, Hid.mk ⟨H11.out.1, (H5.out.2.2.keep (HC57.out.trans H11.out.2 (fun _ _ h => h)) (fun _ _ h => h)).wider (fun k hk h => by omega), (H5.out.2.1.keep (HC57.out.trans H11.out.2 (fun _ _ h => h)) (fun _ _ h => h)).wider (fun k hk h => by omega)⟩⟩
          case measure => simp [intOf]
        | none =>
          have hx8 : RdP w8 (fun k => w7.heap.size ≤ k) A8 0 [] := HV8.out.2
          have hc8 := HV8.out.1
          simp only [snOr, Option.getD_none, Option.isSome_none, List.length_nil, Int.natCast_zero]
          have hA9 : Chg Nil w7 (w8.alloc (.cells #[.int .u64 0, .int .u64 0, .slice A8 0 c8'] 29)) := hc8.alloc _
          have hV9 := Bk.new w8 29 #[.int .u64 0, .int .u64 0, .slice A8 0 c8']
          have hx9 := Rds.keep (T := Nil) hx8 ((Chg.refl Nil w8).alloc (.cells #[.int .u64 0, .int .u64 0, .slice A8 0 c8'] 29)) (fun _ _ h => h)
          generalize w8.alloc (.cells #[.int .u64 0, .int .u64 0, .slice A8 0 c8'] 29) = w9 at *
          have hconv := run_bytes_str (H8.out.2.2.2.1.keep hA9 (fun _ _ h => h)) 22 9 5 (P := Try.prog) Try.underlying22 Try.underlying5 Try.underlying9 (c := c9)
          have hun := unsnap_any yt w9 (by rw [HY.out.2.2.2.2.1.2]; omega) (by rw [HY.out.2.2.2.2.1.2]; omega)
          rw [HPs.out] at hun
          have H9 := Hid.mk (And.intro hA9 (And.intro hV9 (And.intro hx9 hun)))
          clear hx8 hc8 hA9 hV9 hx9 hun
          go_wp2_with fail
          refine H9.out.2.2.2.mono ?_
          rintro e w10 ⟨⟨A10, c10', rfl, r10⟩, cc10⟩
          have hx10 : RdP w10 (fun k => w9.heap.size ≤ k) A10 0 [] := r10
          have H10 := Hid.mk (And.intro (H9.out.1.trans cc10 (fun _ _ h => h)) (And.intro (H9.out.2.1.keep cc10 (fun h => h)) (And.intro (Rds.keep H9.out.2.2.1 cc10 (fun _ _ h => h)) hx10)))
          have v0 := H10.out.2.1.cell 0 rfl
          have v1 := H10.out.2.1.cell 1 rfl
          have v2 := H10.out.2.1.cell 2 rfl
          have vlt := H10.out.2.1.lt
          have q7 := H10.out.1.cell H8.out.2.2.1 (fun h => h)
          have q7lt : b7 < w10.heap.size := by have := H8.out.2.2.2.2; have := H10.out.1.size; omega
          simp only [snOr, Option.getD_none, Option.isSome_none, List.length_nil, Int.natCast_zero]
          clear cc10 r10 hx10 hconv hslice
          have hyb := HYB.out
          generalize y0.toNat = yn at *
          have HSm := Hid.mk (fun W (hW : Chg Nil w10 W) => same_eq (same14_any 0 0 0 0 A8 none 0 0 c8' 0 [] [] _ (fun _ => True) W (Rds.keep H10.out.2.2.1 hW (fun _ _ h => h)) (Rds.nil) (by omega) (by omega)) rfl)
          go_wp2_with fail
          refine (HSm.out _ ((Chg.refl _ _).alloc _)).mono ?_
          rintro e w11 ⟨rfl, c11⟩
          have H11 := Hid.mk (And.intro (H8.out.1.chg.trans (H10.out.1.trans (((Chg.refl Nil w10).alloc _).trans c11 (fun _ _ h => h)) (fun _ _ h => h)) (fun _ _ h => h)) (H10.out.1.trans (((Chg.refl Nil w10).alloc _).trans c11 (fun _ _ h => h)) (fun _ _ h => h)))
          clear c11
          go_wp2_with fail
          go_roundw
          case rel => exact ⟨1, B, m, mc, xs, by omega, by go_num, rfl, hm7, hmc, hmm, Hid.mk ⟨H11.out.1, (H5.out.2.2.keep (HC57.out.trans H11.out.2 (fun _ _ h => h)) (fun _ _ h => h)).wider (fun k hk h => by omega), (H5.out.2.1.keep (HC57.out.trans H11.out.2 (fun _ _ h => h)) (fun _ _ h => h)).wider (fun k hk h => by omega)⟩⟩
          case measure => simp [intOf]
    · go_upto_region 10 with fail
      have hN := dnew_any 700 wr
      have hnl : (Dp.new 700).now.length = 700 := new_len (n := 700) (by omega)
      have hxl2 : X.length = cc.length := (HK.out.2.1).len
      have hYn : ((Dp.new 700).write 0 X).now = X ++ List.replicate (700 - X.length) 0 := new_write (n := 700) (xs := X) (by omega)
      have hYl : (X ++ List.replicate (700 - X.length) 0).length = 700 := by rw [List.length_append, List.length_replicate, hxl2]; have := (show cc.length ≤ 700 by omega); omega
      obtain ⟨y0, yt, hY⟩ : ∃ y0 yt, X ++ List.replicate (700 - X.length) (0 : UInt8) = y0 :: yt := by
        cases h : X ++ List.replicate (700 - X.length) (0 : UInt8) with
        | nil => rw [h] at hYl; simp at hYl
        | cons a b => exact ⟨a, b, rfl⟩
      have hytl : yt.length = 699 := by rw [hY] at hYl; simpa using hYl
      have HY := Hid.mk (And.intro hN (And.intro hnl (And.intro hxl2 (And.intro hYn (And.intro (And.intro hYl hytl) hY)))))
      have hmle : cc.length ≤ 700 := (show cc.length ≤ 700 by omega)
      have hsub : ∃ z : Nat, (700 : Int) - ((cc.length : Nat) : Int) = (z : Int) ∧ z = 700 - cc.length := ⟨700 - cc.length, by omega, rfl⟩
      obtain ⟨z, hz, hzz⟩ := hsub
      have HZ := Hid.mk hzz
      clear hN hnl hxl2 hYn hYl hytl hY hzz
      go_wp2_with fail
      refine HY.out.1.mono ?_
      rintro e w4 ⟨g, M, R, rfl, c4, d4, low4⟩
      have H4 := Hid.mk (And.intro (Live.mk (HK.out.1.trans c4 (fun _ _ h => h)) d4 (fun k hk => by have := low4 k hk; have := HK.out.1.size; omega)) (And.intro ((HK.out.2.1).keep c4 (fun _ _ h => h)) (And.intro (HK.out.2.1.keep c4 (fun _ _ h => h)) low4)))
      clear c4 d4 low4
      go_wp2_with fail
      refine (dwrite_ok H4.out.1.dk 0 (some ⟨w2.heap.size, 0, none⟩) cc.length C3 X H4.out.2.1 (fun k hk hm => by have h1 := H4.out.2.2.2 k (.inl hm); have h2 : k < wr.heap.size := hk; omega) (by rw [HY.out.2.1]; omega) rfl (by show (0 : Nat) ≤ _; omega)).mono ?_
      rintro e w5 ⟨M5, R5, rfl, ww5, d5⟩
      have hfar : ∀ k, k < wr.heap.size → M k → False := fun k hk hm => by have := H4.out.2.2.2 k (.inl hm); omega
      have H5 := Hid.mk (And.intro (H4.out.1.went ww5 d5) (And.intro (H4.out.2.1.keep ww5.chg (fun k hk hm => hfar k hk hm)) (H4.out.2.2.1.keep ww5.chg (fun k hk hm => hfar k hk hm))))
      clear ww5 d5 hfar
      go_upto_region 14 with (first
        | (at_builtin; refine wpl_append rfl (.tmp 65) (.tmp 66) 22 rfl w5.heap.size 5 i0 _ 1 1 Try.underlying22 hi hz0 hz1 hz2 rfl (by omega) _ 0 [] rfl (World.ownsRow_lit w5 #[] 0 (Nat.le_refl _) (Nat.zero_le _) rfl) _ (some ⟨w2.heap.size, 0, none⟩) cc.length C3 _ rfl (H5.out.2.1.keep ((Chg.refl Nil w5).alloc _) (fun _ _ h => h)) (bv_one _) (by simp only [maxLen]; omega) (by omega) (by simp) ?_; intro v6 w6 o6 g6; have H6 := Hid.mk (And.intro o6 g6); clear o6 g6)
        | (at_builtin; refine wpl_append_zeros' rfl (.tmp 67) (.tmp 70) 22 3 rfl 5 i0 _ 1 1 Try.underlying22 Try.underlying3 hi hz0 hz1 hz2 rfl (by omega) z (fun x hx => by rw [zero_bytes] at hx; exact bv_one _ x hx) _ _ _ rfl (Row.of_own H6.out.1) rfl (by have := HZ.out; simp only [maxLen]; omega) (by have := HZ.out; omega) ?_; intro v7 w7 row7 g7; have H7 := Hid.mk (And.intro row7 g7); clear row7 g7))
      have hfr6 := H6.out.2.fresh
      obtain ⟨A7, k7, hv7, hk7, hmx7⟩ := H7.out.1.form
      subst hv7
      have hc57 : Chg Nil w5 w7 := hfr6.1.trans H7.out.2.chg (fun i hi h => by have := own_ge H6.out.1 i h; omega)
      have hrow : RdB w7 (fun k => k < w7.heap.size) A7 700 (y0 :: yt) := by
        have h := H7.out.1.rd
        have hzx : z = 700 - X.length := by rw [HY.out.2.2.1]; exact HZ.out
        have hll : ([] ++ X.map bv) ++ (Builtin.zeroCells (Value.int .u8 0).cells z).toList = (y0 :: yt).map bv := by rw [zero_bytes, List.nil_append, ← List.map_append, hzx, HY.out.2.2.2.2.2]
        rw [hll, show 0 + cc.length + z = 700 by have := HZ.out; omega] at h
        exact (RdB.here h).wider (fun k hk _ => hk)
      obtain ⟨b7, o7, rfl, _, hb7, hx7⟩ := hrow.plain (by omega)
      have hmz : 0 + cc.length + z = 700 := by have := HZ.out; omega
      rw [hmz] at hk7 ⊢
      unfold maxLen at hmx7
      have hcell0 : w7.cell? ⟨b7, o7, none⟩ = some (.int .u8 (y0.toNat : Int)) := hx7 0 _ rfl
      have hrt : RdB w7 (fun _ => True) (some ⟨b7, o7 + 1, none⟩) 699 yt := RdB.of_cells HY.out.2.2.2.2.1.2 trivial (RdB.shift 1 hx7)
      have HC57 := Hid.mk hc57
      have H8 := Hid.mk (And.intro (H5.out.1.nil hc57) (And.intro (H5.out.2.2.keep hc57 (fun _ _ h => h)) (And.intro hcell0 (And.intro hrt hb7))))
      have hrd : Calls Try.prog 13 #[.pointer (some ⟨g, 0, none⟩), .int .i64 0, .int .i64 700] w7 _ := sread_ok H8.out.1.dk 0 700 (by omega) (by rw [HY.out.2.2.2.1, HY.out.2.2.2.2.2, List.length_cons, HY.out.2.2.2.2.1.2]; omega) (Dp.free_write (Dp.free_new 700) 0 X).dead
      rw [HY.out.2.2.2.1, HY.out.2.2.2.2.2, win_all (by rw [List.length_cons, HY.out.2.2.2.2.1.2]), readS_cons] at hrd
      have HRD := Hid.mk hrd
      clear hfr6 hc57 hrow hx7 hcell0 hrt hrd hmz
      generalize hps : parseS yt = ps at *
      go_upto_region 15 with ((with_reducible refine HRD.out.mono ?_); rintro e w8 ⟨hi8, c8⟩; obtain ⟨A8, c8', rfl, r8⟩ := hi8.uni; have HV8 := Hid.mk (And.intro c8 r8); clear c8 hi8 r8)
      have HPs := Hid.mk hps
      clear hps
      have hslice : ∃ c9, ∀ W, (Instr.slice 22 (.slice (some ⟨b7, o7, none⟩) 700 k7) (some (.int .i64 1)) none none).run Try.prog W = .ok (.slice (some ⟨b7, o7 + 1, none⟩) 699 c9) W := by
        refine ⟨k7 - 1, fun W => ?_⟩
        have h := run_cut_from (P := Try.prog) 22 5 i0 1 Try.underlying22 hi hz1 (some ⟨b7, o7, none⟩) 700 k7 1 .i64 (by omega) W
        unfold cutA at h
        rw [if_neg (by omega)] at h
        exact h
      obtain ⟨c9, hslice⟩ := hslice
      by_cases hy : y0 = 197
      · subst hy
        rw [if_pos rfl] at HV8
        simp only [if_true]
        cases ps with
        | some sn =>
          have hx8 : RdP w8 (fun k => w7.heap.size ≤ k) A8 sn.pts.length sn.pts := HV8.out.2
          have hc8 := HV8.out.1
          simp only [snOr, Option.getD_some, Option.isSome_some]
          have hA9 : Chg Nil w7 (w8.alloc (.cells #[.int .u64 (sn.gen : Int), .int .u64 (sn.u : Int), .slice A8 sn.pts.length c8'] 29)) := hc8.alloc _
          have hV9 := Bk.new w8 29 #[.int .u64 (sn.gen : Int), .int .u64 (sn.u : Int), .slice A8 sn.pts.length c8']
          have hx9 := Rds.keep (T := Nil) hx8 ((Chg.refl Nil w8).alloc (.cells #[.int .u64 (sn.gen : Int), .int .u64 (sn.u : Int), .slice A8 sn.pts.length c8'] 29)) (fun _ _ h => h)
          generalize w8.alloc (.cells #[.int .u64 (sn.gen : Int), .int .u64 (sn.u : Int), .slice A8 sn.pts.length c8'] 29) = w9 at *
          have hconv := run_bytes_str (H8.out.2.2.2.1.keep hA9 (fun _ _ h => h)) 22 9 5 (P := Try.prog) Try.underlying22 Try.underlying5 Try.underlying9 (c := c9)
          have hun := unsnap_any yt w9 (by rw [HY.out.2.2.2.2.1.2]; omega) (by rw [HY.out.2.2.2.2.1.2]; omega)
          rw [HPs.out] at hun
          have H9 := Hid.mk (And.intro hA9 (And.intro hV9 (And.intro hx9 hun)))
          clear hx8 hc8 hA9 hV9 hx9 hun
          go_wp2_with fail
          refine H9.out.2.2.2.mono ?_
          rintro e w10 ⟨⟨A10, c10', rfl, r10⟩, cc10⟩
          have hx10 : RdP w10 (fun k => w9.heap.size ≤ k) A10 sn.pts.length sn.pts := r10
          have H10 := Hid.mk (And.intro (H9.out.1.trans cc10 (fun _ _ h => h)) (And.intro (H9.out.2.1.keep cc10 (fun h => h)) (And.intro (Rds.keep H9.out.2.2.1 cc10 (fun _ _ h => h)) hx10)))
          have v0 := H10.out.2.1.cell 0 rfl
          have v1 := H10.out.2.1.cell 1 rfl
          have v2 := H10.out.2.1.cell 2 rfl
          have vlt := H10.out.2.1.lt
          have q7 := H10.out.1.cell H8.out.2.2.1 (fun h => h)
          have q7lt : b7 < w10.heap.size := by have := H8.out.2.2.2.2; have := H10.out.1.size; omega
          simp only [snOr, Option.getD_some, Option.isSome_some]
          clear cc10 r10 hx10 hconv hslice
          have hsl9 : sn.pts.length ≤ 20000 := (mayP_zero ((Sn.ok_iff _).1 (parse_ok HPs.out)).2.2.2).1
          have HSm := Hid.mk (fun W (hW : Chg Nil w10 W) => same_eq (same14_any sn.gen sn.u sn.gen sn.u A8 A10 sn.pts.length sn.pts.length c8' c10' sn.pts sn.pts _ _ W (Rds.keep H10.out.2.2.1 hW (fun _ _ h => h)) (Rds.keep H10.out.2.2.2 hW (fun _ _ h => h)) (by omega) (by omega)) rfl)
          go_wp2_with fail
          refine (HSm.out _ ((Chg.refl _ _).alloc _)).mono ?_
          rintro e w11 ⟨rfl, c11⟩
          have H11 := Hid.mk (And.intro (H8.out.1.chg.trans (H10.out.1.trans (((Chg.refl Nil w10).alloc _).trans c11 (fun _ _ h => h)) (fun _ _ h => h)) (fun _ _ h => h)) (H10.out.1.trans (((Chg.refl Nil w10).alloc _).trans c11 (fun _ _ h => h)) (fun _ _ h => h)))
          clear c11
          go_wp2_with fail
          go_roundw
          case rel => exact ⟨2, _, cc.length, C3, X, by omega, by go_num, rfl, by omega, hC3, hM3, Hid.mk ⟨H11.out.1, (H5.out.2.2.keep (HC57.out.trans H11.out.2 (fun _ _ h => h)) (fun _ _ h => h)).wider (fun k hk h => by omega), (H5.out.2.1.keep (HC57.out.trans H11.out.2 (fun _ _ h => h)) (fun _ _ h => h)).wider (fun k hk h => by omega)⟩⟩
          case measure => simp [intOf]
        | none =>
          have hx8 : RdP w8 (fun k => w7.heap.size ≤ k) A8 0 [] := HV8.out.2
          have hc8 := HV8.out.1
          simp only [snOr, Option.getD_none, Option.isSome_none, List.length_nil, Int.natCast_zero]
          have hA9 : Chg Nil w7 (w8.alloc (.cells #[.int .u64 0, .int .u64 0, .slice A8 0 c8'] 29)) := hc8.alloc _
          have hV9 := Bk.new w8 29 #[.int .u64 0, .int .u64 0, .slice A8 0 c8']
          have hx9 := Rds.keep (T := Nil) hx8 ((Chg.refl Nil w8).alloc (.cells #[.int .u64 0, .int .u64 0, .slice A8 0 c8'] 29)) (fun _ _ h => h)
          generalize w8.alloc (.cells #[.int .u64 0, .int .u64 0, .slice A8 0 c8'] 29) = w9 at *
          have hconv := run_bytes_str (H8.out.2.2.2.1.keep hA9 (fun _ _ h => h)) 22 9 5 (P := Try.prog) Try.underlying22 Try.underlying5 Try.underlying9 (c := c9)
          have hun := unsnap_any yt w9 (by rw [HY.out.2.2.2.2.1.2]; omega) (by rw [HY.out.2.2.2.2.1.2]; omega)
          rw [HPs.out] at hun
          have H9 := Hid.mk (And.intro hA9 (And.intro hV9 (And.intro hx9 hun)))
          clear hx8 hc8 hA9 hV9 hx9 hun
          go_wp2_with fail
          refine H9.out.2.2.2.mono ?_
          rintro e w10 ⟨⟨A10, c10', rfl, r10⟩, cc10⟩
          have hx10 : RdP w10 (fun k => w9.heap.size ≤ k) A10 0 [] := r10
          have H10 := Hid.mk (And.intro (H9.out.1.trans cc10 (fun _ _ h => h)) (And.intro (H9.out.2.1.keep cc10 (fun h => h)) (And.intro (Rds.keep H9.out.2.2.1 cc10 (fun _ _ h => h)) hx10)))
          have v0 := H10.out.2.1.cell 0 rfl
          have v1 := H10.out.2.1.cell 1 rfl
          have v2 := H10.out.2.1.cell 2 rfl
          have vlt := H10.out.2.1.lt
          have q7 := H10.out.1.cell H8.out.2.2.1 (fun h => h)
          have q7lt : b7 < w10.heap.size := by have := H8.out.2.2.2.2; have := H10.out.1.size; omega
          simp only [snOr, Option.getD_none, Option.isSome_none, List.length_nil, Int.natCast_zero]
          clear cc10 r10 hx10 hconv hslice
          have HSm := Hid.mk (fun W (hW : Chg Nil w10 W) => same_eq (same14_any 0 0 0 0 A8 none 0 0 c8' 0 [] [] _ (fun _ => True) W (Rds.keep H10.out.2.2.1 hW (fun _ _ h => h)) (Rds.nil) (by omega) (by omega)) rfl)
          go_wp2_with fail
          refine (HSm.out _ ((Chg.refl _ _).alloc _)).mono ?_
          rintro e w11 ⟨rfl, c11⟩
          have H11 := Hid.mk (And.intro (H8.out.1.chg.trans (H10.out.1.trans (((Chg.refl Nil w10).alloc _).trans c11 (fun _ _ h => h)) (fun _ _ h => h)) (fun _ _ h => h)) (H10.out.1.trans (((Chg.refl Nil w10).alloc _).trans c11 (fun _ _ h => h)) (fun _ _ h => h)))
          clear c11
          go_wp2_with fail
          go_roundw
          case rel => exact ⟨2, _, cc.length, C3, X, by omega, by go_num, rfl, by omega, hC3, hM3, Hid.mk ⟨H11.out.1, (H5.out.2.2.keep (HC57.out.trans H11.out.2 (fun _ _ h => h)) (fun _ _ h => h)).wider (fun k hk h => by omega), (H5.out.2.1.keep (HC57.out.trans H11.out.2 (fun _ _ h => h)) (fun _ _ h => h)).wider (fun k hk h => by omega)⟩⟩
          case measure => simp [intOf]
      · have hyb : (((y0.toNat : Nat) : Int) == 197) = false := by
          rw [beq_eq_false_iff_ne]
          intro h
          exact hy (UInt8.toNat_inj.1 (show y0.toNat = (197 : UInt8).toNat by have : (197 : UInt8).toNat = 197 := rfl; omega))
        rw [if_neg hy] at HV8
        rw [if_neg hy]
        have HYB := Hid.mk hyb
        clear hyb
        cases ps with
        | some sn =>
          have hx8 : RdP w8 (fun k => w7.heap.size ≤ k) A8 0 [] := HV8.out.2
          have hc8 := HV8.out.1
          simp only [snOr, Option.getD_none, Option.isSome_none, List.length_nil, Int.natCast_zero]
          have hA9 : Chg Nil w7 (w8.alloc (.cells #[.int .u64 0, .int .u64 0, .slice A8 0 c8'] 29)) := hc8.alloc _
          have hV9 := Bk.new w8 29 #[.int .u64 0, .int .u64 0, .slice A8 0 c8']
          have hx9 := Rds.keep (T := Nil) hx8 ((Chg.refl Nil w8).alloc (.cells #[.int .u64 0, .int .u64 0, .slice A8 0 c8'] 29)) (fun _ _ h => h)
          generalize w8.alloc (.cells #[.int .u64 0, .int .u64 0, .slice A8 0 c8'] 29) = w9 at *
          have hconv := run_bytes_str (H8.out.2.2.2.1.keep hA9 (fun _ _ h => h)) 22 9 5 (P := Try.prog) Try.underlying22 Try.underlying5 Try.underlying9 (c := c9)
          have hun := unsnap_any yt w9 (by rw [HY.out.2.2.2.2.1.2]; omega) (by rw [HY.out.2.2.2.2.1.2]; omega)
          rw [HPs.out] at hun
          have H9 := Hid.mk (And.intro hA9 (And.intro hV9 (And.intro hx9 hun)))
          clear hx8 hc8 hA9 hV9 hx9 hun
          go_wp2_with fail
          refine H9.out.2.2.2.mono ?_
          rintro e w10 ⟨⟨A10, c10', rfl, r10⟩, cc10⟩
          have hx10 : RdP w10 (fun k => w9.heap.size ≤ k) A10 sn.pts.length sn.pts := r10
          have H10 := Hid.mk (And.intro (H9.out.1.trans cc10 (fun _ _ h => h)) (And.intro (H9.out.2.1.keep cc10 (fun h => h)) (And.intro (Rds.keep H9.out.2.2.1 cc10 (fun _ _ h => h)) hx10)))
          have v0 := H10.out.2.1.cell 0 rfl
          have v1 := H10.out.2.1.cell 1 rfl
          have v2 := H10.out.2.1.cell 2 rfl
          have vlt := H10.out.2.1.lt
          have q7 := H10.out.1.cell H8.out.2.2.1 (fun h => h)
          have q7lt : b7 < w10.heap.size := by have := H8.out.2.2.2.2; have := H10.out.1.size; omega
          simp only [snOr, Option.getD_some, Option.isSome_some]
          clear cc10 r10 hx10 hconv hslice
          have hyb := HYB.out
          generalize y0.toNat = yn at *
          have hsl9 : sn.pts.length ≤ 20000 := (mayP_zero ((Sn.ok_iff _).1 (parse_ok HPs.out)).2.2.2).1
          have HSm := Hid.mk (fun W (hW : Chg Nil w10 W) => same_eq (same14_any 0 0 0 0 A8 none 0 0 c8' 0 [] [] _ (fun _ => True) W (Rds.keep H10.out.2.2.1 hW (fun _ _ h => h)) (Rds.nil) (by omega) (by omega)) rfl)
          go_wp2_with fail
          refine (HSm.out _ ((Chg.refl _ _).alloc _)).mono ?_
          rintro e w11 ⟨rfl, c11⟩
          have H11 := Hid.mk (And.intro (H8.out.1.chg.trans (H10.out.1.trans (((Chg.refl Nil w10).alloc _).trans c11 (fun _ _ h => h)) (fun _ _ h => h)) (fun _ _ h => h)) (H10.out.1.trans (((Chg.refl Nil w10).alloc _).trans c11 (fun _ _ h => h)) (fun _ _ h => h)))
          clear c11
          go_wp2_with fail
          go_roundw
          case rel => exact ⟨2, _, cc.length, C3, X, by omega, by go_num, rfl, by omega, hC3, hM3, Hid.mk ⟨H11.out.1, (H5.out.2.2.keep (HC57.out.trans H11.out.2 (fun _ _ h => h)) (fun _ _ h => h)).wider (fun k hk h => by omega), (H5.out.2.1.keep (HC57.out.trans H11.out.2 (fun _ _ h => h)) (fun _ _ h => h)).wider (fun k hk h => by omega)⟩⟩
          case measure => simp [intOf]
        | none =>
          have hx8 : RdP w8 (fun k => w7.heap.size ≤ k) A8 0 [] := HV8.out.2
          have hc8 := HV8.out.1
          simp only [snOr, Option.getD_none, Option.isSome_none, List.length_nil, Int.natCast_zero]
          have hA9 : Chg Nil w7 (w8.alloc (.cells #[.int .u64 0, .int .u64 0, .slice A8 0 c8'] 29)) := hc8.alloc _
          have hV9 := Bk.new w8 29 #[.int .u64 0, .int .u64 0, .slice A8 0 c8']
          have hx9 := Rds.keep (T := Nil) hx8 ((Chg.refl Nil w8).alloc (.cells #[.int .u64 0, .int .u64 0, .slice A8 0 c8'] 29)) (fun _ _ h => h)
          generalize w8.alloc (.cells #[.int .u64 0, .int .u64 0, .slice A8 0 c8'] 29) = w9 at *
          have hconv := run_bytes_str (H8.out.2.2.2.1.keep hA9 (fun _ _ h => h)) 22 9 5 (P := Try.prog) Try.underlying22 Try.underlying5 Try.underlying9 (c := c9)
          have hun := unsnap_any yt w9 (by rw [HY.out.2.2.2.2.1.2]; omega) (by rw [HY.out.2.2.2.2.1.2]; omega)
          rw [HPs.out] at hun
          have H9 := Hid.mk (And.intro hA9 (And.intro hV9 (And.intro hx9 hun)))
          clear hx8 hc8 hA9 hV9 hx9 hun
          go_wp2_with fail
          refine H9.out.2.2.2.mono ?_
          rintro e w10 ⟨⟨A10, c10', rfl, r10⟩, cc10⟩
          have hx10 : RdP w10 (fun k => w9.heap.size ≤ k) A10 0 [] := r10
          have H10 := Hid.mk (And.intro (H9.out.1.trans cc10 (fun _ _ h => h)) (And.intro (H9.out.2.1.keep cc10 (fun h => h)) (And.intro (Rds.keep H9.out.2.2.1 cc10 (fun _ _ h => h)) hx10)))
          have v0 := H10.out.2.1.cell 0 rfl
          have v1 := H10.out.2.1.cell 1 rfl
          have v2 := H10.out.2.1.cell 2 rfl
          have vlt := H10.out.2.1.lt
          have q7 := H10.out.1.cell H8.out.2.2.1 (fun h => h)
          have q7lt : b7 < w10.heap.size := by have := H8.out.2.2.2.2; have := H10.out.1.size; omega
          simp only [snOr, Option.getD_none, Option.isSome_none, List.length_nil, Int.natCast_zero]
          clear cc10 r10 hx10 hconv hslice
          have hyb := HYB.out
          generalize y0.toNat = yn at *
          have HSm := Hid.mk (fun W (hW : Chg Nil w10 W) => same_eq (same14_any 0 0 0 0 A8 none 0 0 c8' 0 [] [] _ (fun _ => True) W (Rds.keep H10.out.2.2.1 hW (fun _ _ h => h)) (Rds.nil) (by omega) (by omega)) rfl)
          go_wp2_with fail
          refine (HSm.out _ ((Chg.refl _ _).alloc _)).mono ?_
          rintro e w11 ⟨rfl, c11⟩
          have H11 := Hid.mk (And.intro (H8.out.1.chg.trans (H10.out.1.trans (((Chg.refl Nil w10).alloc _).trans c11 (fun _ _ h => h)) (fun _ _ h => h)) (fun _ _ h => h)) (H10.out.1.trans (((Chg.refl Nil w10).alloc _).trans c11 (fun _ _ h => h)) (fun _ _ h => h)))
          clear c11
          go_wp2_with fail
          go_roundw
          case rel => exact ⟨2, _, cc.length, C3, X, by omega, by go_num, rfl, by omega, hC3, hM3, Hid.mk ⟨H11.out.1, (H5.out.2.2.keep (HC57.out.trans H11.out.2 (fun _ _ h => h)) (fun _ _ h => h)).wider (fun k hk h => by omega), (H5.out.2.1.keep (HC57.out.trans H11.out.2 (fun _ _ h => h)) (fun _ _ h => h)).wider (fun k hk h => by omega)⟩⟩
          case measure => simp [intOf]

end Go.Proofs.Ytomlmedfiajfkaa
