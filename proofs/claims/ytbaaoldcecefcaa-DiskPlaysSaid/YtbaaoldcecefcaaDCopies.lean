/- The walk of DiskCopies: it returns true, whatever the input. -/
import Derived.Test.YtbaaoldcecefcaaDOps
import Derived.Test.YtbaaoldcecefcaaDParts
import Derived.Deep.RegionHeld
namespace Go.Proofs.Ytbaaoldcecefcaa
open Go.RowKit

/-- '[]byte(s)' as an equation, the new world behind a name. -/
theorem conv_bytes (P : Program) (src dst e : TypeId) (hs : P.underlying src = some .string) (hd : P.underlying dst = some (.slice e)) (he : P.underlying e = some (.int .u8)) (l : List UInt8) (hm : l.length ≤ maxLen) :
    ∃ (C : World → Nat) (W2 : World → World), (∀ W : World, (convert src dst (.string ⟨l.toArray⟩)).run P W = .ok (.slice (some ⟨W.heap.size, 0, none⟩) l.length (C W)) (W2 W)) ∧
      ∀ W, l.length ≤ C W ∧ C W ≤ maxLen ∧ Row (W2 W) e 1 (.slice (some ⟨W.heap.size, 0, none⟩) l.length (C W)) l.length (l.map bv) ∧ Chg Nil W (W2 W) := by
  have hsz : (ByteArray.mk l.toArray).size = l.length := by simp [ByteArray.size]
  refine ⟨fun W => grownCap W l.length 0 e, fun W => W.drew.alloc (.cells (bytesRow ⟨l.toArray⟩ (grownCap W l.length 0 e)) e ((bytesRow ⟨l.toArray⟩ (grownCap W l.length 0 e)).size, (bytesRow ⟨l.toArray⟩ (grownCap W l.length 0 e)).size + 1)), fun W => ?_, fun W => ?_⟩
  · have hrun := run_bytes_of_string (P := P) W src dst e ⟨l.toArray⟩ hs hd he
    rw [hsz] at hrun
    exact hrun
  · have hge := grownCap_ge W l.length 0 e
    have hcm := grownCap_le_maxLen W l.length 0 e hm
    have hrow := row_of_str W e ⟨l.toArray⟩ (grownCap W l.length 0 e) (by rw [hsz]; exact hge) hcm
    rw [hsz] at hrow
    exact ⟨hge, hcm, hrow, ((Chg.refl _ W).drew).alloc _⟩

theorem Went.after {w a b : World} {M R M' R' : Nat → Prop} (h : Went a b M R M' R') (hc : Chg Nil w a) : Went w b M R M' R' :=
  ⟨(hc.wider (T := M) (fun _ _ h => h.elim)).trans h.chg (fun _ _ h => h), fun k hk hm => h.m k (Nat.lt_of_lt_of_le hk hc.size) hm, fun k hk hm => h.r k (Nat.lt_of_lt_of_le hk hc.size) hm⟩

theorem Live2.far {w0 w w' : World} {g g' : Nat} {M R M' R' S : Nat → Prop} {d d' : Dp} (h : Live2 w0 w g M R d g' M' R' d') (hc : Chg S w w') (hl : ∀ k, S k → w0.heap.size ≤ k) (hs : ∀ k, S k → ¬ M k ∧ ¬ R k ∧ ¬ M' k ∧ ¬ R' k) : Live2 w0 w' g M R d g' M' R' d' :=
  ⟨h.one.far hc hl (fun k hk hS => by
    rcases hk with hk | hk
    · exact (hs k hS).1 hk
    · exact (hs k hS).2.1 hk), h.two.far hc hl (fun k hk hS => by
    rcases hk with hk | hk
    · exact (hs k hS).2.2.1 hk
    · exact (hs k hS).2.2.2 hk), h.sep, h.sep'⟩
theorem Live2.copied {w0 w w5 : World} {g g' gc : Nat} {M R M' R' Mc : Nat → Prop} {s s' : Dp} (h : Live2 w0 w g M R s g' M' R' s') (hc : Chg Nil w w5) (h5 : Dk w5 gc Mc R s) (hlow : ∀ k, Mc k → w.heap.size ≤ k) :
    Live2 w0 w5 gc Mc R s g' M' R' s' ∧ Live w0 w5 g M R s ∧ (∀ k, M k → ¬ Mc k ∧ ¬ R k ∧ ¬ M' k ∧ ¬ R' k) := by
  have hsz := h.one.chg.size
  refine ⟨⟨⟨h.one.chg.trans hc (fun _ _ h => h), h5, fun k hk => ?_⟩, h.two.nil hc, fun k hk => ?_, fun k hk => ?_⟩, h.one.nil hc, fun k hk => ?_⟩
  · rcases hk with hk | hk
    · have := hlow k hk; omega
    · exact h.one.low k (.inr hk)
  · have := hlow k hk
    exact ⟨fun hm => by have := h.two.dk.lt k (.inl hm); omega, fun hm => by have := h.two.dk.lt k (.inr hm); omega⟩
  · exact ⟨fun hm => by have := hlow k hm; have := h.two.dk.lt k (.inl hk); omega, (h.sep' k hk).2⟩
  · obtain ⟨_, _, _, _, hd⟩ := h.one.dk
    exact ⟨fun hm => by have := hlow k hm; have := hd.lt k (.inl hk); omega, fun hr => hd.apart k hk hr, (h.sep k hk).1, (h.sep k hk).2⟩

/-- Both disks behind k ops. -/
def CopInv (w w' : World) (g g' k : Nat) (s : Dp) : Prop := ∃ M R M' R', Live2 w w' g M R s g' M' R' s ∧ s.now.length = 200 ∧ s.waits.length ≤ k
/-- Within a round: j of the two are done. -/
def CopMid (w w' : World) (g g' ob : Nat) (cs : Array Value) (j : Nat) (s s1 : Dp) : Prop :=
  ∃ M R M' R', Live2 w w' g M R (if 0 < j then s1 else s) g' M' R' (if 1 < j then s1 else s) ∧ Bk w' ob 42 cs ∧ ¬ M ob ∧ ¬ M' ob
theorem CopMid.alloc {w W : World} {g g' ob : Nat} {cs : Array Value} {j : Nat} {s s1 : Dp} (h : CopMid w W g g' ob cs j s s1) (o : Obj) : CopMid w (W.alloc o) g g' ob cs j s s1 := by
  obtain ⟨M, R, M', R', hl, hb, h1, h2⟩ := h
  exact ⟨M, R, M', R', hl.nil ((Chg.refl Nil W).alloc o), hb.alloc o, h1, h2⟩
theorem CopMid.next {w W : World} {g g' ob : Nat} {cs : Array Value} {j : Nat} {s s1 : Dp} (h : CopMid w W g g' ob cs j s s1) (hj : j < 2) :
    ∃ gx Mx Rx, (j = 0 → gx = g) ∧ (j = 1 → gx = g') ∧ Live w W gx Mx Rx s ∧ Bk W ob 42 cs ∧
      ∀ W' M1 R1, Went W W' Mx Rx M1 R1 → Dk W' gx M1 R1 s1 → CopMid w W' g g' ob cs (j + 1) s s1 := by
  obtain ⟨M, R, M', R', hl, hb, h1, h2⟩ := h
  have hlt := hb.lt
  rcases (show j = 0 ∨ j = 1 by omega) with rfl | rfl
  · have hl' : Live2 w W g M R s g' M' R' s := by simpa using hl
    refine ⟨g, M, R, fun _ => rfl, fun h => by omega, hl'.one, hb, fun W' M1 R1 hw hd => ?_⟩
    have h' : Live2 w W' g M1 R1 s1 g' M' R' s := hl'.went hw hd
    exact ⟨M1, R1, M', R', by simpa using h', hb.keep hw.chg h1, fun hm => h1 (hw.m ob hlt hm), h2⟩
  · have hl' : Live2 w W g M R s1 g' M' R' s := by simpa using hl
    refine ⟨g', M', R', fun h => by omega, fun _ => rfl, hl'.two, hb, fun W' M1 R1 hw hd => ?_⟩
    have h' : Live2 w W' g M R s1 g' M1 R1 s1 := hl'.went' hw hd
    exact ⟨M, R, M1, R1, by simpa using h', hb.keep hw.chg h2, h1, fun hm => h2 (hw.m ob hlt hm)⟩

set_option maxHeartbeats 2000000 in
set_option maxRecDepth 100000 in
theorem copies_walk (A : Option Addr) (n c : Nat) (l : List Qop) (keep : Int) (S : Nat → Prop) (w : World) (hl : l.length = n) (hr : Rds w S 4 A n (l.flatMap Qop.cs)) (hfit : ∀ o ∈ l, o.fit) (hn : n ≤ 9223372036854775807)
    (hk1 : -9223372036854775808 ≤ keep) (hk2 : keep ≤ 9223372036854775807) :
    Calls Try.prog 7 #[.slice A n c, .int .i64 keep] w fun e w' => e = .returned (.bool true) ∧ Chg Nil w w' := by
  have HR := Hid.mk (And.intro hr hfit)
  clear hr hfit
  go_enter Try.func7, Try.ntmps7
  go_wp2_with fail
  refine (dnew_any 200 w).mono ?_
  rintro e w1 ⟨g, M, R, rfl, hc1, h1, hlow⟩
  have L1 := Hid.mk (Live.mk hc1 h1 hlow)
  clear hc1 h1 hlow
  go_wp2_with fail
  refine (dnew_any 200 w1).mono ?_
  rintro e w2 ⟨g', M', R', rfl, hc2, h2, hlow2⟩
  have L2 := Hid.mk (Live2.new L1.out hc2 h2 hlow2)
  clear hc2 h2 hlow2
  go_wp2_with fail
  go_loopw [7] (fun i wr => ∃ (k : Nat) (s : Dp), k ≤ 30 ∧ k ≤ n ∧ i = .int .i64 (k : Int) ∧ CopInv w wr g g' k s) (fun i _ => 30 - (intOf i).toNat)
  case atStart => exact ⟨0, Dp.new 200, by omega, by omega, rfl, M, R, M', R', L2.out, dnew_now 200 (by omega), Nat.zero_le _⟩
  case round =>
    obtain ⟨k, s, hk30, hkn, rfl, M3, R3, M3', R3', hl3, hn3, hw3⟩ := hrel
    by_cases hlt : k < n
    · by_cases hlt30 : k < 30
      · have d30 : decide ((k : Int) < 30) = true := by rw [decide_eq_true_iff]; omega
        obtain ⟨b, off, rfl, _, _, hx⟩ := HR.out.1.plain (by omega) (by omega)
        have ho : l[k]? = some (l[k]'(by omega)) := List.getElem?_eq_getElem (by omega)
        have hfo := HR.out.2 _ (List.mem_of_getElem? ho)
        generalize l[k]'(by omega) = o at ho hfo
        obtain ⟨kd, p, N, kp⟩ := o
        have hch := hl3.one.chg
        have c0 : wr.cell? ⟨b, off + k * 4, none⟩ = some (.int .i64 kd) := hch.cell (hx (k * 4 + 0) _ (qops_get l k _ ho 0 _ rfl)) (fun h => h)
        have c1 : wr.cell? ⟨b, off + k * 4 + 1, none⟩ = some (.int .i64 p) := hch.cell (hx (k * 4 + 1) _ (qops_get l k _ ho 1 _ rfl)) (fun h => h)
        have c2 : wr.cell? ⟨b, off + k * 4 + 2, none⟩ = some (.int .i64 N) := hch.cell (hx (k * 4 + 2) _ (qops_get l k _ ho 2 _ rfl)) (fun h => h)
        have c3 : wr.cell? ⟨b, off + k * 4 + 3, none⟩ = some (.int .i64 kp) := hch.cell (hx (k * 4 + 3) _ (qops_get l k _ ho 3 _ rfl)) (fun h => h)
        have HL := Hid.mk hl3
        clear hl3 hch hx
        obtain ⟨wo, hwo⟩ : ∃ wo : World, wo = wr := ⟨_, rfl⟩
        subst hwo
        go_wp2_with fail
        have hmid : CopMid w (wo.alloc (.cells #[.int .i64 kd, .int .i64 p, .int .i64 N, .int .i64 kp] 42)) g g' wo.heap.size #[.int .i64 kd, .int .i64 p, .int .i64 N, .int .i64 kp] 0 s (s.act ⟨kd, p, N, kp⟩) :=
          ⟨M3, R3, M3', R3', by simpa using HL.out.nil ((Chg.refl Nil wo).alloc _), Bk.new _ _ _, fun h => by have := HL.out.one.dk.lt _ (.inl h); omega, fun h => by have := HL.out.two.dk.lt _ (.inl h); omega⟩
        have HM := Hid.mk hmid
        clear hmid
        have HS := Hid.mk (And.intro hn3 (And.intro hw3 (And.intro HL.out.one.dk.ok hfo)))
        clear hn3 hw3 hfo c0 c1 c2 c3
        generalize hob : wo.heap.size = ob at *
        go_loopw [9] (fun i wr => ∃ j : Nat, j ≤ 2 ∧ i = .int .i64 (j : Int) ∧ CopMid w wr g g' ob #[.int .i64 kd, .int .i64 p, .int .i64 N, .int .i64 kp] j s (s.act ⟨kd, p, N, kp⟩)) (fun i _ => 2 - (intOf i).toNat)
        case atStart => exact ⟨0, by omega, rfl, HM.out⟩
        case round =>
          obtain ⟨j, hj, rfl, hmid⟩ := hrel
          by_cases hj2 : j < 2
          · obtain ⟨gx, Mx, Rx, hg0, hg1, hx, hb, hnext⟩ := (hmid.alloc (.cells #[.pointer (some ⟨g, 0, none⟩), .pointer (some ⟨g', 0, none⟩)] 23)).next hj2
            have hpc : (wr.alloc (.cells #[.pointer (some ⟨g, 0, none⟩), .pointer (some ⟨g', 0, none⟩)] 23)).cell? ⟨wr.heap.size, j, none⟩ = some (.pointer (some ⟨gx, 0, none⟩)) := by
              rcases (show j = 0 ∨ j = 1 by omega) with rfl | rfl
              · rw [hg0 rfl]; exact (Bk.new wr _ _).cell 0 rfl
              · rw [hg1 rfl]; exact (Bk.new wr _ _).cell 1 rfl
            have d0 : (wr.alloc (.cells #[.pointer (some ⟨g, 0, none⟩), .pointer (some ⟨g', 0, none⟩)] 23)).cell? ⟨ob, 0, none⟩ = some (.int .i64 kd) := hb.cell 0 rfl
            have d1 : (wr.alloc (.cells #[.pointer (some ⟨g, 0, none⟩), .pointer (some ⟨g', 0, none⟩)] 23)).cell? ⟨ob, 1, none⟩ = some (.int .i64 p) := hb.cell 1 rfl
            have d2 : (wr.alloc (.cells #[.pointer (some ⟨g, 0, none⟩), .pointer (some ⟨g', 0, none⟩)] 23)).cell? ⟨ob, 2, none⟩ = some (.int .i64 N) := hb.cell 2 rfl
            have d3 : (wr.alloc (.cells #[.pointer (some ⟨g, 0, none⟩), .pointer (some ⟨g', 0, none⟩)] 23)).cell? ⟨ob, 3, none⟩ = some (.int .i64 kp) := hb.cell 3 rfl
            have HN := Hid.mk (And.intro hx (And.intro hb hnext))
            have hgk := HS.out.2.2.2
            clear hg0 hg1 hx hb hnext hmid
            by_cases k0 : kd = 0
            · subst k0
              go_wp2_with fail
              obtain ⟨wq, hwq⟩ : ∃ wq : World, wq = wr.alloc (.cells #[.pointer (some ⟨g, 0, none⟩), .pointer (some ⟨g', 0, none⟩)] 23) := ⟨_, rfl⟩
              rw [← hwq] at HN d0 d1 d2 d3 ⊢
              clear hwq hpc
              have hand := i64_and_63 (N / 256)
              have hL63 : (N / 256 % 64).toNat ≤ 63 := by omega
              have hlong : (⟨0, p, N, kp⟩ : Qop).long = (N / 256 % 64).toNat := rfl
              generalize (N / 256 % 64).toNat = L at hand hL63 hlong
              have hact : s.act ⟨0, p, N, kp⟩ = s.writeA p (txt N L) := by rw [Dp.act, if_pos rfl, hlong]
              have hS : ∀ W : World, Chg Nil wq W → W.cell? ⟨ob, 1, none⟩ = some (.int .i64 p) ∧ W.cell? ⟨ob, 2, none⟩ = some (.int .i64 N) := fun W hc => ⟨hc.cell d1 (fun h => h), hc.cell d2 (fun h => h)⟩
              have HS2 := Hid.mk hS
              clear hS
              obtain ⟨C, W2, hcv, hcw⟩ := conv_bytes Try.prog 9 22 5 Try.underlying9 Try.underlying22 Try.underlying5 (txt N L) (by rw [txt_len]; simp only [maxLen]; omega)
              have HCW := Hid.mk hcw
              clear hcw
              have hwaits := HS.out.2.1
              go_region_held (fun w' => w'.cell? ⟨ob, 1, none⟩ = some (.int .i64 p) ∧ w'.cell? ⟨ob, 2, none⟩ = some (.int .i64 N))
                (first | go_keep | exact HS2.out _ (by assumption) | exact HS2.out _ (hcw6.trans (HCW.out w6).2.2.2 (fun _ _ h => h)) | exact hSw)
                (first
                  | (go_at_call 15; refine (text12_any N L _ (by omega)).mono ?_; rintro e w6 ⟨rfl, hc6⟩; have hcw6 : Chg Nil wq w6 := (by first | exact (Chg.refl Nil wq).drew.trans hc6 (fun _ _ h => h) | exact (Chg.refl Nil wq).trans hc6 (fun _ _ h => h)))
                  | (go_at_call 11; refine (dwrite_any (HN.out.1.nil (hcw6.trans (HCW.out w6).2.2.2 (fun _ _ h => h))).dk p _ (C w6) (txt N L) (HCW.out w6).2.2.1.rd (fun i hi hm => by have := own_at hi; have h1 := HN.out.1.dk.lt i (.inl hm); have h2 := hcw6.size; omega) (by omega)).mono ?_; rintro e w7 ⟨M7, R7, rfl, hw7, h7⟩; have hN7 := HN.out.2.2 _ _ _ (hw7.after (hcw6.trans (HCW.out w6).2.2.2 (fun _ _ h => h))) (by rw [hact]; exact h7); have hSw : w7.cell? ⟨ob, 1, none⟩ = some (.int .i64 p) ∧ w7.cell? ⟨ob, 2, none⟩ = some (.int .i64 N) := (by obtain ⟨_, _, _, _, _, hbb, _⟩ := hN7; exact ⟨hbb.cell 1 rfl, hbb.cell 2 rfl⟩)))
              generalize s.opE p ((txt N L).length : Nat) = x7
              have H7 := Hid.mk hN7
              clear hcv hN7 hSw
              go_wp2_with fail
              go_roundw
              case rel => exact ⟨j + 1, by omega, by go_num, H7.out⟩
              case measure => simp [intOf]; omega
            · have e0 : (kd == 0) = false := by rw [beq_eq_false_iff_ne]; exact k0
              by_cases k1 : kd = 1
              · subst k1
                go_wp2_with fail
                refine (dsync_any HN.out.1.dk).mono ?_
                rintro e w5 ⟨rfl, hw5, h5⟩
                generalize (if s.dead = true then (9 : Int) else 0) = x5
                have H5 := Hid.mk (HN.out.2.2 _ _ _ hw5 h5)
                clear hw5 h5
                go_wp2_with fail
                go_roundw
                case rel => exact ⟨j + 1, by omega, by go_num, H5.out⟩
                case measure => simp [intOf]; omega
              · have e1 : (kd == 1) = false := by rw [beq_eq_false_iff_ne]; exact k1
                by_cases k3 : kd = 3
                · subst k3
                  go_wp2_with fail
                  refine (stop_any HN.out.1.dk N hgk.2.2.2.1).mono ?_
                  rintro e w5 ⟨⟨v5, rfl⟩, hw5, h5⟩
                  have H5 := Hid.mk (HN.out.2.2 _ _ _ (Went.of_chg (chg_g HN.out.1.dk hw5)) h5)
                  clear hw5 h5
                  go_wp2_with fail
                  go_roundw
                  case rel => exact ⟨j + 1, by omega, by go_num, H5.out⟩
                  case measure => simp [intOf]; omega
                · have e3 : (kd == 3) = false := by rw [beq_eq_false_iff_ne]; exact k3
                  by_cases k4 : kd = 4
                  · subst k4
                    go_wp2_with fail
                    refine (dcrash_any HN.out.1.dk kp hgk.2.2.2.2.1 hgk.2.2.2.2.2 (by have := HS.out.2.1; omega)).mono ?_
                    rintro e w5 ⟨⟨v5, rfl⟩, hw5, h5⟩
                    have H5 := Hid.mk (HN.out.2.2 _ _ _ (Went.of_chg hw5) h5)
                    clear hw5 h5
                    go_wp2_with fail
                    go_roundw
                    case rel => exact ⟨j + 1, by omega, by go_num, H5.out⟩
                    case measure => simp [intOf]; omega
                  · have e4 : (kd == 4) = false := by rw [beq_eq_false_iff_ne]; exact k4
                    have hact : s.act ⟨kd, p, N, kp⟩ = s := by simp [Dp.act, k0, k1, k3, k4]
                    go_wp2_with fail
                    go_roundw
                    case rel => exact ⟨j + 1, by omega, by go_num, HN.out.2.2 _ _ _ (Went.refl _ _ _) (by rw [hact]; exact HN.out.1.dk)⟩
                    case measure => simp [intOf]; omega
          · have : j = 2 := by omega
            subst this
            obtain ⟨M5, R5, M5', R5', hl5, _, _, _⟩ := hmid
            have hl5' : Live2 w wr g M5 R5 (s.act ⟨kd, p, N, kp⟩) g' M5' R5' (s.act ⟨kd, p, N, kp⟩) := by simpa using hl5
            have H5 := Hid.mk hl5'
            clear hl5 hl5'
            go_wp2_with fail
            go_roundw
            case rel => exact ⟨k + 1, s.act ⟨kd, p, N, kp⟩, by omega, by omega, by go_num, M5, R5, M5', R5', H5.out, by rw [act_now HS.out.2.2.1]; exact HS.out.1, Nat.le_trans (act_waits _ _) (by have := HS.out.2.1; omega)⟩
            case measure => simp [intOf]; omega
      · have d30 : decide ((k : Int) < 30) = false := by rw [decide_eq_false_iff_not]; omega
        have HL := Hid.mk hl3
        clear hl3
        go_wp2_with fail
        refine (dcopy_any HL.out.one.dk (by omega)).mono ?_
        rintro e w5 ⟨gc, Mc, rfl, hc5, h5, hlow5⟩
        have L5 := Hid.mk (HL.out.copied hc5 h5 hlow5)
        clear hc5 h5 hlow5
        go_wp2_with fail
        refine (dcrash_any L5.out.2.1.dk keep hk1 hk2 (by omega)).mono ?_
        rintro e w6 ⟨⟨v6, rfl⟩, hc6, h6⟩
        have L6 := Hid.mk (And.intro (L5.out.1.far hc6 (fun k hk => L5.out.2.1.low k (.inl hk)) L5.out.2.2) (L5.out.2.1.step hc6 h6))
        clear hc6 h6
        have kc := fun (W : World) (C : Array Value) (n c : Nat) => Lib.run_convert_bytes_const (P := Try.prog) W 22 5 C n c Try.underlying22 Try.underlying5
        go_wp2_with fail
        have hA : Chg Nil w6 (w6.alloc (.cells #[.int .u8 103, .int .u8 111, .int .u8 110, .int .u8 101] 5 (4, 5))) := (Chg.refl Nil w6).alloc _
        have hrg : RdB (w6.alloc (.cells #[.int .u8 103, .int .u8 111, .int .u8 110, .int .u8 101] 5 (4, 5))) (fun k => k = w6.heap.size) (some ⟨w6.heap.size, 0, none⟩) 4 [103, 111, 110, 101] :=
          RdB.of_cells rfl rfl (fun j u hu => (cell_of_row _ w6.heap.size (0 + j) #[.int .u8 103, .int .u8 111, .int .u8 110, .int .u8 101] 5 (4, 5) (heap_alloc_new w6 _)).trans (by
            match j, hu with
            | 0, hu => simpa [bv] using hu
            | 1, hu => simpa [bv] using hu
            | 2, hu => simpa [bv] using hu
            | 3, hu => simpa [bv] using hu
            | j + 4, hu => simp at hu))
        have hlt6 := L6.out.2.dk.lt
        refine (dwrite_ok (L6.out.2.nil hA).dk 0 _ 4 4 [103, 111, 110, 101] hrg (fun k hk hm => by have := hlt6 k (.inl hm); omega) (by rw [crash_now L5.out.2.1.dk.ok, hn3]; omega) rfl (Nat.zero_le _)).mono ?_
        rintro e w7 ⟨M7, R7, rfl, hw7, _⟩
        have L7 := Hid.mk ((L6.out.1.nil hA).far hw7.chg (fun k hk => L5.out.2.1.low k (.inl hk)) L5.out.2.2)
        clear hA hrg hlt6 hw7 kc
        go_wp2_with fail
        refine (dwaits_any L7.out.one.dk (by omega)).mono ?_
        rintro e w8 ⟨rfl, hc8⟩
        have L8 := Hid.mk (L7.out.nil hc8)
        clear hc8
        go_wp2_with fail
        refine (dwaits_any L8.out.two.dk (by omega)).mono ?_
        rintro e w9 ⟨rfl, hc9⟩
        have L9 := Hid.mk (L8.out.nil hc9)
        clear hc9
        generalize sumW s.waits = q9 at *
        go_wp2_with fail
        refine (dead_any L9.out.one.dk).mono ?_
        rintro e w9' ⟨rfl, rfl⟩
        go_wp2_with fail
        refine (dead_any L9.out.two.dk).mono ?_
        rintro e w9' ⟨rfl, rfl⟩
        generalize s.dead = dd
        go_wp2_with fail
        refine (dcrash_any L9.out.one.dk keep hk1 hk2 (by omega)).mono ?_
        rintro e w10 ⟨⟨v10, rfl⟩, hc10, h10⟩
        have L10 := Hid.mk (L9.out.step hc10 h10)
        clear hc10 h10
        go_wp2_with fail
        refine (dcrash_any L10.out.two.dk keep hk1 hk2 (by omega)).mono ?_
        rintro e w11 ⟨⟨v11, rfl⟩, hc11, h11⟩
        have L11 := Hid.mk (L10.out.step' hc11 h11)
        clear hc11 h11
        have hXl : (s.crash keep).now.length = 200 := by rw [crash_now L9.out.one.dk.ok, hn3]
        have hXd : (s.crash keep).dead = false := rfl
        generalize s.crash keep = X at *
        go_wp2_with fail
        refine (dread_ok L11.out.one.dk 0 200 (by omega) hXd).mono ?_
        rintro e w12 ⟨v12, rfl, o12, hc12⟩
        rw [List.drop_zero, List.take_of_length_le (by omega)] at o12
        obtain ⟨A12, c12, rfl, hx12, hy12⟩ := own_form o12
        have L12 := Hid.mk (L11.out.nil hc12)
        have O12 := Hid.mk o12
        clear o12 hc12
        go_wp2_with fail
        refine (dread_ok L12.out.two.dk 0 200 (by omega) hXd).mono ?_
        rintro e w13 ⟨v13, rfl, o13, hc13⟩
        rw [List.drop_zero, List.take_of_length_le (by omega)] at o13
        obtain ⟨A13, c13, rfl, hx13, hy13⟩ := own_form o13
        have hcv13 := run_bytes_str (P := Try.prog) (c := c13) (Rds.of_own o13 : RdB w13 _ A13 200 X.now) 22 9 5 Try.underlying22 Try.underlying5 Try.underlying9
        have hcv12 := run_bytes_str (P := Try.prog) (c := c12) ((Rds.of_own O12.out : RdB w12 _ A12 200 X.now).keep hc13 (fun _ _ h => h)) 22 9 5 Try.underlying22 Try.underlying5 Try.underlying9
        have L13 := Hid.mk (L12.out.nil hc13)
        clear o13 hc13
        go_wp2_with fail
        refine (awakeD_any _).mono ?_
        rintro e w14 ⟨rfl, hc14⟩
        have L14 := Hid.mk (L13.out.nil hc14)
        clear hc14
        go_wp2_with fail
        go_ret
        exact ⟨rfl, L14.out.one.chg⟩
    · have HL := Hid.mk hl3
      clear hl3
      go_wp2_with fail
      refine (dcopy_any HL.out.one.dk (by omega)).mono ?_
      rintro e w5 ⟨gc, Mc, rfl, hc5, h5, hlow5⟩
      have L5 := Hid.mk (HL.out.copied hc5 h5 hlow5)
      clear hc5 h5 hlow5
      go_wp2_with fail
      refine (dcrash_any L5.out.2.1.dk keep hk1 hk2 (by omega)).mono ?_
      rintro e w6 ⟨⟨v6, rfl⟩, hc6, h6⟩
      have L6 := Hid.mk (And.intro (L5.out.1.far hc6 (fun k hk => L5.out.2.1.low k (.inl hk)) L5.out.2.2) (L5.out.2.1.step hc6 h6))
      clear hc6 h6
      have kc := fun (W : World) (C : Array Value) (n c : Nat) => Lib.run_convert_bytes_const (P := Try.prog) W 22 5 C n c Try.underlying22 Try.underlying5
      go_wp2_with fail
      have hA : Chg Nil w6 (w6.alloc (.cells #[.int .u8 103, .int .u8 111, .int .u8 110, .int .u8 101] 5 (4, 5))) := (Chg.refl Nil w6).alloc _
      have hrg : RdB (w6.alloc (.cells #[.int .u8 103, .int .u8 111, .int .u8 110, .int .u8 101] 5 (4, 5))) (fun k => k = w6.heap.size) (some ⟨w6.heap.size, 0, none⟩) 4 [103, 111, 110, 101] :=
        RdB.of_cells rfl rfl (fun j u hu => (cell_of_row _ w6.heap.size (0 + j) #[.int .u8 103, .int .u8 111, .int .u8 110, .int .u8 101] 5 (4, 5) (heap_alloc_new w6 _)).trans (by
          match j, hu with
          | 0, hu => simpa [bv] using hu
          | 1, hu => simpa [bv] using hu
          | 2, hu => simpa [bv] using hu
          | 3, hu => simpa [bv] using hu
          | j + 4, hu => simp at hu))
      have hlt6 := L6.out.2.dk.lt
      refine (dwrite_ok (L6.out.2.nil hA).dk 0 _ 4 4 [103, 111, 110, 101] hrg (fun k hk hm => by have := hlt6 k (.inl hm); omega) (by rw [crash_now L5.out.2.1.dk.ok, hn3]; omega) rfl (Nat.zero_le _)).mono ?_
      rintro e w7 ⟨M7, R7, rfl, hw7, _⟩
      have L7 := Hid.mk ((L6.out.1.nil hA).far hw7.chg (fun k hk => L5.out.2.1.low k (.inl hk)) L5.out.2.2)
      clear hA hrg hlt6 hw7 kc
      go_wp2_with fail
      refine (dwaits_any L7.out.one.dk (by omega)).mono ?_
      rintro e w8 ⟨rfl, hc8⟩
      have L8 := Hid.mk (L7.out.nil hc8)
      clear hc8
      go_wp2_with fail
      refine (dwaits_any L8.out.two.dk (by omega)).mono ?_
      rintro e w9 ⟨rfl, hc9⟩
      have L9 := Hid.mk (L8.out.nil hc9)
      clear hc9
      generalize sumW s.waits = q9 at *
      go_wp2_with fail
      refine (dead_any L9.out.one.dk).mono ?_
      rintro e w9' ⟨rfl, rfl⟩
      go_wp2_with fail
      refine (dead_any L9.out.two.dk).mono ?_
      rintro e w9' ⟨rfl, rfl⟩
      generalize s.dead = dd
      go_wp2_with fail
      refine (dcrash_any L9.out.one.dk keep hk1 hk2 (by omega)).mono ?_
      rintro e w10 ⟨⟨v10, rfl⟩, hc10, h10⟩
      have L10 := Hid.mk (L9.out.step hc10 h10)
      clear hc10 h10
      go_wp2_with fail
      refine (dcrash_any L10.out.two.dk keep hk1 hk2 (by omega)).mono ?_
      rintro e w11 ⟨⟨v11, rfl⟩, hc11, h11⟩
      have L11 := Hid.mk (L10.out.step' hc11 h11)
      clear hc11 h11
      have hXl : (s.crash keep).now.length = 200 := by rw [crash_now L9.out.one.dk.ok, hn3]
      have hXd : (s.crash keep).dead = false := rfl
      generalize s.crash keep = X at *
      go_wp2_with fail
      refine (dread_ok L11.out.one.dk 0 200 (by omega) hXd).mono ?_
      rintro e w12 ⟨v12, rfl, o12, hc12⟩
      rw [List.drop_zero, List.take_of_length_le (by omega)] at o12
      obtain ⟨A12, c12, rfl, hx12, hy12⟩ := own_form o12
      have L12 := Hid.mk (L11.out.nil hc12)
      have O12 := Hid.mk o12
      clear o12 hc12
      go_wp2_with fail
      refine (dread_ok L12.out.two.dk 0 200 (by omega) hXd).mono ?_
      rintro e w13 ⟨v13, rfl, o13, hc13⟩
      rw [List.drop_zero, List.take_of_length_le (by omega)] at o13
      obtain ⟨A13, c13, rfl, hx13, hy13⟩ := own_form o13
      have hcv13 := run_bytes_str (P := Try.prog) (c := c13) (Rds.of_own o13 : RdB w13 _ A13 200 X.now) 22 9 5 Try.underlying22 Try.underlying5 Try.underlying9
      have hcv12 := run_bytes_str (P := Try.prog) (c := c12) ((Rds.of_own O12.out : RdB w12 _ A12 200 X.now).keep hc13 (fun _ _ h => h)) 22 9 5 Try.underlying22 Try.underlying5 Try.underlying9
      have L13 := Hid.mk (L12.out.nil hc13)
      clear o13 hc13
      go_wp2_with fail
      refine (awakeD_any _).mono ?_
      rintro e w14 ⟨rfl, hc14⟩
      have L14 := Hid.mk (L13.out.nil hc14)
      clear hc14
      go_wp2_with fail
      go_ret
      exact ⟨rfl, L14.out.one.chg⟩
theorem copies_law (A : Option Addr) (n c : Nat) (l : List Qop) (keep : Int) (S : Nat → Prop) (w : World) (hl : l.length = n) (hr : Rds w S 4 A n (l.flatMap Qop.cs)) (hfit : ∀ o ∈ l, o.fit) (hn : n ≤ 9223372036854775807)
    (hk1 : -9223372036854775808 ≤ keep) (hk2 : keep ≤ 9223372036854775807) :
    Calls Try.prog 7 #[.slice A n c, .int .i64 keep] w fun e w' => e = .returned (.bool true) ∧ Below w.heap.size w w' :=
  (copies_walk A n c l keep S w hl hr hfit hn hk1 hk2).mono fun _ _ h => ⟨h.1, h.2.below_nil⟩
end Go.Proofs.Ytbaaoldcecefcaa
