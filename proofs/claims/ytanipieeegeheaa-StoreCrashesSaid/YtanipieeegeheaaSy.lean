/- Joined for this seat from: XStF. -/
import Derived.Test.YtanipieeegeheaaSx
namespace Go.Proofs.Ytanipieeegeheaa
open Go.RowKit

/-- A store that has just been built on a disk. -/
def freshA (gd slots log : Nat) : Array Value := #[.pointer (some ⟨gd, 0, none⟩), .int .i64 (slots : Int), .int .i64 (log : Int), .int .i64 (-1), .int .u64 1, .int .u64 0, .slice none 0 0, .int .i64 0, .bool false]
/-- What may be opened. -/
def openB (size : Nat) (slots log : Int) : Bool := decide (21 ≤ slots) && decide (0 ≤ log) && decide (2 * slots + log ≤ (size : Int))
section
variable {w : World} {gd : Nat} {M R : Nat → Prop} {d : Dp}
set_option maxHeartbeats 1000000 in
set_option maxRecDepth 100000 in
theorem open_nil (slots log : Int) : Calls Try.prog 13 #[.pointer none, .int .i64 slots, .int .i64 log] w fun e w' => e = .returned (.tuple #[.pointer none, .int .i64 1]) ∧ Chg Nil w w' := by
  go_enter Try.func13, Try.ntmps13
  go_wp2_with fail
  go_ret2
  exact ⟨rfl, Chg.refl _ _⟩
theorem half_le (n : Nat) : (n : Int) / 2 = ((n / 2 : Nat) : Int) := by omega
set_option maxHeartbeats 1000000 in
set_option maxRecDepth 100000 in
theorem open_bad (h : Dk w gd M R d) (slots log : Int) (hs : -9223372036854775808 ≤ slots ∧ slots ≤ 9223372036854775807) (hl : -9223372036854775808 ≤ log ∧ log ≤ 9223372036854775807) (hb : openB d.now.length slots log = false) :
    Calls Try.prog 13 #[.pointer (some ⟨gd, 0, none⟩), .int .i64 slots, .int .i64 log] w fun e w' => e = .returned (.tuple #[.pointer none, .int .i64 1]) ∧ Chg Nil w w' := by
  have hS := size_any h
  have hm := h.ok.most
  clear h
  generalize d.now.length = n at *
  have HS := Hid.mk hS
  clear hS
  by_cases h1 : slots < 21
  · have q1 : decide (slots < 21) = true := decide_eq_true h1
    go_enter Try.func13, Try.ntmps13
    go_wp2_with fail
    go_ret2
    exact ⟨rfl, Chg.refl _ _⟩
  · have q1 : decide (slots < 21) = false := decide_eq_false h1
    by_cases h2 : log < 0
    · have q2 : decide (log < 0) = true := decide_eq_true h2
      go_enter Try.func13, Try.ntmps13
      go_wp2_with fail
      go_ret2
      exact ⟨rfl, Chg.refl _ _⟩
    · have q2 : decide (log < 0) = false := decide_eq_false h2
      by_cases h3 : slots > (n : Int) / 2
      · go_enter Try.func13, Try.ntmps13
        go_wp2_with fail
        refine HS.out.mono ?_
        rintro e w1 ⟨rfl, he⟩
        subst he
        go_wp2_with fail
        all_goals (go_ret2; exact ⟨rfl, Chg.refl _ _⟩)
      · have h4 : (n : Int) - 2 * slots < log := by
          unfold openB at hb
          have e1 : decide (21 ≤ slots) = true := decide_eq_true (by omega)
          have e2 : decide (0 ≤ log) = true := decide_eq_true (by omega)
          rw [e1, e2, Bool.true_and, Bool.true_and] at hb
          have := of_decide_eq_false hb
          omega
        go_enter Try.func13, Try.ntmps13
        go_wp2_with fail
        refine HS.out.mono ?_
        rintro e w1 ⟨rfl, he⟩
        subst he
        go_wp2_with fail
        refine HS.out.mono ?_
        rintro e w1 ⟨rfl, he⟩
        subst he
        go_wp2_with fail
        all_goals (go_ret2; exact ⟨rfl, Chg.refl _ _⟩)
theorem st_new (h : Dk w gd M R d) (slots log : Nat) (hs : 21 ≤ slots) (hr : 2 * slots + log ≤ d.now.length) :
    StAt (w.alloc (.cells (freshA gd slots log) 76)) w.heap.size gd M R (fun k => k < w.heap.size ∧ ¬ (M k ∨ R k)) none 0 (freshS slots log) d :=
  { bk := Bk.new w 76 (freshA gd slots log), dk := h.keep_nil ((Chg.refl _ _).alloc _),
    far := ⟨fun hm => by have := h.lt _ (.inl hm); omega, fun hm => by have := h.lt _ (.inr hm); omega, fun hm => by have := hm.1; omega⟩,
    apart := fun k hk hn => hn.2 hk, kept := ⟨fun _ => False, Rds.nil, fun _ h => h.elim⟩,
    nlt := fun k hk => by rw [World.size_alloc]; have := hk.1; omega,
    ok := { slots := hs, room := hr, used := Nat.zero_le _, gen1 := Nat.le_refl 1, gen2 := by show (1 : Nat) ≤ 4611686018427387904; omega, u := Nat.zero_le _, may := by show mayP [] = 0; decide, from_ := .inl rfl } }
/-- The store behind i of the two slots. -/
def slotI (d : Dp) (slots log : Nat) (i : Nat) : Sp :=
  match i with
  | 0 => freshS slots log
  | 1 => pickP (freshS slots log) 0 (readS (winS d.now 0 slots))
  | _ => slotsS d slots log
theorem slotI_next (d : Dp) (slots log i : Nat) (hi : i < 2) : slotI d slots log (i + 1) = pickP (slotI d slots log i) (i : Int) (readS (winS d.now (i * slots) slots)) := by
  match i with
  | 0 => simp [slotI]
  | 1 => simp [slotI, slotsS]
  | _ + 2 => omega
theorem slotI_used (d : Dp) (slots log i : Nat) : (slotI d slots log i).used = 0 ∧ (slotI d slots log i).slots = slots ∧ (slotI d slots log i).log = log ∧ (slotI d slots log i).u ≤ 4611686018427387904 := by
  have hp : ∀ (σ : Sp) (i : Int) (a : List UInt8), σ.used = 0 ∧ σ.slots = slots ∧ σ.log = log ∧ σ.u ≤ 4611686018427387904 → (pickP σ i (readS a)).used = 0 ∧ (pickP σ i (readS a)).slots = slots ∧ (pickP σ i (readS a)).log = log ∧ (pickP σ i (readS a)).u ≤ 4611686018427387904 := by
    intro σ i a h
    obtain ⟨h1, h2, h3, _⟩ := pickP_same σ i (readS a)
    refine ⟨by rw [h3]; exact h.1, by rw [h1]; exact h.2.1, by rw [h2]; exact h.2.2.1, ?_⟩
    unfold pickP
    split
    · exact h.2.2.2
    · rename_i s hs
      split
      · exact ((Sn.ok_iff s).1 (readS_ok hs)).2.2.1
      · exact h.2.2.2
  have h0 : (freshS slots log).used = 0 ∧ (freshS slots log).slots = slots ∧ (freshS slots log).log = log ∧ (freshS slots log).u ≤ 4611686018427387904 := ⟨rfl, rfl, rfl, Nat.zero_le _⟩
  match i with
  | 0 => exact h0
  | 1 => exact hp _ _ _ h0
  | _ + 2 => exact hp _ _ _ (hp _ _ _ h0)
/-- What Open answers. -/
def OpenIs (w : World) (gd : Nat) (M R : Nat → Prop) (r : Dp × Int) (σ : Sp) (e : Ending) (w' : World) : Prop :=
  ∃ M' R', Went w w' M R M' R' ∧ (r.2 = 0 ∧ (∃ gs, e = .returned (.tuple #[.pointer (some ⟨gs, 0, none⟩), .int .i64 0]) ∧ w.heap.size ≤ gs ∧ St w' gs gd M' R' (fun k => k < w.heap.size ∧ ¬ (M k ∨ R k)) σ r.1) ∨
    r.2 = 9 ∧ e = .returned (.tuple #[.pointer none, .int .i64 9]) ∧ Dk w' gd M' R' r.1)
theorem StAt.picked {gs : Nat} {N : Nat → Prop} {A : Option Addr} {c : Nat} {σ : Sp} (h : StAt w gs gd M R N A c σ d) (s : Sn) (hs : s.ok = true) (i : Nat) (hi : i < 2) {A2 : Option Addr} {k2 : Nat} (hk : Kept w (fun k => (M k ∨ R k) ∨ k = gs ∨ N k) A2 s.pts.length s.pts) :
    Chg (· = gs) w ((((w.setCell ⟨gs, 3, none⟩ (.int .i64 (i : Int))).setCell ⟨gs, 4, none⟩ (.int .u64 (s.gen : Int))).setCell ⟨gs, 5, none⟩ (.int .u64 (s.u : Int))).setCell ⟨gs, 6, none⟩ (.slice A2 s.pts.length k2)) ∧
    StAt ((((w.setCell ⟨gs, 3, none⟩ (.int .i64 (i : Int))).setCell ⟨gs, 4, none⟩ (.int .u64 (s.gen : Int))).setCell ⟨gs, 5, none⟩ (.int .u64 (s.u : Int))).setCell ⟨gs, 6, none⟩ (.slice A2 s.pts.length k2)) gs gd M R N A2 k2 { σ with from_ := i, gen := s.gen, u := s.u, pts := s.pts } d := by
  have hc : Chg (· = gs) w ((((w.setCell ⟨gs, 3, none⟩ (.int .i64 (i : Int))).setCell ⟨gs, 4, none⟩ (.int .u64 (s.gen : Int))).setCell ⟨gs, 5, none⟩ (.int .u64 (s.u : Int))).setCell ⟨gs, 6, none⟩ (.slice A2 s.pts.length k2)) :=
    ((((Chg.refl (· = gs) w).setCell (p := ⟨gs, 3, none⟩) (fun _ => rfl) _).setCell (p := ⟨gs, 4, none⟩) (fun _ => rfl) _).setCell (p := ⟨gs, 5, none⟩) (fun _ => rfl) _).setCell (p := ⟨gs, 6, none⟩) (fun _ => rfl) _
  obtain ⟨s1, s2, s3, s4⟩ := (Sn.ok_iff s).1 hs
  exact ⟨hc, h.wrote hc ((((h.bk.set 3 (.int .i64 (i : Int))).set 4 (.int .u64 (s.gen : Int))).set 5 (.int .u64 (s.u : Int))).set 6 (.slice A2 s.pts.length k2)) hk
    { h.ok with gen1 := s1, gen2 := s2, u := by show s.u ≤ _; omega, may := s4, from_ := by show (i : Int) = -1 ∨ (i : Int) = 0 ∨ (i : Int) = 1; omega }⟩
theorem StAt.drewT {gs : Nat} {N : Nat → Prop} {A : Option Addr} {c : Nat} {σ : Sp} (h : StAt w gs gd M R N A c σ d) : StAt w.drew gs gd M R N A c σ d := h.nil (Chg.refl Nil w).drew
theorem Kept.drewT {T : Nat → Prop} {A : Option Addr} {n : Nat} {l : List Pt} (h : Kept w T A n l) : Kept w.drew T A n l := h.nil (Chg.refl Nil w).drew
theorem chgset {w w' : World} {g : Nat} (h : Chg (· = g) w w') (j : Nat) (v : Value) : Chg (· = g) w (w'.setCell ⟨g, j, none⟩ v) := h.setCell (p := ⟨g, j, none⟩) (fun _ => rfl) v
theorem replay_same (bo : List (List UInt8)) (σ : Sp) : (replayP σ bo).slots = σ.slots ∧ (replayP σ bo).log = σ.log := by
  obtain ⟨a, b, _, h, _⟩ := replay_split bo σ
  have := runB_runs _ _ _ h
  exact ⟨this.slots, this.log⟩
theorem stepW_res (d : Dp) (p : Nat) (ys : List UInt8) : (stepW d p ys).2 = 0 ∨ (stepW d p ys).2 = 9 := by
  unfold stepW
  split
  · exact .inr rfl
  · split
    · exact .inr rfl
    · exact .inl rfl
theorem two_slots {k slots log n : Nat} (hk : k < 2) (h : 2 * slots + log ≤ n) : k * slots + slots ≤ n := by
  match k, hk with
  | 0, _ => omega
  | 1, _ => omega
theorem wrap_small {p : Nat} (h : p ≤ 1000000) : IntKind.i64.wrap (p : Int) = (p : Int) := by rw [IntKind.wrap_i64]; omega
set_option maxHeartbeats 4000000 in
set_option maxRecDepth 100000 in
theorem open_any (h : Dk w gd M R d) (slots log : Nat) (hs : 21 ≤ slots) (hr : 2 * slots + log ≤ d.now.length) (hlong : d.waits.length ≤ 1000000) :
    Calls Try.prog 13 #[.pointer (some ⟨gd, 0, none⟩), .int .i64 (slots : Int), .int .i64 (log : Int)] w fun e w' => OpenIs w gd M R (openD d slots log) (openS d slots log) e w' := by
  have hS := size_any h
  have hm := h.ok.most
  have q1 : decide ((slots : Int) < 21) = false := decide_eq_false (by omega)
  have q2 : decide ((log : Int) < 0) = false := decide_eq_false (by omega)
  have hst := st_new h slots log hs hr
  obtain ⟨n, hn⟩ : ∃ n, n = d.now.length := ⟨_, rfl⟩
  rw [← hn] at hS hm hr
  obtain ⟨gs, hgs⟩ : ∃ gs, gs = w.heap.size := ⟨_, rfl⟩
  rw [← hgs] at hst
  have HS := Hid.mk (And.intro hS (And.intro h (And.intro hst (And.intro hn (And.intro hlong hgs)))))
  clear hS h hst hn hlong
  go_enter Try.func13, Try.ntmps13
  go_wp2_with fail
  refine HS.out.1.mono ?_
  rintro e w1 ⟨rfl, he⟩
  have he' := he.symm
  subst he'
  clear he
  go_wp2_with fail
  refine HS.out.1.mono ?_
  rintro e w1 ⟨rfl, he⟩
  have he' := he.symm
  subst he'
  clear he
  go_wp2_with fail
  have H0 := Hid.mk (And.intro ((Chg.refl Nil w).alloc (.cells (freshA gd slots log) 76)) HS.out.2.2.1)
  unfold freshA at H0
  rw [← hgs]
  generalize w.alloc (.cells #[.pointer (some ⟨gd, 0, none⟩), .int .i64 (slots : Int), .int .i64 (log : Int), .int .i64 (-1), .int .u64 1, .int .u64 0, .slice none 0 0, .int .i64 0, .bool false] 76) = wb at *
  clear hgs
  go_loopw [47] (fun i wr => ∃ k : Nat, k ≤ 2 ∧ i = .int .i64 (k : Int) ∧ Hid ((k ≠ 0 → d.dead = false) ∧ Chg Nil w wr ∧ ∃ A c, StAt wr gs gd M R (fun k => k < gs ∧ ¬ (M k ∨ R k)) A c (slotI d slots log k) d)) (fun i _ => 2 - (intOf i).toNat)
  case atStart => exact ⟨0, by omega, rfl, Hid.mk ⟨fun h => absurd rfl h, H0.out.1, none, 0, H0.out.2⟩⟩
  case round =>
    obtain ⟨k, hk, rfl, HR⟩ := hrel
    obtain ⟨hal, hch, A, c, hst⟩ := HR.out
    by_cases hlt : k < 2
    · obtain ⟨p, hp⟩ : ∃ p, p = k * slots := ⟨_, rfl⟩
      have hpn : p + slots ≤ n := by rw [hp]; exact two_slots hlt hr
      have hpm : (k : Int) * (slots : Int) = (p : Int) := by rw [hp]; exact (Int.natCast_mul k slots).symm
      have hpw : IntKind.i64.wrap (p : Int) = (p : Int) := wrap_small (Nat.le_trans (Nat.le_trans (Nat.le_add_right _ _) hpn) hm)
      cases hdd : d.dead with
      | true =>
        have hD := sread_dead hst.dk p slots hs (by rw [← HS.out.2.2.2.1]; exact hpn) hdd
        have hod : openD d slots log = (d, 9) := by unfold openD; rw [hdd]; rfl
        have HD := Hid.mk (And.intro hD (And.intro hod (And.intro hch hst)))
        clear hD hod hch hst hdd hp hal
        go_wp2_with fail
        refine HD.out.1.mono ?_
        rintro e w2 ⟨rfl, c2⟩
        have H2 := Hid.mk c2
        clear c2
        go_wp2_with fail
        go_ret2
        rw [HD.out.2.1]
        exact ⟨M, R, Went.nil (HD.out.2.2.1.trans (H2.out.alloc _) (fun _ _ h => h)), .inr ⟨rfl, rfl, HD.out.2.2.2.dk.keep_nil (H2.out.alloc _)⟩⟩
      | false =>
        have hD := sread_ok hst.dk p slots hs (by rw [← HS.out.2.2.2.1]; exact hpn) hdd
        have hnx := slotI_next d slots log k hlt
        rw [← hp] at hnx
        cases hre : readS (winS d.now p slots) with
        | none =>
          rw [hre] at hD hnx
          have HD := Hid.mk (And.intro hD (And.intro hnx (And.intro hch hst)))
          clear hD hnx hch hst hdd hp hre hal
          go_wp2_with fail
          refine HD.out.1.mono ?_
          rintro e w2 ⟨he, c2⟩
          subst he
          have H2 := Hid.mk c2
          clear c2
          go_wp2_with fail
          have H3 := Hid.mk ((H2.out).alloc (.cells #[Value.int .u64 0, Value.int .u64 0, Value.slice none 0 0] 78))
          generalize w2.alloc (.cells #[Value.int .u64 0, Value.int .u64 0, Value.slice none 0 0] 78) = w3 at *
          go_quiet (fail)
          go_wp2_with fail
          go_roundw
          case rel => exact ⟨k + 1, by omega, by go_num, Hid.mk ⟨fun _ => trivial, HD.out.2.2.1.trans (H3.out.drewN _) (fun _ _ h => h), A, c, by rw [HD.out.2.1]; exact HD.out.2.2.2.nil (H3.out.drewN _)⟩⟩
          case measure => simp [intOf]; omega
        | some s =>
          rw [hre] at hD hnx
          have hsok := readS_ok hre
          have HD := Hid.mk (And.intro hD (And.intro hnx (And.intro hch (And.intro hst hsok))))
          clear hD hnx hch hst hdd hp hre hsok hal
          go_wp2_with fail
          refine HD.out.1.mono ?_
          rintro e w2 ⟨⟨A2, k2, he, o2⟩, c2⟩
          subst he
          have hke : Kept w2 (fun k => (M k ∨ R k) ∨ k = gs ∨ (k < gs ∧ ¬ (M k ∨ R k))) A2 s.pts.length s.pts := by
            refine ⟨Own (.slice A2 s.pts.length k2), Rds.of_own o2, fun i hi => ⟨own_lt o2 i hi, ?_⟩⟩
            have hge := own_ge o2 i hi
            have hgl := HD.out.2.2.2.1.bk.lt
            rintro (hmr | rfl | hN)
            · have := HD.out.2.2.2.1.dk.lt i hmr; omega
            · omega
            · omega
          have H2 := Hid.mk (And.intro c2 hke)
          clear c2 hke o2
          obtain ⟨L, hL⟩ : ∃ L, L = s.pts.length := ⟨_, rfl⟩
          rw [← hL]
          obtain ⟨G, hG⟩ : ∃ G, G = s.gen := ⟨_, rfl⟩
          rw [← hG]
          obtain ⟨U, hU⟩ : ∃ U, U = s.u := ⟨_, rfl⟩
          rw [← hU]
          have HE := Hid.mk (And.intro hL (And.intro hG hU))
          clear hL hG hU
          go_wp2_with fail
          have H3 := Hid.mk (And.intro ((Chg.refl Nil w2).alloc (.cells #[Value.int .u64 (G : Int), Value.int .u64 (U : Int), Value.slice A2 L k2] 78)) (Bk.new w2 78 #[Value.int .u64 (G : Int), Value.int .u64 (U : Int), Value.slice A2 L k2]))
          obtain ⟨gx, hgx⟩ : ∃ gx, gx = w2.heap.size := ⟨_, rfl⟩
          rw [← hgx] at H3 ⊢
          generalize w2.alloc (.cells #[Value.int .u64 (G : Int), Value.int .u64 (U : Int), Value.slice A2 L k2] 78) = w3 at *
          have HGX := Hid.mk hgx
          clear hgx
          have hx : ∀ W, Chg Nil w3 W → W.cell? ⟨gx, 0, none⟩ = some (.int .u64 (G : Int)) ∧ W.cell? ⟨gx, 1, none⟩ = some (.int .u64 (U : Int)) ∧ W.cell? ⟨gx, 2, none⟩ = some (.slice A2 L k2) := fun W hW => by
            have hb := H3.out.2.keep hW (fun h => h)
            exact ⟨hb.cell 0 rfl, hb.cell 1 rfl, hb.cell 2 rfl⟩
          have hst3 := HD.out.2.2.2.1.nil (H2.out.1.trans H3.out.1 (fun _ _ h => h))
          have hcl : ∀ W, Chg Nil w3 W → W.cell? ⟨gs, 3, none⟩ = some (.int .i64 (slotI d slots log k).from_) ∧ W.cell? ⟨gs, 4, none⟩ = some (.int .u64 ((slotI d slots log k).gen : Int)) ∧
              W.frozen? ⟨gs, 3, none⟩ = false ∧ W.frozen? ⟨gs, 4, none⟩ = false ∧ W.frozen? ⟨gs, 5, none⟩ = false ∧ W.frozen? ⟨gs, 6, none⟩ = false ∧ (∃ v, W.cell? ⟨gs, 5, none⟩ = some v) ∧ (∃ v, W.cell? ⟨gs, 6, none⟩ = some v) := fun W hW => by
            have h := hst3.nil hW
            exact ⟨h.cells.2.2.2.1, h.cells.2.2.2.2.1, h.bk.free 3, h.bk.free 4, h.bk.free 5, h.bk.free 6, ⟨_, h.cells.2.2.2.2.2.1⟩, ⟨_, h.cells.2.2.2.2.2.2.1⟩⟩
          obtain ⟨f, hf⟩ : ∃ f, f = (slotI d slots log k).from_ := ⟨_, rfl⟩
          obtain ⟨gk, hgk⟩ : ∃ gk, gk = (slotI d slots log k).gen := ⟨_, rfl⟩
          rw [← hf, ← hgk] at hcl
          have HF := Hid.mk (And.intro hf (And.intro hgk hst3))
          clear hf hgk hst3
          have x0 := fun nq => (hx (w3.drewN nq) ((Chg.refl Nil w3).drewN nq)).1
          have c3 := fun nq => (hcl (w3.drewN nq) ((Chg.refl Nil w3).drewN nq)).1
          have c4 := fun nq => (hcl (w3.drewN nq) ((Chg.refl Nil w3).drewN nq)).2.1
          have HX := Hid.mk (And.intro hx hcl)
          clear hx hcl
          by_cases hc : f < 0
          · have q : decide (f < 0) = true := decide_eq_true hc
            go_quiet (fail)
            go_wp2_with fail
            have hch : Chg Nil w3 (w3.drewN nq) := (Chg.refl Nil w3).drewN nq
            generalize w3.drewN nq = W at *
            obtain ⟨y0, y1, y2⟩ := HX.out.1 W hch
            obtain ⟨z3, z4, f3, f4, f5, f6, ⟨v5, z5⟩, ⟨v6, z6⟩⟩ := HX.out.2 W hch
            have hcW := H2.out.1.trans (H3.out.1.trans hch (fun _ _ h => h)) (fun _ _ h => h)
            have hkW := H2.out.2.nil (H3.out.1.trans hch (fun _ _ h => h))
            have hgl := HD.out.2.2.2.1.bk.lt
            have hne : gx ≠ gs := by have h1 := HGX.out; have h2 := H2.out.1.size; omega
            have HP := Hid.mk (And.intro hcW (StAt.picked (HD.out.2.2.2.1.nil hcW) s HD.out.2.2.2.2 k hlt (k2 := k2) hkW))
            have hfar : ∀ W', Chg (· = gs) W W' → W'.cell? ⟨gx, 0, none⟩ = some (.int .u64 (G : Int)) ∧ W'.cell? ⟨gx, 1, none⟩ = some (.int .u64 (U : Int)) ∧ W'.cell? ⟨gx, 2, none⟩ = some (.slice A2 L k2) := fun W' h => ⟨h.cell y0 hne, h.cell y1 hne, h.cell y2 hne⟩
            clear hch hcW hkW hgl
            go_region_held3 (fun w' => w'.cell? ⟨gx, 0, none⟩ = some (.int .u64 (G : Int)) ∧ w'.cell? ⟨gx, 1, none⟩ = some (.int .u64 (U : Int)) ∧ w'.cell? ⟨gx, 2, none⟩ = some (.slice A2 L k2)) (first | exact hfar _ (by repeat (first | with_reducible exact Chg.refl _ _ | refine Chg.drew ?_ | refine chgset ?_ _ _)) | go_keep) (fail)
            all_goals go_wp2_with fail
            all_goals go_roundw
            case rel =>
              have hcc : Chg Nil w W := HD.out.2.2.1.trans HP.out.1 (fun _ _ h => h)
              have h2 := HP.out.2.1
              have h3 := HP.out.2.2
              rw [← HE.out.1, ← HE.out.2.1, ← HE.out.2.2] at h2
              have hgs := HS.out.2.2.2.2.2
              refine ⟨k + 1, by omega, by go_num, Hid.mk ⟨fun _ => trivial, (hcc.trans h2 (fun i hi hh => by omega)).drew, A2, k2, StAt.drewT ?_⟩⟩
              rw [HD.out.2.1]
              simp only [pickP]
              rw [if_pos (by rw [← HF.out.1, ← HF.out.2.1, ← HE.out.2.1]; omega)]
              rw [← HE.out.1, ← HE.out.2.1, ← HE.out.2.2] at h3
              rw [← HE.out.2.1, ← HE.out.2.2]
              exact h3
            case measure => simp [intOf]; omega
          · have q : decide (f < 0) = false := decide_eq_false hc
            by_cases hg : gk < G
            · have q2 : decide ((gk : Int) < (G : Int)) = true := decide_eq_true (by omega)
              go_quiet (fail)
              go_wp2_with fail
              have hch : Chg Nil w3 (w3.drewN nq) := (Chg.refl Nil w3).drewN nq
              generalize w3.drewN nq = W at *
              obtain ⟨y0, y1, y2⟩ := HX.out.1 W hch
              obtain ⟨z3, z4, f3, f4, f5, f6, ⟨v5, z5⟩, ⟨v6, z6⟩⟩ := HX.out.2 W hch
              have hcW := H2.out.1.trans (H3.out.1.trans hch (fun _ _ h => h)) (fun _ _ h => h)
              have hkW := H2.out.2.nil (H3.out.1.trans hch (fun _ _ h => h))
              have hgl := HD.out.2.2.2.1.bk.lt
              have hne : gx ≠ gs := by have h1 := HGX.out; have h2 := H2.out.1.size; omega
              have HP := Hid.mk (And.intro hcW (StAt.picked (HD.out.2.2.2.1.nil hcW) s HD.out.2.2.2.2 k hlt (k2 := k2) hkW))
              have hfar : ∀ W', Chg (· = gs) W W' → W'.cell? ⟨gx, 0, none⟩ = some (.int .u64 (G : Int)) ∧ W'.cell? ⟨gx, 1, none⟩ = some (.int .u64 (U : Int)) ∧ W'.cell? ⟨gx, 2, none⟩ = some (.slice A2 L k2) := fun W' h => ⟨h.cell y0 hne, h.cell y1 hne, h.cell y2 hne⟩
              clear hch hcW hkW hgl
              go_region_held3 (fun w' => w'.cell? ⟨gx, 0, none⟩ = some (.int .u64 (G : Int)) ∧ w'.cell? ⟨gx, 1, none⟩ = some (.int .u64 (U : Int)) ∧ w'.cell? ⟨gx, 2, none⟩ = some (.slice A2 L k2)) (first | exact hfar _ (by repeat (first | with_reducible exact Chg.refl _ _ | refine Chg.drew ?_ | refine chgset ?_ _ _)) | go_keep) (fail)
              all_goals go_wp2_with fail
              all_goals go_roundw
              case rel =>
                have hcc : Chg Nil w W := HD.out.2.2.1.trans HP.out.1 (fun _ _ h => h)
                have h2 := HP.out.2.1
                have h3 := HP.out.2.2
                rw [← HE.out.1, ← HE.out.2.1, ← HE.out.2.2] at h2
                have hgs := HS.out.2.2.2.2.2
                refine ⟨k + 1, by omega, by go_num, Hid.mk ⟨fun _ => trivial, (hcc.trans h2 (fun i hi hh => by omega)).drew, A2, k2, StAt.drewT ?_⟩⟩
                rw [HD.out.2.1]
                simp only [pickP]
                rw [if_pos (by rw [← HF.out.1, ← HF.out.2.1, ← HE.out.2.1]; omega)]
                rw [← HE.out.1, ← HE.out.2.1, ← HE.out.2.2] at h3
                rw [← HE.out.2.1, ← HE.out.2.2]
                exact h3
              case measure => simp [intOf]; omega
            · have q2 : decide ((gk : Int) < (G : Int)) = false := decide_eq_false (by omega)
              go_quiet (fail)
              go_wp2_with fail
              go_roundw
              case rel =>
                refine ⟨k + 1, by omega, by go_num, Hid.mk ⟨fun _ => trivial, HD.out.2.2.1.trans (((H2.out.1.trans H3.out.1 (fun _ _ h => h))).drewN _) (fun _ _ h => h), A, c, ?_⟩⟩
                have : slotI d slots log (k + 1) = slotI d slots log k := by
                  rw [HD.out.2.1]; simp only [pickP]; rw [if_neg (by rw [← HF.out.1, ← HF.out.2.1, ← HE.out.2.1]; omega)]
                rw [this]
                exact HF.out.2.2.nil ((Chg.refl Nil w3).drewN _)
              case measure => simp [intOf]; omega
    · obtain rfl : k = 2 := by omega
      have hdd : d.dead = false := hal (by omega)
      have hus := slotI_used d slots log 2
      have hst : StAt wr gs gd M R (fun k => k < gs ∧ ¬ (M k ∨ R k)) A c (slotsS d slots log) d := hst
      have hus : (slotsS d slots log).used = 0 ∧ (slotsS d slots log).slots = slots ∧ (slotsS d slots log).log = log ∧ (slotsS d slots log).u ≤ 4611686018427387904 := hus
      have hc1 := hst.cells.2.1
      rw [hus.2.1] at hc1
      have hat := at_cell hc1 (Nat.le_trans (Nat.le_trans (Nat.le_mul_of_pos_left slots (by decide)) (Nat.le_trans (Nat.le_add_right _ _) hr)) hm)
      obtain ⟨P2, hP2⟩ : ∃ P2, P2 = 2 * slots := ⟨_, rfl⟩
      have hp2 : 2 * (slots : Int) = (P2 : Int) := by rw [hP2]; exact (Int.natCast_mul 2 slots).symm
      rw [hp2] at hat
      have hrd := dread_ok hst.dk P2 log (by rw [hP2, ← HS.out.2.2.2.1]; exact hr) hdd
      have hwin : (d.now.drop P2).take log = winS d.now (2 * slots) log := by rw [hP2]; rfl
      rw [hwin] at hrd
      have hwl : (winS d.now (2 * slots) log).length = log := win_len (by rw [← HS.out.2.2.2.1]; exact hr)
      have hod : openD d slots log = if dirty ((winS d.now (2 * slots) log).drop (openS d slots log).used) then stepW d (2 * slots + (openS d slots log).used) (zeros (log - (openS d slots log).used)) else (d, 0) := by
        unfold openD; rw [hdd]; rfl
      have hos : openS d slots log = replayP (slotsS d slots log) (scanA (slotsS d slots log).gen (winS d.now (2 * slots) log)).1 := rfl
      have hsm := replay_same (scanA (slotsS d slots log).gen (winS d.now (2 * slots) log)).1 (slotsS d slots log)
      rw [← hos, hus.2.1, hus.2.2.1] at hsm
      generalize winS d.now (2 * slots) log = win at *
      have HK := Hid.mk (And.intro hch (And.intro hst (And.intro hus (And.intro hod (And.intro hos (And.intro hsm (And.intro hP2 hwl)))))))
      have HA := Hid.mk (And.intro hat hrd)
      clear hch hst hus hod hos hsm hat hrd hwin hal hdd hwl hP2
      have hlog6 : log ≤ 1000000 := Nat.le_trans (Nat.le_trans (Nat.le_add_left _ _) hr) hm
      go_wp2_with fail
      refine HA.out.1.mono ?_
      rintro e w2 ⟨rfl, he⟩
      have he' := he.symm
      subst he'
      clear he
      go_wp2_with fail
      refine HA.out.2.mono ?_
      rintro e w2 ⟨v2, rfl, o2, c2⟩
      obtain ⟨A2, k2, rfl, hk2, hm2⟩ := own_form o2
      have hrow : RdB w2 (Own (.slice A2 log k2)) A2 log win := Rds.of_own o2
      have hrep := replay_any (HK.out.2.1.nil c2) A2 log k2 win _ hrow hk2 hm2 (by rw [HK.out.2.2.1.1, HK.out.2.2.1.2.2.1]; omega) (by have := HK.out.2.2.1.2.2.2; omega)
      rw [← HK.out.2.2.2.2.1] at hrep
      have H2 := Hid.mk (And.intro c2 (And.intro o2 hrep))
      clear c2 o2 hrow hrep
      go_wp2_with fail
      refine H2.out.2.2.mono ?_
      rintro e w3 ⟨⟨v3, rfl⟩, c3, A3, k3, st3⟩
      have hgl := HK.out.2.1.bk.lt
      have hrow3 : RdB w3 (Own (.slice A2 log k2)) A2 log win := Rds.keep (Rds.of_own H2.out.2.1) c3 (fun i hi hh => by have := own_ge H2.out.2.1 i hi; omega)
      have hu3 := st3.cells.2.2.2.2.2.2.2.1
      have hul : (openS d slots log).used ≤ log := by have := st3.ok.used; rw [HK.out.2.2.2.2.2.1.2] at this; exact this
      obtain ⟨US, hUS⟩ : ∃ US, US = (openS d slots log).used := ⟨_, rfl⟩
      rw [← hUS] at hu3 hul
      obtain ⟨i0, hi, hz0, hz1, hz2⟩ := info_parts Try.infoU8
      have hcut := fun W => run_cut_from (P := Try.prog) 46 5 i0 1 Try.underlying46 hi hz1 A2 log k2 US .i64 hul W
      have hdir := fun W (hW : Chg Nil w3 W) => dirty_any (cutA 1 A2 k2 US) (log - US) (k2 - US) (win.drop US) _ W ((cutA_rdb_all hrow3 hul hk2).keep hW (fun _ _ h => h)) (by omega)
      obtain ⟨dt, hdt⟩ : ∃ dt, dt = dirty (win.drop US) := ⟨_, rfl⟩
      rw [← hdt] at hdir
      have H3 := Hid.mk (And.intro c3 (And.intro st3 (And.intro hUS (And.intro hdt hdir))))
      clear c3 st3 hrow3 hUS hdt hdir hk2 hm2
      go_wp2_with fail
      refine (H3.out.2.2.2.2 _ (Chg.refl _ _)).mono ?_
      rintro e w4 ⟨rfl, c4⟩
      have hgs := HS.out.2.2.2.2.2
      have c34 : Chg Nil w w4 := (((HK.out.1.trans H2.out.1 (fun _ _ h => h)).trans H3.out.1 (fun i hi hh => by omega)).trans c4 (fun _ _ h => h))
      have hst4 := H3.out.2.1.nil c4
      have hu4 := hst4.cells.2.2.2.2.2.2.2.1
      rw [← H3.out.2.2.1] at hu4
      have H4 := Hid.mk (And.intro c34 hst4)
      clear c34 hst4 c4
      cases dt with
      | false =>
        have hod : openD d slots log = (d, 0) := by rw [HK.out.2.2.2.1, ← H3.out.2.2.1, ← H3.out.2.2.2.1]; rfl
        have HO := Hid.mk hod
        clear hod hgs
        go_wp2_with fail
        go_ret2
        rw [HO.out]
        refine ⟨M, R, Went.nil H4.out.1, .inl ⟨rfl, gs, rfl, by rw [HS.out.2.2.2.2.2]; exact Nat.le_refl _, A3, k3, ?_⟩⟩
        rw [← HS.out.2.2.2.2.2]
        exact H4.out.2
      | true =>
        have hod : openD d slots log = stepW d (2 * (openS d slots log).slots + US) (zeros (log - US)) := by rw [HK.out.2.2.2.1, ← H3.out.2.2.1, ← H3.out.2.2.2.1, HK.out.2.2.2.2.2.1.1]; rfl
        have hbl := blank_any H4.out.2 US log hul (by rw [HK.out.2.2.2.2.2.1.2]; exact Nat.le_refl _) HS.out.2.2.2.2.1
        rw [← hod] at hbl
        have HO := Hid.mk hbl
        clear hod hbl hgs
        go_wp2_with fail
        refine HO.out.mono ?_
        rintro e w5 ⟨M5, R5, rfl, ws5, st5⟩
        have hwent : Went w w5 M R M5 R5 := by
          have hg := HS.out.2.2.2.2.2
          refine ⟨(H4.out.1.wider (fun _ _ h => h.elim)).trans ws5.chg (fun i hi hh => hh.elim id (fun h => by omega)), fun i hi => ws5.m i (Nat.lt_of_lt_of_le hi H4.out.1.size), fun i hi => ws5.r i (Nat.lt_of_lt_of_le hi H4.out.1.size)⟩
        have H5 := Hid.mk (And.intro hwent st5)
        clear hwent st5 ws5
        have hres : (openD d slots log).2 = 0 ∨ (openD d slots log).2 = 9 := by
          rw [HK.out.2.2.2.1, ← H3.out.2.2.1, ← H3.out.2.2.2.1]
          show (stepW _ _ _).2 = 0 ∨ (stepW _ _ _).2 = 9
          exact stepW_res _ _ _
        obtain ⟨res, hre⟩ : ∃ res, res = (openD d slots log).2 := ⟨_, rfl⟩
        rw [← hre] at hres ⊢
        have HE := Hid.mk hre
        clear hre
        rcases hres with rfl | rfl
        · go_wp2_with fail
          go_ret2
          refine ⟨M5, R5, H5.out.1, .inl ⟨HE.out.symm, gs, rfl, by rw [HS.out.2.2.2.2.2]; exact Nat.le_refl _, A3, k3, ?_⟩⟩
          rw [← HS.out.2.2.2.2.2]
          exact H5.out.2
        · go_wp2_with fail
          go_ret2
          exact ⟨M5, R5, H5.out.1, .inr ⟨HE.out.symm, rfl, H5.out.2.dk⟩⟩
end

end Go.Proofs.Ytanipieeegeheaa
