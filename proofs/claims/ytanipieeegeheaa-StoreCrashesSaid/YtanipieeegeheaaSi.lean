/- Joined for this seat from: XSlE. -/
import Derived.Test.YtanipieeegeheaaSh
namespace Go.Proofs.Ytanipieeegeheaa
open Go.RowKit

/-- What Read answers. -/
def SnapIs (B : Nat) (r : Option Sn) (e : Ending) (w' : World) : Prop :=
  match r with
  | some s => ∃ A c, e = .returned (.tuple #[.agg #[.int .u64 (s.gen : Int), .int .u64 (s.u : Int), .slice A s.pts.length c], .bool true, .int .i64 0]) ∧ w'.ownsRow B 30 4 (.slice A s.pts.length c) s.pts.length (s.pts.flatMap Pt.cs)
  | none => e = .returned (.tuple #[.agg #[.int .u64 0, .int .u64 0, .slice none 0 0], .bool false, .int .i64 0])
set_option maxHeartbeats 2000000 in
set_option maxRecDepth 100000 in
theorem sread_no {g : Nat} {M R : Nat → Prop} {d : Dp} {w : World} (h : Dk w g M R d) (p size : Int) (ht : thereB d p size = false) :
    Calls Try.prog 41 #[.pointer (some ⟨g, 0, none⟩), .int .i64 p, .int .i64 size] w fun e w' => e = .returned (.tuple #[.agg #[.int .u64 0, .int .u64 0, .slice none 0 0], .bool false, .int .i64 1]) ∧ Chg Nil w w' := by
  have hT := fun W (hW : Chg Nil w W) => there_any (h.keep_nil hW) p size
  rw [ht] at hT
  have HT := Hid.mk hT
  clear h hT ht
  go_enter Try.func41, Try.ntmps41
  go_wp2_with fail
  refine (HT.out _ ((Chg.refl _ _).alloc _)).mono ?_
  rintro e w2 ⟨rfl, he⟩
  subst he
  go_wp2_with fail
  exact bodyPost_ret (v := .tuple #[.agg #[.int .u64 0, .int .u64 0, .slice none 0 0], .bool false, .int .i64 1]) (by simp [results, Try.results41, go_sem]) rfl ⟨rfl, (Chg.refl _ _).alloc _⟩

set_option maxHeartbeats 2000000 in
set_option maxRecDepth 100000 in
theorem sread_dead {g : Nat} {M R : Nat → Prop} {d : Dp} {w : World} (h : Dk w g M R d) (p size : Nat) (hs : 21 ≤ size) (hp : p + size ≤ d.now.length) (hd : d.dead = true) :
    Calls Try.prog 41 #[.pointer (some ⟨g, 0, none⟩), .int .i64 (p : Int), .int .i64 (size : Int)] w fun e w' => e = .returned (.tuple #[.agg #[.int .u64 0, .int .u64 0, .slice none 0 0], .bool false, .int .i64 9]) ∧ Chg Nil w w' := by
  have hT := fun W (hW : Chg Nil w W) => there_any (h.keep_nil hW) p size
  rw [thereB_nat hs hp] at hT
  have hE := Dp.opE_dead (Dp.fits_nat hp) hd
  have hD := fun W (hW : Chg Nil w W) => dread_no (h.keep_nil hW) p size (by rw [hE]; decide)
  rw [hE] at hD
  have HT := Hid.mk (And.intro hT hD)
  clear h hT hD hE hd
  go_enter Try.func41, Try.ntmps41
  go_wp2_with fail
  refine (HT.out.1 _ ((Chg.refl _ _).alloc _)).mono ?_
  rintro e w2 ⟨rfl, he⟩
  subst he
  go_wp2_with fail
  refine (HT.out.2 _ ((Chg.refl _ _).alloc _)).mono ?_
  rintro e w2 ⟨rfl, c2⟩
  have hb2 := (Bk.new w 78 #[.int .u64 0, .int .u64 0, .slice none 0 0]).keep c2 (fun h => h)
  have x0 := hb2.cell 0 rfl
  have x1 := hb2.cell 1 rfl
  have x2 := hb2.cell 2 rfl
  have f0 := fun j => hb2.free j
  have H2 := Hid.mk (And.intro ((((Chg.refl _ _).alloc _).trans c2 (fun _ _ h => h) : Chg Nil w w2)) hb2)
  clear c2 hb2
  go_wp2_with fail
  have hb3 := ((H2.out.2.set 0 (.int .u64 0)).set 1 (.int .u64 0)).set 2 (.slice none 0 0)
  have z0 := hb3.cell 0 rfl
  have z1 := hb3.cell 1 rfl
  have z2 := hb3.cell 2 rfl
  exact bodyPost_ret (v := .tuple #[.agg #[.int .u64 0, .int .u64 0, .slice none 0 0], .bool false, .int .i64 9]) (by simp [results, Try.results41, go_sem, z0, z1, z2]) rfl ⟨rfl, ((H2.out.1.setCell (fun h => absurd h (Nat.lt_irrefl _)) _).setCell (fun h => absurd h (Nat.lt_irrefl _)) _).setCell (fun h => absurd h (Nat.lt_irrefl _)) _⟩

def parseL (g u : Nat) (r : Option (List Pt)) : Option Sn := r.bind fun l => if Sn.ok ⟨g, u, l⟩ then some ⟨g, u, l⟩ else none
theorem parse_eq (x : List UInt8) : parseS x = if (x.length - 20) / 16 < unB ((x.drop 16).take 4) then none else parseL (unB (x.take 8)) (unB ((x.drop 8).take 8)) (readP ((x.drop 20).take (16 * unB ((x.drop 16).take 4)))) := by
  unfold parseS parseL
  cases readP ((x.drop 20).take (16 * unB ((x.drop 16).take 4))) <;> rfl
theorem win_len {l : List UInt8} {p n : Nat} (h : p + n ≤ l.length) : (winS l p n).length = n := by unfold winS; rw [List.length_take, List.length_drop]; omega
set_option maxHeartbeats 4000000 in
set_option maxRecDepth 100000 in
theorem sread_ok {g : Nat} {M R : Nat → Prop} {d : Dp} {w : World} (h : Dk w g M R d) (p size : Nat) (hs : 21 ≤ size) (hp : p + size ≤ d.now.length) (hd : d.dead = false) :
    Calls Try.prog 41 #[.pointer (some ⟨g, 0, none⟩), .int .i64 (p : Int), .int .i64 (size : Int)] w fun e w' => SnapIs w.heap.size (readS (winS d.now p size)) e w' ∧ Chg Nil w w' := by
  have hT := fun W (hW : Chg Nil w W) => there_any (h.keep_nil hW) p size
  rw [thereB_nat hs hp] at hT
  have hD := fun W (hW : Chg Nil w W) => dread_ok (h.keep_nil hW) p size hp hd
  have hmost := h.ok.most
  have hwl := win_len hp
  have hwin : (d.now.drop p).take size = winS d.now p size := rfl
  rw [hwin] at hD
  generalize winS d.now p size = b at *
  obtain ⟨c0, x, hbx⟩ : ∃ c0 x, b = c0 :: x := by
    cases b with
    | nil => simp at hwl; omega
    | cons c x => exact ⟨c, x, rfl⟩
  subst hbx
  have hxl : x.length = size - 1 := by simp at hwl; omega
  have hre : readS (c0 :: x) = if c0 = 197 then parseS x else none := by
    unfold readS
    by_cases hc : c0 = 197
    · rw [if_pos hc, if_pos (by rw [hc]; rfl)]; rfl
    · rw [if_neg hc, if_neg (by intro h; injection h with h; exact hc h)]
  rw [hre]
  have b8a := unB_lt64 (x.take 8) (by rw [List.length_take]; omega)
  have b8b := unB_lt64 ((x.drop 8).take 8) (by rw [List.length_take]; omega)
  have b4 := unB4 (x.drop 16)
  have HT := Hid.mk (And.intro hT (And.intro hD hxl))
  have hsz : size ≤ 1000000 := by omega
  clear h hT hD hd hwl hwin hre
  rw [parse_eq, HT.out.2.2]
  generalize hg1 : unB (x.take 8) = N1 at *
  generalize hg2 : unB ((x.drop 8).take 8) = N2 at *
  generalize hg3 : unB ((x.drop 16).take 4) = N3 at *
  have hdd1 : (x.drop 8).drop 8 = x.drop 16 := by rw [List.drop_drop]
  have hdd2 : (x.drop 16).drop 4 = x.drop 20 := by rw [List.drop_drop]
  have HG := Hid.mk (And.intro hg1 (And.intro hg2 (And.intro hg3 (And.intro hdd1 hdd2))))
  clear hg1 hg2 hg3 hdd1 hdd2 hxl
  generalize hres : (if c0 = 197 then (if (size - 1 - 20) / 16 < N3 then none else parseL N1 N2 (readP ((x.drop 20).take (16 * N3)))) else none) = res
  have HR := Hid.mk hres
  clear hres
  go_enter Try.func41, Try.ntmps41
  go_wp2_with fail
  refine (HT.out.1 _ ((Chg.refl _ _).alloc _)).mono ?_
  rintro e w2 ⟨rfl, he⟩
  subst he
  go_wp2_with fail
  refine (HT.out.2.1 _ ((Chg.refl _ _).alloc _)).mono ?_
  rintro e w2 ⟨v2, rfl, o2, c2⟩
  obtain ⟨g2, k2, rfl, hg2, hlt2⟩ := o2.form (by omega)
  obtain ⟨hk2, hm2⟩ : size ≤ k2 ∧ k2 ≤ maxLen := by
    obtain ⟨_, _, he, h1, h2⟩ := own_form o2
    injection he with _ _ he
    subst he
    exact ⟨h1, h2⟩
  unfold maxLen at hm2
  rw [World.size_alloc] at hg2
  have hb2 := (Bk.new w 78 #[.int .u64 0, .int .u64 0, .slice none 0 0]).keep c2 (fun h => h)
  have hc20 : w2.cell? ⟨g2, 0, none⟩ = some (.int .u8 (c0.toNat : Int)) := o2.cells (g := g2) rfl 0 _ rfl
  have hs2 : w.heap.size + 1 ≤ w2.heap.size := by have := c2.size; simpa using this
  have H2 := Hid.mk (And.intro ((((Chg.refl _ _).alloc _).trans c2 (fun _ _ h => h) : Chg Nil w w2)) (And.intro hb2 (And.intro (show RdB w2 (· = g2) (some ⟨g2, 0, none⟩) size (c0 :: x) from (Rds.of_own o2).wider (fun k _ hk => own_at hk) (by omega)) hc20)))
  clear c2 hb2 o2 hc20
  go_wp2_with fail
  have hA3 : Chg Nil w2 (w2.alloc (.cells #[.slice (some ⟨g2, 1, none⟩) (size - 1) (k2 - 1), .bool false] 104)) := (Chg.refl _ _).alloc _
  have hx3 : RdB w2 (· = g2) (some ⟨g2, 1, none⟩) (size - 1) x := by
    have h := H2.out.2.2.1.part (c := False) (k := 1) (m := size) (by omega) (Nat.le_refl _) (fun _ h => h)
    simpa [Addr.add, List.take_of_length_le (show x.length ≤ size - 1 by have := HT.out.2.2; omega)] using h
  refine (take_any w2.heap.size (some ⟨g2, 1, none⟩) (k2 - 1) (size - 1) x false (· = g2) 8 _ (Bk.new w2 _ _) (hx3.keep hA3 (fun _ _ h => h)) (by omega) (by omega) (by omega) (by omega) (by omega) (by unfold maxLen; omega)).mono ?_
  rintro e w3 ⟨rfl, c3, A3, bk3, rd3⟩
  rw [HG.out.1]
  have H3 := Hid.mk (And.intro (hA3.trans c3 (fun k hk h => by omega)) (And.intro bk3 rd3))
  clear hA3 hx3 c3 bk3 rd3
  go_wp2_with fail
  refine (take_any w2.heap.size A3 (k2 - 1 - 8) (size - 1 - 8) (x.drop 8) false (· = g2) 8 w3 H3.out.2.1 H3.out.2.2 (by omega) (by omega) (by omega) (by omega) (by omega) (by unfold maxLen; omega)).mono ?_
  rintro e w4 ⟨rfl, c4, A4, bk4, rd4⟩
  rw [HG.out.2.1]
  have hs4 : w2.heap.size < w4.heap.size := by have := H3.out.2.1.lt; have := c4.size; omega
  have H4 := Hid.mk (And.intro (H3.out.1.trans c4 (fun k hk h => by omega)) (And.intro bk4 rd4))
  clear c4 bk4 rd4
  go_wp2_with fail
  have hA5 : Chg Nil w4 (w4.alloc (.cells #[.int .u64 (N1 : Int), .int .u64 (N2 : Int), .slice none 0 0] 78)) := (Chg.refl _ _).alloc _
  refine (take_any w2.heap.size A4 (k2 - 1 - 8 - 8) (size - 1 - 8 - 8) ((x.drop 8).drop 8) false (· = g2) 4 _ (H4.out.2.1.alloc _) (H4.out.2.2.keep hA5 (fun _ _ h => h)) (by omega) (by omega) (by omega) (by omega) (by omega) (by unfold maxLen; omega)).mono ?_
  rintro e w5 ⟨rfl, c5, A5, bk5, rd5⟩
  rw [HG.out.2.2.2.1] at rd5 ⊢
  rw [HG.out.2.2.1]
  rw [HG.out.2.2.2.2] at rd5
  have hbs5 : Bk w5 w4.heap.size 78 #[.int .u64 (N1 : Int), .int .u64 (N2 : Int), .slice none 0 0] := (Bk.new w4 _ _).keep c5 (by omega)
  have hch5 : Chg Nil w w5 := ((H2.out.1.trans H4.out.1 (fun k hk h => h)).trans hA5 (fun _ _ h => h)).trans c5 (fun k hk h => by have := H2.out.1.size; omega)
  have hc50 : w5.cell? ⟨g2, 0, none⟩ = some (.int .u8 (c0.toNat : Int)) := c5.cell (hA5.cell (H4.out.1.cell H2.out.2.2.2 (fun h => h)) (fun h => h)) (by show ¬ g2 = w2.heap.size; omega)
  have hb5 : Bk w5 w.heap.size 78 #[.int .u64 0, .int .u64 0, .slice none 0 0] := c5.block (hA5.block (H4.out.1.block H2.out.2.1 (fun h => h)) (fun h => h)) (by omega)
  have hsz5 : w4.heap.size < w5.heap.size := hbs5.lt
  have hN3 : (if (size - 1 - 20) / 16 < N3 then none else parseL N1 N2 (readP ((x.drop 20).take (16 * N3)))) = if (size - 1 - 8 - 8 - 4) / 16 < N3 then none else parseL N1 N2 (readP ((x.drop 20).take (16 * N3))) := by
    rw [show size - 1 - 8 - 8 - 4 = size - 1 - 20 by omega]
  have hR5 := HR.out
  rw [hN3] at hR5
  have hm5 : size - 1 - 8 - 8 - 4 ≤ k2 - 1 - 8 - 8 - 4 := by omega
  have hm6 : k2 - 1 - 8 - 8 - 4 ≤ maxLen := by unfold maxLen; omega
  have hm7 : size - 1 - 8 - 8 - 4 ≤ 1000000 := by omega
  clear hN3
  generalize size - 1 - 8 - 8 - 4 = m at *
  generalize k2 - 1 - 8 - 8 - 4 = mk at *
  have y0 : w5.cell? ⟨w2.heap.size, 0, none⟩ = some (.slice A5 m mk) := bk5.cell 0 rfl
  have y1 : w5.cell? ⟨w2.heap.size, 1, none⟩ = some (.bool false) := bk5.cell 1 rfl
  have x0 : w5.cell? ⟨w.heap.size, 0, none⟩ = some (.int .u64 0) := hb5.cell 0 rfl
  have x1 : w5.cell? ⟨w.heap.size, 1, none⟩ = some (.int .u64 0) := hb5.cell 1 rfl
  have x2 : w5.cell? ⟨w.heap.size, 2, none⟩ = some (.slice none 0 0) := hb5.cell 2 rfl
  have f0 := fun j => hb5.free j
  have H5 := Hid.mk (And.intro hch5 (And.intro bk5 (And.intro rd5 (And.intro hbs5 (And.intro hb5 (And.intro hR5 hm6))))))
  clear c5 bk5 rd5 hA5 hch5 hbs5 hb5 hR5 hm6
  by_cases hc0 : c0 = 197
  · subst hc0
    by_cases hq : m / 16 < N3
    · have hqd : decide ((m : Int) / 16 < (N3 : Int)) = true := decide_eq_true (by omega)
      have hnone := H5.out.2.2.2.2.2.1
      rw [if_pos rfl, if_pos hq] at hnone
      have HN := Hid.mk hnone
      clear hnone
      go_wp2_with fail
      have hb6 := ((H5.out.2.2.2.2.1.set 0 (.int .u64 0)).set 1 (.int .u64 0)).set 2 (.slice none 0 0)
      have z0 := hb6.cell 0 rfl
      have z1 := hb6.cell 1 rfl
      have z2 := hb6.cell 2 rfl
      exact bodyPost_ret (v := .tuple #[.agg #[.int .u64 0, .int .u64 0, .slice none 0 0], .bool false, .int .i64 0]) (by simp [results, Try.results41, go_sem, z0, z1, z2]) rfl ⟨by rw [← HN.out]; rfl, ((H5.out.1.setCell (fun h => absurd h (Nat.lt_irrefl _)) _).setCell (fun h => absurd h (Nat.lt_irrefl _)) _).setCell (fun h => absurd h (Nat.lt_irrefl _)) _⟩
    · have hqd : decide ((m : Int) / 16 < (N3 : Int)) = false := decide_eq_false (by omega)
      have hres := H5.out.2.2.2.2.2.1
      rw [if_pos rfl, if_neg hq, Nat.mul_comm] at hres
      have HRes := Hid.mk hres
      clear hres
      go_wp2_with fail
      have hm16 : N3 * 16 ≤ m := by omega
      have hres := HRes.out
      have hP := readpts_any A5 mk (N3 * 16) ((x.drop 20).take (N3 * 16)) (· = g2) w5 (H5.out.2.2.1.front hm16) (by omega) H5.out.2.2.2.2.2.2
      generalize readP ((x.drop 20).take (N3 * 16)) = rp at *
      have HP := Hid.mk (And.intro hP hres)
      clear hP hres x0 x1 x2 f0 y0 y1
      refine HP.out.1.mono ?_
      rintro e w6 ⟨hpi, c6⟩
      have hch6 := H5.out.1.trans c6 (fun _ _ h => h)
      have hbs6 := H5.out.2.2.2.1.keep c6 (fun h => h)
      have hb6 := H5.out.2.2.2.2.1.keep c6 (fun h => h)
      have x0 : w6.cell? ⟨w.heap.size, 0, none⟩ = some (.int .u64 0) := hb6.cell 0 rfl
      have x1 : w6.cell? ⟨w.heap.size, 1, none⟩ = some (.int .u64 0) := hb6.cell 1 rfl
      have x2 : w6.cell? ⟨w.heap.size, 2, none⟩ = some (.slice none 0 0) := hb6.cell 2 rfl
      have f0 := fun j => hb6.free j
      have q0 : w6.cell? ⟨w4.heap.size, 0, none⟩ = some (.int .u64 N1) := hbs6.cell 0 rfl
      have q1 : w6.cell? ⟨w4.heap.size, 1, none⟩ = some (.int .u64 N2) := hbs6.cell 1 rfl
      have q2 : w6.cell? ⟨w4.heap.size, 2, none⟩ = some (.slice none 0 0) := hbs6.cell 2 rfl
      have p0 := fun j => hbs6.free j
      have hne : w.heap.size < w4.heap.size := by omega
      have hlt6 : w4.heap.size < w6.heap.size := hbs6.lt
      have H6 := Hid.mk (And.intro hch6 (And.intro hbs6 hb6))
      clear c6 hch6 hbs6 hb6
      cases rp with
      | none =>
        obtain rfl : e = _ := hpi
        go_wp2_with fail
        have hnone : none = res := HP.out.2
        have HN := Hid.mk hnone
        clear hnone
        cases hok : Sn.ok ⟨N1, N2, []⟩ with
        | true =>
          have HB := Hid.mk (fun W => sbytes_ok N1 N2 none 0 0 [] (fun _ => False) W Rds.nil hok)
          clear hok
          refine (HB.out _).mono ?_
          rintro e w7 ⟨v7, rfl, c7, o7⟩
          clear o7 x0 x1 x2 f0 q0 q1 q2 p0
          have hb7 := (H6.out.2.2.far (p := ⟨w4.heap.size, 2, none⟩) (by show w.heap.size ≠ w4.heap.size; omega) (.slice none 0 0)).keep c7 (fun h => h)
          have hbs7 : Bk w7 w4.heap.size 78 #[.int .u64 N1, .int .u64 N2, .slice none 0 0] := (H6.out.2.1.set 2 (.slice none 0 0)).keep c7 (fun h => h)
          have hch7 : Chg Nil w w7 := (H6.out.1.setCell (p := ⟨w4.heap.size, 2, none⟩) (fun h => absurd (show w4.heap.size < w.heap.size from h) (by omega)) (.slice none 0 0)).trans c7 (fun _ _ h => h)
          have x0 : w7.cell? ⟨w.heap.size, 0, none⟩ = some (.int .u64 0) := hb7.cell 0 rfl
          have x1 : w7.cell? ⟨w.heap.size, 1, none⟩ = some (.int .u64 0) := hb7.cell 1 rfl
          have x2 : w7.cell? ⟨w.heap.size, 2, none⟩ = some (.slice none 0 0) := hb7.cell 2 rfl
          have f0 := fun j => hb7.free j
          have q0 : w7.cell? ⟨w4.heap.size, 0, none⟩ = some (.int .u64 N1) := hbs7.cell 0 rfl
          have q1 : w7.cell? ⟨w4.heap.size, 1, none⟩ = some (.int .u64 N2) := hbs7.cell 1 rfl
          have q2 : w7.cell? ⟨w4.heap.size, 2, none⟩ = some (.slice none 0 0) := hbs7.cell 2 rfl
          have H7 := Hid.mk (And.intro hch7 (And.intro hbs7 hb7))
          clear c7 hch7 hbs7 hb7
          go_wp2_with fail
          have hb8 := ((H7.out.2.2.set 0 (.int .u64 0)).set 1 (.int .u64 0)).set 2 (.slice none 0 0)
          have z0 := hb8.cell 0 rfl
          have z1 := hb8.cell 1 rfl
          have z2 := hb8.cell 2 rfl
          exact bodyPost_ret (v := .tuple #[.agg #[.int .u64 0, .int .u64 0, .slice none 0 0], .bool false, .int .i64 0]) (by simp [results, Try.results41, go_sem, z0, z1, z2]) rfl ⟨by rw [← HN.out]; rfl, ((H7.out.1.setCell (fun h => absurd h (Nat.lt_irrefl _)) _).setCell (fun h => absurd h (Nat.lt_irrefl _)) _).setCell (fun h => absurd h (Nat.lt_irrefl _)) _⟩
        | false =>
          have HB := Hid.mk (fun W => sbytes_no N1 N2 none 0 0 [] (fun _ => False) W Rds.nil (by omega) hok)
          clear hok
          refine (HB.out _).mono ?_
          rintro e w7 ⟨rfl, c7⟩
          clear x0 x1 x2 f0 q0 q1 q2 p0
          have hb7 := (H6.out.2.2.far (p := ⟨w4.heap.size, 2, none⟩) (by show w.heap.size ≠ w4.heap.size; omega) (.slice none 0 0)).keep c7 (fun h => h)
          have hbs7 : Bk w7 w4.heap.size 78 #[.int .u64 N1, .int .u64 N2, .slice none 0 0] := (H6.out.2.1.set 2 (.slice none 0 0)).keep c7 (fun h => h)
          have hch7 : Chg Nil w w7 := (H6.out.1.setCell (p := ⟨w4.heap.size, 2, none⟩) (fun h => absurd (show w4.heap.size < w.heap.size from h) (by omega)) (.slice none 0 0)).trans c7 (fun _ _ h => h)
          have x0 : w7.cell? ⟨w.heap.size, 0, none⟩ = some (.int .u64 0) := hb7.cell 0 rfl
          have x1 : w7.cell? ⟨w.heap.size, 1, none⟩ = some (.int .u64 0) := hb7.cell 1 rfl
          have x2 : w7.cell? ⟨w.heap.size, 2, none⟩ = some (.slice none 0 0) := hb7.cell 2 rfl
          have f0 := fun j => hb7.free j
          have q0 : w7.cell? ⟨w4.heap.size, 0, none⟩ = some (.int .u64 N1) := hbs7.cell 0 rfl
          have q1 : w7.cell? ⟨w4.heap.size, 1, none⟩ = some (.int .u64 N2) := hbs7.cell 1 rfl
          have q2 : w7.cell? ⟨w4.heap.size, 2, none⟩ = some (.slice none 0 0) := hbs7.cell 2 rfl
          have H7 := Hid.mk (And.intro hch7 (And.intro hbs7 hb7))
          clear c7 hch7 hbs7 hb7
          go_wp2_with fail
          have hb8 := ((H7.out.2.2.set 0 (.int .u64 0)).set 1 (.int .u64 0)).set 2 (.slice none 0 0)
          have z0 := hb8.cell 0 rfl
          have z1 := hb8.cell 1 rfl
          have z2 := hb8.cell 2 rfl
          exact bodyPost_ret (v := .tuple #[.agg #[.int .u64 0, .int .u64 0, .slice none 0 0], .bool false, .int .i64 0]) (by simp [results, Try.results41, go_sem, z0, z1, z2]) rfl ⟨by rw [← HN.out]; rfl, ((H7.out.1.setCell (fun h => absurd h (Nat.lt_irrefl _)) _).setCell (fun h => absurd h (Nat.lt_irrefl _)) _).setCell (fun h => absurd h (Nat.lt_irrefl _)) _⟩
      | some l =>
        obtain ⟨v6, rfl, o6⟩ := hpi
        obtain ⟨A6, k6, rfl, hk6, hm6⟩ := own_form o6
        unfold maxLen at hm6
        have O6 := Hid.mk o6
        clear o6
        go_wp2_with fail
        have hsome : (if Sn.ok ⟨N1, N2, l⟩ then some ⟨N1, N2, l⟩ else none) = res := HP.out.2
        have hset : Chg (· = w4.heap.size) w6 (w6.setCell ⟨w4.heap.size, 2, none⟩ (.slice A6 l.length k6)) := (Chg.refl (· = w4.heap.size) w6).setCell (p := ⟨w4.heap.size, 2, none⟩) (fun _ => rfl) (.slice A6 l.length k6)
        have o6' := own_keep O6.out hset (fun k hk h => by have h5 := own_ge O6.out k hk; omega)
        have hR6 : RdP _ _ A6 l.length l := Rds.of_own o6'
        cases hok : Sn.ok ⟨N1, N2, l⟩ with
        | true =>
          rw [hok, if_pos rfl] at hsome
          have HN := Hid.mk hsome
          have HB := Hid.mk (sbytes_ok N1 N2 A6 l.length k6 l _ _ hR6 hok)
          have O7 := Hid.mk o6'
          clear hok hsome hR6 hset o6'
          refine HB.out.mono ?_
          rintro e w7 ⟨v7, rfl, c7, o7⟩
          have O8 := Hid.mk (own_keep O7.out c7 (fun _ _ h => h))
          clear o7 x0 x1 x2 f0 q0 q1 q2 p0
          have hb7 := (H6.out.2.2.far (p := ⟨w4.heap.size, 2, none⟩) (by show w.heap.size ≠ w4.heap.size; omega) (.slice A6 l.length k6)).keep c7 (fun h => h)
          have hbs7 : Bk w7 w4.heap.size 78 #[.int .u64 N1, .int .u64 N2, .slice A6 l.length k6] := (H6.out.2.1.set 2 (.slice A6 l.length k6)).keep c7 (fun h => h)
          have hch7 : Chg Nil w w7 := (H6.out.1.setCell (p := ⟨w4.heap.size, 2, none⟩) (fun h => absurd (show w4.heap.size < w.heap.size from h) (by omega)) (.slice A6 l.length k6)).trans c7 (fun _ _ h => h)
          have x0 : w7.cell? ⟨w.heap.size, 0, none⟩ = some (.int .u64 0) := hb7.cell 0 rfl
          have x1 : w7.cell? ⟨w.heap.size, 1, none⟩ = some (.int .u64 0) := hb7.cell 1 rfl
          have x2 : w7.cell? ⟨w.heap.size, 2, none⟩ = some (.slice none 0 0) := hb7.cell 2 rfl
          have f0 := fun j => hb7.free j
          have q0 : w7.cell? ⟨w4.heap.size, 0, none⟩ = some (.int .u64 N1) := hbs7.cell 0 rfl
          have q1 : w7.cell? ⟨w4.heap.size, 1, none⟩ = some (.int .u64 N2) := hbs7.cell 1 rfl
          have q2 : w7.cell? ⟨w4.heap.size, 2, none⟩ = some (.slice A6 l.length k6) := hbs7.cell 2 rfl
          have H7 := Hid.mk (And.intro hch7 (And.intro hbs7 hb7))
          clear c7 hch7 hbs7 hb7
          go_wp2_with fail
          have hb8 := ((H7.out.2.2.set 0 (.int .u64 N1)).set 1 (.int .u64 N2)).set 2 (.slice A6 l.length k6)
          have z0 := hb8.cell 0 rfl
          have z1 := hb8.cell 1 rfl
          have z2 := hb8.cell 2 rfl
          exact bodyPost_ret (v := .tuple #[.agg #[.int .u64 N1, .int .u64 N2, .slice A6 l.length k6], .bool true, .int .i64 0]) (by simp [results, Try.results41, go_sem, z0, z1, z2]) rfl ⟨by rw [← HN.out]; exact ⟨_, _, rfl, own_base (own_keep O8.out ((((Chg.refl (· = w.heap.size) w7).setCell (p := ⟨w.heap.size, 0, none⟩) (fun _ => rfl) (.int .u64 N1)).setCell (p := ⟨w.heap.size, 1, none⟩) (fun _ => rfl) (.int .u64 N2)).setCell (p := ⟨w.heap.size, 2, none⟩) (fun _ => rfl) (.slice A6 l.length k6)) (fun k hk h => by have h5 := own_ge O6.out k hk; omega)) (fun k hk => by have h5 := own_ge O6.out k hk; omega)⟩, ((H7.out.1.setCell (fun h => absurd h (Nat.lt_irrefl _)) _).setCell (fun h => absurd h (Nat.lt_irrefl _)) _).setCell (fun h => absurd h (Nat.lt_irrefl _)) _⟩
        | false =>
          rw [hok, if_neg (by decide)] at hsome
          have HN := Hid.mk hsome
          have HB := Hid.mk (sbytes_no N1 N2 A6 l.length k6 l _ _ hR6 (by omega) hok)
          clear hok hsome hR6 hset o6'
          refine HB.out.mono ?_
          rintro e w7 ⟨rfl, c7⟩
          clear x0 x1 x2 f0 q0 q1 q2 p0
          have hb7 := (H6.out.2.2.far (p := ⟨w4.heap.size, 2, none⟩) (by show w.heap.size ≠ w4.heap.size; omega) (.slice A6 l.length k6)).keep c7 (fun h => h)
          have hbs7 : Bk w7 w4.heap.size 78 #[.int .u64 N1, .int .u64 N2, .slice A6 l.length k6] := (H6.out.2.1.set 2 (.slice A6 l.length k6)).keep c7 (fun h => h)
          have hch7 : Chg Nil w w7 := (H6.out.1.setCell (p := ⟨w4.heap.size, 2, none⟩) (fun h => absurd (show w4.heap.size < w.heap.size from h) (by omega)) (.slice A6 l.length k6)).trans c7 (fun _ _ h => h)
          have x0 : w7.cell? ⟨w.heap.size, 0, none⟩ = some (.int .u64 0) := hb7.cell 0 rfl
          have x1 : w7.cell? ⟨w.heap.size, 1, none⟩ = some (.int .u64 0) := hb7.cell 1 rfl
          have x2 : w7.cell? ⟨w.heap.size, 2, none⟩ = some (.slice none 0 0) := hb7.cell 2 rfl
          have f0 := fun j => hb7.free j
          have q0 : w7.cell? ⟨w4.heap.size, 0, none⟩ = some (.int .u64 N1) := hbs7.cell 0 rfl
          have q1 : w7.cell? ⟨w4.heap.size, 1, none⟩ = some (.int .u64 N2) := hbs7.cell 1 rfl
          have q2 : w7.cell? ⟨w4.heap.size, 2, none⟩ = some (.slice A6 l.length k6) := hbs7.cell 2 rfl
          have H7 := Hid.mk (And.intro hch7 (And.intro hbs7 hb7))
          clear c7 hch7 hbs7 hb7
          go_wp2_with fail
          have hb8 := ((H7.out.2.2.set 0 (.int .u64 0)).set 1 (.int .u64 0)).set 2 (.slice none 0 0)
          have z0 := hb8.cell 0 rfl
          have z1 := hb8.cell 1 rfl
          have z2 := hb8.cell 2 rfl
          exact bodyPost_ret (v := .tuple #[.agg #[.int .u64 0, .int .u64 0, .slice none 0 0], .bool false, .int .i64 0]) (by simp [results, Try.results41, go_sem, z0, z1, z2]) rfl ⟨by rw [← HN.out]; rfl, ((H7.out.1.setCell (fun h => absurd h (Nat.lt_irrefl _)) _).setCell (fun h => absurd h (Nat.lt_irrefl _)) _).setCell (fun h => absurd h (Nat.lt_irrefl _)) _⟩
  · have hcb : (((c0.toNat : Nat) : Int) != 197) = true := by
      rw [bne_iff_ne]
      intro h
      exact hc0 (UInt8.toNat_inj.1 (show c0.toNat = (197 : UInt8).toNat by have : (197 : UInt8).toNat = 197 := rfl; omega))
    have hnone := H5.out.2.2.2.2.2.1
    rw [if_neg hc0] at hnone
    have H6 := Hid.mk hnone
    clear hnone
    generalize c0.toNat = C0 at *
    clear hc0
    go_wp2_with fail
    have hb6 := ((H5.out.2.2.2.2.1.set 0 (.int .u64 0)).set 1 (.int .u64 0)).set 2 (.slice none 0 0)
    have z0 := hb6.cell 0 rfl
    have z1 := hb6.cell 1 rfl
    have z2 := hb6.cell 2 rfl
    exact bodyPost_ret (v := .tuple #[.agg #[.int .u64 0, .int .u64 0, .slice none 0 0], .bool false, .int .i64 0]) (by simp [results, Try.results41, go_sem, z0, z1, z2]) rfl ⟨by rw [← H6.out]; rfl, ((H5.out.1.setCell (fun h => absurd h (Nat.lt_irrefl _)) _).setCell (fun h => absurd h (Nat.lt_irrefl _)) _).setCell (fun h => absurd h (Nat.lt_irrefl _)) _⟩

end Go.Proofs.Ytanipieeegeheaa
