/- Joined for this seat from: XPA XPB XPC XPD XPE. -/
import Derived.Test.YtkemmffdiclloaaGreatDoorAa
set_option linter.unusedVariables false
set_option linter.unusedSimpArgs false
namespace Go.Proofs.YtkemmffdiclloaaGreatDoor
def mulZ (a b : Int × Int) : Int × Int := (a.1 * b.1 - a.2 * b.2, a.1 * b.2 + a.2 * b.1 + a.2 * b.2)
def conjZ (a : Int × Int) : Int × Int := (a.1 + a.2, -a.2)
def betaP : Nat → Int × Int
  | 0 => (1, 0)
  | k + 1 => (2 * (betaP k).1 - (betaP k).2, (betaP k).1 + 3 * (betaP k).2)
def powS (k : Nat) : Int := 7 ^ k
def axial (x y : Int) : Int × Int := (45 * x - 26 * y, 52 * y)
/-- Of (0, 0), (0, 1), (1, 0), (1, 1) the nearest to what is left; the first one. -/
def bestZ (a b d : Int) : Int × Int :=
  if d - (a + 2 * b) < 0 then
    if d - (2 * a + b) < d - (a + 2 * b) then (if 3 * d - (2 * a + b) - (a + 2 * b) < d - (2 * a + b) then (1, 1) else (1, 0))
    else (if 3 * d - (2 * a + b) - (a + 2 * b) < d - (a + 2 * b) then (1, 1) else (0, 1))
  else
    if d - (2 * a + b) < 0 then (if 3 * d - (2 * a + b) - (a + 2 * b) < d - (2 * a + b) then (1, 1) else (1, 0))
    else (if 3 * d - (2 * a + b) - (a + 2 * b) < 0 then (1, 1) else (0, 0))
def roundZ (u : Int × Int) (d : Int) : Int × Int :=
  (u.1 / d + (bestZ (u.1 % d) (u.2 % d) d).1, u.2 / d + (bestZ (u.1 % d) (u.2 % d) d).2)
/-- As near to nought as to any unit. -/
def Vor (s t d : Int) : Prop := -d ≤ 2 * s + t ∧ 2 * s + t ≤ d ∧ -d ≤ s + 2 * t ∧ s + 2 * t ≤ d ∧ -d ≤ s - t ∧ s - t ≤ d
theorem best_vor (a b d : Int) (ha : 0 ≤ a) (ha2 : a < d) (hb : 0 ≤ b) (hb2 : b < d) : ∃ i j : Int, bestZ a b d = (i, j) ∧ (i = 0 ∨ i = 1) ∧ (j = 0 ∨ j = 1) ∧ Vor (a - d * i) (b - d * j) d := by
  unfold bestZ Vor
  repeat' split
  all_goals exact ⟨_, _, rfl, by simp, by simp, by omega⟩
theorem round_vor (u : Int × Int) (d : Int) (hd : 0 < d) : Vor (u.1 - d * (roundZ u d).1) (u.2 - d * (roundZ u d).2) d := by
  obtain ⟨i, j, h, _, _, hv⟩ := best_vor (u.1 % d) (u.2 % d) d (Int.emod_nonneg _ (by omega)) (Int.emod_lt_of_pos _ hd) (Int.emod_nonneg _ (by omega)) (Int.emod_lt_of_pos _ hd)
  have e1 := Int.emod_add_mul_ediv u.1 d
  have e2 := Int.emod_add_mul_ediv u.2 d
  unfold roundZ
  rw [h]
  simp only [Int.mul_add]
  have f1 : u.1 - (d * (u.1 / d) + d * i) = u.1 % d - d * i := by omega
  have f2 : u.2 - (d * (u.2 / d) + d * j) = u.2 % d - d * j := by omega
  rw [f1, f2]
  exact hv
theorem round_bd (u : Int × Int) (d : Int) (hd : 0 < d) : u.1 / d ≤ (roundZ u d).1 ∧ (roundZ u d).1 ≤ u.1 / d + 1 ∧ u.2 / d ≤ (roundZ u d).2 ∧ (roundZ u d).2 ≤ u.2 / d + 1 := by
  obtain ⟨i, j, h, hi, hj, _⟩ := best_vor (u.1 % d) (u.2 % d) d (Int.emod_nonneg _ (by omega)) (Int.emod_lt_of_pos _ hd) (Int.emod_nonneg _ (by omega)) (Int.emod_lt_of_pos _ hd)
  unfold roundZ
  rw [h]
  dsimp only
  omega
/-- The number of the cell around a point. -/
def nearZ (x y : Int) (r : Nat) : Int × Int := roundZ (mulZ (axial x y) (conjZ (betaP (12 - r)))) (2340 * powS (12 - r))
theorem thirteen {k : Nat} (hk : k ≤ 12) : k = 0 ∨ k = 1 ∨ k = 2 ∨ k = 3 ∨ k = 4 ∨ k = 5 ∨ k = 6 ∨ k = 7 ∨ k = 8 ∨ k = 9 ∨ k = 10 ∨ k = 11 ∨ k = 12 := by omega
/-- All thirteen powers, written out. -/
def betaL : List (Int × Int) := [(1, 0), (2, 1), (3, 5), (1, 18), (-16, 55), (-87, 149), (-323, 360), (-1006, 757), (-2769, 1265), (-6803, 1026), (-14632, -3725), (-25539, -25807), (-25271, -102960)]
theorem betaL_eq : ∀ k : Fin 13, betaP k.1 = betaL.getD k.1 (0, 0) := by decide +kernel
theorem pow_pos (k : Nat) : 0 < powS k := Int.pow_pos (by decide)
/-- The corners of the hexagon, in thirds. -/
def spotZ (e : Int × Int) : Int × Int := (52 * e.1 + 26 * e.2, 45 * e.2)
def kap : Nat → Int × Int
  | 0 => (1, 1)
  | 1 => (-1, 2)
  | 2 => (-2, 1)
  | 3 => (-1, -1)
  | 4 => (1, -2)
  | _ => (2, -1)
def cornerZ (z : Int × Int) (k i : Nat) : Int × Int :=
  spotZ ((mulZ (betaP k) (3 * z.1, 3 * z.2)).1 + (mulZ (betaP k) (kap i)).1, (mulZ (betaP k) (3 * z.1, 3 * z.2)).2 + (mulZ (betaP k) (kap i)).2)
def crossZ (p q c : Int × Int) : Int := (q.1 - p.1) * (c.2 - p.2) - (q.2 - p.2) * (c.1 - p.1)
theorem six {i : Nat} (hi : i < 6) : i = 0 ∨ i = 1 ∨ i = 2 ∨ i = 3 ∨ i = 4 ∨ i = 5 := by omega
/-- What is left of a point, seen from a cell. -/
def VorP (x y : Int) (z : Int × Int) (k : Nat) : Prop :=
  Vor ((mulZ (axial x y) (conjZ (betaP k))).1 - 2340 * powS k * z.1) ((mulZ (axial x y) (conjZ (betaP k))).2 - 2340 * powS k * z.2) (2340 * powS k)
theorem near_vor (x y : Int) (r : Nat) : VorP x y (nearZ x y r) (12 - r) := round_vor _ _ (by have := pow_pos (12 - r); omega)
def betaN : Nat → Int × Int
  | 0 => (1, 0)
  | 1 => (2, 1)
  | 2 => (3, 5)
  | 3 => (1, 18)
  | 4 => (-16, 55)
  | 5 => (-87, 149)
  | 6 => (-323, 360)
  | 7 => (-1006, 757)
  | 8 => (-2769, 1265)
  | 9 => (-6803, 1026)
  | 10 => (-14632, -3725)
  | 11 => (-25539, -25807)
  | _ => (-25271, -102960)
theorem beta_eq : ∀ k : Fin 13, betaP k.1 = betaN k.1 := by decide +kernel
def powN : Nat → Int
  | 0 => 1
  | 1 => 7
  | 2 => 49
  | 3 => 343
  | 4 => 2401
  | 5 => 16807
  | 6 => 117649
  | 7 => 823543
  | 8 => 5764801
  | 9 => 40353607
  | 10 => 282475249
  | 11 => 1977326743
  | _ => 13841287201
theorem pow_eq : ∀ k : Fin 13, powS k.1 = powN k.1 := by decide +kernel
/-- One corner of a box that holds the point lies inside each edge. -/
theorem edge_ok (x y : Int) (z : Int × Int) (k : Nat) (hk : k ≤ 12) (h : VorP x y z k) (l0 l1 h0 h1 : Int) (hx : l0 ≤ x) (hx2 : x ≤ h0) (hy : l1 ≤ y) (hy2 : y ≤ h1) (i : Nat) (hi : i < 6) :
    0 ≤ crossZ (cornerZ z k i) (cornerZ z k ((i + 1) % 6)) (3 * l0, 3 * l1) ∨ 0 ≤ crossZ (cornerZ z k i) (cornerZ z k ((i + 1) % 6)) (3 * h0, 3 * l1) ∨
    0 ≤ crossZ (cornerZ z k i) (cornerZ z k ((i + 1) % 6)) (3 * h0, 3 * h1) ∨ 0 ≤ crossZ (cornerZ z k i) (cornerZ z k ((i + 1) % 6)) (3 * l0, 3 * h1) := by
  unfold VorP Vor at h
  unfold cornerZ
  rw [beta_eq ⟨k, by omega⟩, pow_eq ⟨k, by omega⟩] at h
  rw [beta_eq ⟨k, by omega⟩]
  rcases thirteen hk with rfl | rfl | rfl | rfl | rfl | rfl | rfl | rfl | rfl | rfl | rfl | rfl | rfl
  all_goals
    rcases six hi with rfl | rfl | rfl | rfl | rfl | rfl
    all_goals
      simp only [mulZ, conjZ, spotZ, axial, betaN, powN, kap, crossZ] at h ⊢
      omega

/-- By x and by y the corners reach the point from both sides. -/
theorem reach_ok (x y : Int) (z : Int × Int) (k : Nat) (hk : k ≤ 12) (h : VorP x y z k) :
    (∃ i, i < 6 ∧ (cornerZ z k i).1 ≤ 3 * x) ∧ (∃ i, i < 6 ∧ 3 * x ≤ (cornerZ z k i).1) ∧ (∃ i, i < 6 ∧ (cornerZ z k i).2 ≤ 3 * y) ∧ (∃ i, i < 6 ∧ 3 * y ≤ (cornerZ z k i).2) := by
  have key : ((cornerZ z k 0).1 ≤ 3 * x ∨ (cornerZ z k 1).1 ≤ 3 * x ∨ (cornerZ z k 2).1 ≤ 3 * x ∨ (cornerZ z k 3).1 ≤ 3 * x ∨ (cornerZ z k 4).1 ≤ 3 * x ∨ (cornerZ z k 5).1 ≤ 3 * x) ∧
      (3 * x ≤ (cornerZ z k 0).1 ∨ 3 * x ≤ (cornerZ z k 1).1 ∨ 3 * x ≤ (cornerZ z k 2).1 ∨ 3 * x ≤ (cornerZ z k 3).1 ∨ 3 * x ≤ (cornerZ z k 4).1 ∨ 3 * x ≤ (cornerZ z k 5).1) ∧
      ((cornerZ z k 0).2 ≤ 3 * y ∨ (cornerZ z k 1).2 ≤ 3 * y ∨ (cornerZ z k 2).2 ≤ 3 * y ∨ (cornerZ z k 3).2 ≤ 3 * y ∨ (cornerZ z k 4).2 ≤ 3 * y ∨ (cornerZ z k 5).2 ≤ 3 * y) ∧
      (3 * y ≤ (cornerZ z k 0).2 ∨ 3 * y ≤ (cornerZ z k 1).2 ∨ 3 * y ≤ (cornerZ z k 2).2 ∨ 3 * y ≤ (cornerZ z k 3).2 ∨ 3 * y ≤ (cornerZ z k 4).2 ∨ 3 * y ≤ (cornerZ z k 5).2) := by
    unfold VorP Vor at h
    unfold cornerZ
    rw [beta_eq ⟨k, by omega⟩, pow_eq ⟨k, by omega⟩] at h
    rw [beta_eq ⟨k, by omega⟩]
    rcases thirteen hk with rfl | rfl | rfl | rfl | rfl | rfl | rfl | rfl | rfl | rfl | rfl | rfl | rfl
    all_goals
      simp only [mulZ, conjZ, spotZ, axial, betaN, powN, kap] at h ⊢
      refine ⟨?_, ?_, ?_, ?_⟩ <;> omega
  obtain ⟨a, b, c, d⟩ := key
  refine ⟨?_, ?_, ?_, ?_⟩
  · rcases a with a | a | a | a | a | a <;> exact ⟨_, by decide, a⟩
  · rcases b with a | a | a | a | a | a <;> exact ⟨_, by decide, a⟩
  · rcases c with a | a | a | a | a | a <;> exact ⟨_, by decide, a⟩
  · rcases d with a | a | a | a | a | a <;> exact ⟨_, by decide, a⟩
/-- The cells of two points beside each other are one, or beside each other. -/
def Hex7 (w : Int × Int) : Prop := w = (0, 0) ∨ w = (1, 0) ∨ w = (0, 1) ∨ w = (-1, 1) ∨ w = (-1, 0) ∨ w = (0, -1) ∨ w = (1, -1)
theorem hex7_of (a b : Int) (h : -2 ≤ 2 * a + b ∧ 2 * a + b ≤ 2 ∧ -2 ≤ a + 2 * b ∧ a + 2 * b ≤ 2 ∧ -2 ≤ a - b ∧ a - b ≤ 2) : Hex7 (a, b) := by
  have h1 : -1 ≤ a ∧ a ≤ 1 ∧ -1 ≤ b ∧ b ≤ 1 := by omega
  unfold Hex7
  simp only [Prod.mk.injEq]
  omega
theorem step_ok (x y x' y' : Int) (z z' : Int × Int) (k : Nat) (hk : k ≤ 12) (h : VorP x y z k) (h' : VorP x' y' z' k) (hx : -1 ≤ x' - x ∧ x' - x ≤ 1) (hy : -1 ≤ y' - y ∧ y' - y ≤ 1) (_hxy : x' = x ∨ y' = y) :
    Hex7 (z'.1 - z.1, z'.2 - z.2) := by
  refine hex7_of _ _ ?_
  unfold VorP Vor at h h'
  rw [beta_eq ⟨k, by omega⟩, pow_eq ⟨k, by omega⟩] at h h'
  rcases thirteen hk with rfl | rfl | rfl | rfl | rfl | rfl | rfl | rfl | rfl | rfl | rfl | rfl | rfl
  all_goals
    simp only [mulZ, conjZ, axial, betaN, powN] at h h'
    refine ⟨?_, ?_, ?_, ?_, ?_, ?_⟩ <;> omega

end Go.Proofs.YtkemmffdiclloaaGreatDoor
namespace Go.Proofs.YtkemmffdiclloaaGreatDoor
def upZ (z : Int × Int) : Int × Int := roundZ (mulZ z (3, -1)) 7
def leftZ (z : Int × Int) : Int × Int := (z.1 - (mulZ (upZ z) (2, 1)).1, z.2 - (mulZ (upZ z) (2, 1)).2)
theorem left_ok (z : Int × Int) : Hex7 (leftZ z) := by
  have h := round_vor (mulZ z (3, -1)) 7 (by decide)
  refine hex7_of _ _ ?_
  unfold Vor at h
  unfold upZ
  generalize roundZ (mulZ z (3, -1)) 7 = q at *
  simp only [mulZ] at h ⊢
  omega
theorem up_bd (z : Int × Int) (M : Int) (_hM : 0 ≤ M) (h1 : -M ≤ z.1 ∧ z.1 ≤ M) (h2 : -M ≤ z.2 ∧ z.2 ≤ M) : -M - 2 ≤ (upZ z).1 ∧ (upZ z).1 ≤ M + 2 ∧ -M - 2 ≤ (upZ z).2 ∧ (upZ z).2 ≤ M + 2 := by
  have h := round_vor (mulZ z (3, -1)) 7 (by decide)
  unfold Vor at h
  unfold upZ
  generalize roundZ (mulZ z (3, -1)) 7 = q at *
  simp only [mulZ] at h
  omega
def upI : Nat → Int × Int → Int × Int
  | 0, z => z
  | n + 1, z => upZ (upI n z)
theorem upI_bd (z : Int × Int) (n : Nat) (M : Int) (hM : 0 ≤ M) (h1 : -M ≤ z.1 ∧ z.1 ≤ M) (h2 : -M ≤ z.2 ∧ z.2 ≤ M) : -M - 2 * n ≤ (upI n z).1 ∧ (upI n z).1 ≤ M + 2 * n ∧ -M - 2 * n ≤ (upI n z).2 ∧ (upI n z).2 ≤ M + 2 * n := by
  induction n with
  | zero => simp only [upI]; omega
  | succ n ih =>
    have := up_bd (upI n z) (M + 2 * n) (by omega) (by omega) (by omega)
    simp only [upI]
    omega
/-- How far the cell's centre is from the point, at most. -/
def errN : Nat → Int
  | 0 => 1570
  | 1 => 3920
  | 2 => 10950
  | 3 => 29680
  | 4 => 74150
  | 5 => 202860
  | 6 => 551530
  | 7 => 1393940
  | 8 => 3747990
  | 9 => 10227460
  | 10 => 26146490
  | 11 => 69101880
  | _ => 189251530
def NearBy (x y : Int) (z : Int × Int) (m : Nat) : Prop :=
  -errN m ≤ 2340 * (mulZ (betaN m) z).1 - (axial x y).1 ∧ 2340 * (mulZ (betaN m) z).1 - (axial x y).1 ≤ errN m ∧
  -errN m ≤ 2340 * (mulZ (betaN m) z).2 - (axial x y).2 ∧ 2340 * (mulZ (betaN m) z).2 - (axial x y).2 ≤ errN m
theorem nearby_of (x y : Int) (z : Int × Int) (k : Nat) (hk : k ≤ 12) (h : VorP x y z k) : NearBy x y z k := by
  unfold VorP Vor at h
  unfold NearBy
  rw [beta_eq ⟨k, by omega⟩, pow_eq ⟨k, by omega⟩] at h
  rcases thirteen hk with rfl | rfl | rfl | rfl | rfl | rfl | rfl | rfl | rfl | rfl | rfl | rfl | rfl
  all_goals
    simp only [mulZ, conjZ, axial, betaN, powN, errN] at h ⊢
    refine ⟨?_, ?_, ?_, ?_⟩ <;> omega
theorem nearby_up (x y : Int) (z : Int × Int) (m : Nat) (hm : m < 12) (h : NearBy x y z m) : NearBy x y (upZ z) (m + 1) := by
  have hl := left_ok z
  unfold leftZ at hl
  generalize upZ z = q at *
  unfold Hex7 at hl
  simp only [Prod.mk.injEq, mulZ] at hl
  unfold NearBy at *
  have h12 : m = 0 ∨ m = 1 ∨ m = 2 ∨ m = 3 ∨ m = 4 ∨ m = 5 ∨ m = 6 ∨ m = 7 ∨ m = 8 ∨ m = 9 ∨ m = 10 ∨ m = 11 := by omega
  rcases h12 with rfl | rfl | rfl | rfl | rfl | rfl | rfl | rfl | rfl | rfl | rfl | rfl
  all_goals
    simp only [mulZ, axial, betaN, errN] at h ⊢
    rcases hl with hl | hl | hl | hl | hl | hl | hl
    all_goals
      refine ⟨?_, ?_, ?_, ?_⟩ <;> omega
theorem nearby_upI (x y : Int) (z : Int × Int) (m n : Nat) (hm : m + n ≤ 12) (h : NearBy x y z m) : NearBy x y (upI n z) (m + n) := by
  induction n with
  | zero => exact h
  | succ n ih => exact nearby_up x y (upI n z) (m + n) (by omega) (ih (by omega))
theorem nearby_base (x y : Int) (z : Int × Int) (hx : 0 ≤ x ∧ x < 1073741824) (hy : 0 ≤ y ∧ y < 1073741824) (h : NearBy x y z 12) : -512 ≤ z.1 ∧ z.1 < 512 ∧ -512 ≤ z.2 ∧ z.2 < 512 := by
  unfold NearBy at h
  simp only [mulZ, axial, betaN, errN] at h
  omega
/-- The numbers themselves are small. -/
theorem nearby_small (x y : Int) (z : Int × Int) (m : Nat) (hm : m ≤ 12) (hx : 0 ≤ x ∧ x < 1073741824) (hy : 0 ≤ y ∧ y < 1073741824) (h : NearBy x y z m) : -134217728 ≤ z.1 ∧ z.1 ≤ 134217728 ∧ -134217728 ≤ z.2 ∧ z.2 ≤ 134217728 := by
  unfold NearBy at h
  rcases thirteen hm with rfl | rfl | rfl | rfl | rfl | rfl | rfl | rfl | rfl | rfl | rfl | rfl | rfl
  all_goals
    simp only [mulZ, axial, betaN, errN] at h
    omega

end Go.Proofs.YtkemmffdiclloaaGreatDoor
namespace Go.Proofs.YtkemmffdiclloaaGreatDoor
def dig (l : Int × Int) : Nat :=
  if l = (1, 0) then 1 else if l = (0, 1) then 2 else if l = (-1, 1) then 3 else if l = (-1, 0) then 4 else if l = (0, -1) then 5 else if l = (1, -1) then 6 else 0
/-- What a digit adds. -/
def undig : Nat → Int × Int
  | 1 => (1, 0)
  | 2 => (0, 1)
  | 3 => (-1, 1)
  | 4 => (-1, 0)
  | 5 => (0, -1)
  | 6 => (1, -1)
  | _ => (0, 0)
theorem dig_lt (l : Int × Int) : dig l < 7 := by unfold dig; repeat' split <;> try omega
theorem undig_dig (l : Int × Int) (h : Hex7 l) : undig (dig l) = l := by
  unfold Hex7 at h
  rcases h with rfl | rfl | rfl | rfl | rfl | rfl | rfl <;> decide
theorem up_back (z : Int × Int) : z = ((mulZ (upZ z) (2, 1)).1 + (undig (dig (leftZ z))).1, (mulZ (upZ z) (2, 1)).2 + (undig (dig (leftZ z))).2) := by
  rw [undig_dig _ (left_ok z)]
  unfold leftZ
  ext <;> simp only <;> omega
/-- The digit of size r on the way to z, a number of size R; 7 behind it. -/
def digAt (z : Int × Int) (R r : Nat) : Nat := if r ≤ R then dig (leftZ (upI (R - r) z)) else 7
theorem digAt_lt (z : Int × Int) (R r : Nat) : digAt z R r < 8 := by unfold digAt; split; have := dig_lt (leftZ (upI (R - r) z)); omega; omega
/-- The word's front, with n digits behind it. -/
def hor (R A B : Nat) (ds : Nat → Nat) : Nat → Nat
  | 0 => 16777216 + R * 1048576 + A * 1024 + B
  | n + 1 => 8 * hor R A B ds n + ds (n + 1)
def wordP (z : Int × Int) (R : Nat) : Nat := hor R ((upI R z).1 + 512).toNat ((upI R z).2 + 512).toNat (digAt z R) 12
section
variable {R A B : Nat} {ds : Nat → Nat}
theorem hor_div (hd : ∀ k, ds k < 8) (n j : Nat) : hor R A B ds (n + j) / 8 ^ j = hor R A B ds n := by
  induction j with
  | zero => simp
  | succ j ih =>
    rw [Nat.pow_succ, Nat.mul_comm, ← Nat.div_div_eq_div_mul]
    have h : hor R A B ds (n + (j + 1)) / 8 = hor R A B ds (n + j) := by
      show (8 * hor R A B ds (n + j) + ds (n + j + 1)) / 8 = _
      have := hd (n + j + 1)
      omega
    rw [h, ih]
theorem hor_lt (hR : R ≤ 12) (hA : A < 1024) (hB : B < 1024) (hd : ∀ k, ds k < 8) (n : Nat) : hor R A B ds n < 33554432 * 8 ^ n := by
  induction n with
  | zero => simp only [hor]; omega
  | succ n ih =>
    have := hd (n + 1)
    simp only [hor, Nat.pow_succ]
    omega
/-- A digit more: by the bits. -/
theorem hor_or (hd : ∀ k, ds k < 8) (n : Nat) (hn : n < 12) : (hor R A B ds n * 8 ^ (12 - n)) ||| (ds (n + 1) * 8 ^ (12 - (n + 1))) = hor R A B ds (n + 1) * 8 ^ (12 - (n + 1)) := by
  have e8 : ∀ k, 8 ^ k = 2 ^ (3 * k) := fun k => by rw [Nat.pow_mul]
  obtain ⟨m, hm⟩ : ∃ m, 12 - n = m + 1 := ⟨11 - n, by omega⟩
  have hm' : 12 - (n + 1) = m := by omega
  rw [hm, hm']
  have hlt : ds (n + 1) * 8 ^ m < 2 ^ (3 * (m + 1)) := by
    rw [← e8, Nat.pow_succ, Nat.mul_comm (8 ^ m)]
    exact Nat.mul_lt_mul_of_pos_right (hd (n + 1)) (Nat.pow_pos (by decide))
  have h := Nat.shiftLeft_add_eq_or_of_lt hlt (hor R A B ds n)
  rw [Nat.shiftLeft_eq, ← e8] at h
  rw [← h]
  simp only [hor, Nat.pow_succ, Nat.add_mul]
  rw [Nat.mul_comm (8 ^ m) 8, ← Nat.mul_assoc, Nat.mul_comm (hor R A B ds n) 8]
end
/-! ### read again -/
def resW (w : Nat) : Nat := w / 72057594037927936 % 16
def digW (w k : Nat) : Nat := w / 8 ^ (12 - k) % 8
def okW (w : Nat) : Prop := w / 1152921504606846976 = 1 ∧ resW w ≤ 12 ∧ ∀ k, 1 ≤ k → k ≤ 12 → (digW w k = 7 ↔ resW w < k)
def decW (w : Nat) : Nat → Int × Int
  | 0 => (((w / 70368744177664 % 1024 : Nat) : Int) - 512, ((w / 68719476736 % 1024 : Nat) : Int) - 512)
  | k + 1 => if digW w (k + 1) = 7 then decW w k else ((mulZ (decW w k) (2, 1)).1 + (undig (digW w (k + 1))).1, (mulZ (decW w k) (2, 1)).2 + (undig (digW w (k + 1))).2)
theorem undig_bd (d : Nat) : -1 ≤ (undig d).1 ∧ (undig d).1 ≤ 1 ∧ -1 ≤ (undig d).2 ∧ (undig d).2 ≤ 1 := by
  unfold undig; split <;> decide
theorem decW_bd (w k : Nat) : -(1024 * 5 ^ k) ≤ (decW w k).1 ∧ (decW w k).1 ≤ 1024 * 5 ^ k ∧ -(1024 * 5 ^ k) ≤ (decW w k).2 ∧ (decW w k).2 ≤ 1024 * 5 ^ k := by
  induction k with
  | zero => simp only [decW]; omega
  | succ k ih =>
    have h4 : (5 : Int) ^ (k + 1) = 5 * 5 ^ k := by rw [Int.pow_succ]; omega
    have hp : (0 : Int) < 5 ^ k := Int.pow_pos (by decide)
    rw [h4]
    generalize (5 : Int) ^ k = p at *
    simp only [decW]
    have hu := undig_bd (digW w (k + 1))
    generalize undig (digW w (k + 1)) = u at *
    generalize decW w k = z at *
    split
    · omega
    · simp only [mulZ]; omega
section
variable {z : Int × Int} {R : Nat}
theorem word_fields (hR : R ≤ 12) (h : -512 ≤ (upI R z).1 ∧ (upI R z).1 < 512 ∧ -512 ≤ (upI R z).2 ∧ (upI R z).2 < 512) :
    wordP z R / 1152921504606846976 = 1 ∧ resW (wordP z R) = R ∧ (∀ k, 1 ≤ k → k ≤ 12 → digW (wordP z R) k = digAt z R k) ∧ decW (wordP z R) 0 = upI R z ∧ wordP z R < 18446744073709551616 := by
  have hd := digAt_lt z R
  have h0 : wordP z R / 68719476736 = 16777216 + R * 1048576 + ((upI R z).1 + 512).toNat * 1024 + ((upI R z).2 + 512).toNat :=
    hor_div (R := R) (A := ((upI R z).1 + 512).toNat) (B := ((upI R z).2 + 512).toNat) hd 0 12
  have hlt := hor_lt hR (A := ((upI R z).1 + 512).toNat) (B := ((upI R z).2 + 512).toNat) (by omega) (by omega) hd 12
  have hlt' : wordP z R < 33554432 * 68719476736 := hlt
  refine ⟨by omega, by unfold resW; omega, ?_, ?_, by omega⟩
  · intro k h1 h2
    obtain ⟨j, rfl⟩ : ∃ j, k = j + 1 := ⟨k - 1, by omega⟩
    have hk := hor_div (R := R) (A := ((upI R z).1 + 512).toNat) (B := ((upI R z).2 + 512).toNat) hd (j + 1) (12 - (j + 1))
    have e : j + 1 + (12 - (j + 1)) = 12 := by omega
    rw [e] at hk
    unfold digW
    have : wordP z R / 8 ^ (12 - (j + 1)) = 8 * hor R ((upI R z).1 + 512).toNat ((upI R z).2 + 512).toNat (digAt z R) j + digAt z R (j + 1) := hk
    rw [this]
    have := hd (j + 1)
    omega
  · simp only [decW]
    ext <;> simp only <;> omega
theorem word_ok (hR : R ≤ 12) (h : -512 ≤ (upI R z).1 ∧ (upI R z).1 < 512 ∧ -512 ≤ (upI R z).2 ∧ (upI R z).2 < 512) : okW (wordP z R) := by
  obtain ⟨h1, h2, h3, _⟩ := word_fields hR h
  refine ⟨h1, by omega, fun k a b => ?_⟩
  rw [h3 k a b, h2]
  unfold digAt
  split
  · have := dig_lt (leftZ (upI (R - k) z)); omega
  · omega
theorem dec_ok (hR : R ≤ 12) (h : -512 ≤ (upI R z).1 ∧ (upI R z).1 < 512 ∧ -512 ≤ (upI R z).2 ∧ (upI R z).2 < 512) (k : Nat) (hk : k ≤ R) : decW (wordP z R) k = upI (R - k) z := by
  obtain ⟨h1, h2, h3, h4, _⟩ := word_fields hR h
  induction k with
  | zero => exact h4
  | succ k ih =>
    have e : R - k = R - (k + 1) + 1 := by omega
    have hd : digAt z R (k + 1) = dig (leftZ (upI (R - (k + 1)) z)) := by unfold digAt; rw [if_pos hk]
    have hl := dig_lt (leftZ (upI (R - (k + 1)) z))
    simp only [decW]
    rw [h3 (k + 1) (by omega) (by omega), hd, if_neg (by omega), ih (by omega), e]
    exact (up_back (upI (R - (k + 1)) z)).symm
theorem dec_tail (hR : R ≤ 12) (h : -512 ≤ (upI R z).1 ∧ (upI R z).1 < 512 ∧ -512 ≤ (upI R z).2 ∧ (upI R z).2 < 512) (j : Nat) (hj : R + j ≤ 12) : decW (wordP z R) (R + j) = z := by
  induction j with
  | zero => have := dec_ok hR h R (Nat.le_refl _); simpa [upI] using this
  | succ j ih =>
    obtain ⟨h1, h2, h3, h4, _⟩ := word_fields hR h
    have hd : digAt z R (R + j + 1) = 7 := by unfold digAt; rw [if_neg (by omega)]
    show (if digW (wordP z R) (R + j + 1) = 7 then decW (wordP z R) (R + j) else _) = z
    rw [h3 (R + j + 1) (by omega) (by omega), hd, if_pos rfl, ih (by omega)]
end

end Go.Proofs.YtkemmffdiclloaaGreatDoor
namespace Go.Proofs.YtkemmffdiclloaaGreatDoor
def hexL (z : Int × Int) (k : Nat) : List (Int × Int) := [cornerZ z k 0, cornerZ z k 1, cornerZ z k 2, cornerZ z k 3, cornerZ z k 4, cornerZ z k 5]
def lowR (f : Int × Int → Int) (ring : List (Int × Int)) : Int := ring.foldl (fun a p => min a (f p)) (f (ring.getD 0 (0, 0)))
def highR (f : Int × Int → Int) (ring : List (Int × Int)) : Int := ring.foldl (fun a p => max a (f p)) (f (ring.getD 0 (0, 0)))
def besideP (l h : Int × Int) (ring : List (Int × Int)) : Bool :=
  (decide (highR (·.1) ring < l.1) || decide (h.1 < lowR (·.1) ring)) || (decide (highR (·.2) ring < l.2) || decide (h.2 < lowR (·.2) ring))
def outP (l h p q : Int × Int) : Bool :=
  decide (crossZ p q l < 0) && decide (crossZ p q (h.1, l.2) < 0) && decide (crossZ p q h < 0) && decide (crossZ p q (l.1, h.2) < 0)
def touchP (l h : Int × Int) (ring : List (Int × Int)) : Bool :=
  !besideP l h ring && (List.range ring.length).all fun i => !outP l h (ring.getD i (0, 0)) (ring.getD ((i + 1) % ring.length) (0, 0))
theorem fold_min_le (f : Int × Int → Int) (l : List (Int × Int)) : ∀ a, l.foldl (fun a p => min a (f p)) a ≤ a ∧ ∀ p ∈ l, l.foldl (fun a p => min a (f p)) a ≤ f p := by
  induction l with
  | nil => intro a; exact ⟨Int.le_refl _, fun p h => by cases h⟩
  | cons q l ih =>
    intro a
    obtain ⟨h1, h2⟩ := ih (min a (f q))
    simp only [List.foldl_cons]
    refine ⟨by omega, fun p hp => ?_⟩
    rcases List.mem_cons.1 hp with rfl | hp
    · omega
    · exact h2 p hp
theorem fold_max_ge (f : Int × Int → Int) (l : List (Int × Int)) : ∀ a, a ≤ l.foldl (fun a p => max a (f p)) a ∧ ∀ p ∈ l, f p ≤ l.foldl (fun a p => max a (f p)) a := by
  induction l with
  | nil => intro a; exact ⟨Int.le_refl _, fun p h => by cases h⟩
  | cons q l ih =>
    intro a
    obtain ⟨h1, h2⟩ := ih (max a (f q))
    simp only [List.foldl_cons]
    refine ⟨by omega, fun p hp => ?_⟩
    rcases List.mem_cons.1 hp with rfl | hp
    · omega
    · exact h2 p hp
theorem fold_min_bd (f : Int × Int → Int) (l : List (Int × Int)) (m : Int) (h : ∀ p ∈ l, m ≤ f p) : ∀ a, m ≤ a → m ≤ l.foldl (fun a p => min a (f p)) a := by
  induction l with
  | nil => intro a ha; exact ha
  | cons q l ih => intro a ha; exact ih (fun p hp => h p (List.mem_cons_of_mem _ hp)) _ (by have := h q (List.mem_cons_self ..); show _; dsimp only; omega)
theorem fold_max_bd (f : Int × Int → Int) (l : List (Int × Int)) (m : Int) (h : ∀ p ∈ l, f p ≤ m) : ∀ a, a ≤ m → l.foldl (fun a p => max a (f p)) a ≤ m := by
  induction l with
  | nil => intro a ha; exact ha
  | cons q l ih => intro a ha; exact ih (fun p hp => h p (List.mem_cons_of_mem _ hp)) _ (by have := h q (List.mem_cons_self ..); show _; dsimp only; omega)
theorem low_le {f : Int × Int → Int} {l : List (Int × Int)} {p : Int × Int} (h : p ∈ l) : lowR f l ≤ f p := (fold_min_le f l _).2 p h
theorem high_ge {f : Int × Int → Int} {l : List (Int × Int)} {p : Int × Int} (h : p ∈ l) : f p ≤ highR f l := (fold_max_ge f l _).2 p h
theorem hex_mem (z : Int × Int) (k i : Nat) (hi : i < 6) : cornerZ z k i ∈ hexL z k := by
  unfold hexL
  rcases six hi with rfl | rfl | rfl | rfl | rfl | rfl <;> simp
theorem hex_at (z : Int × Int) (k i : Nat) (hi : i < 6) : (hexL z k).getD i (0, 0) = cornerZ z k i := by
  unfold hexL
  rcases six hi with rfl | rfl | rfl | rfl | rfl | rfl <;> rfl
/-- The hexagon of the nearest cell touches each box about the point. -/
theorem touch_ok (x y : Int) (z : Int × Int) (k : Nat) (hk : k ≤ 12) (h : VorP x y z k) (l0 l1 h0 h1 : Int) (hx : l0 ≤ x) (hx2 : x ≤ h0) (hy : l1 ≤ y) (hy2 : y ≤ h1) :
    touchP (3 * l0, 3 * l1) (3 * h0, 3 * h1) (hexL z k) = true := by
  unfold touchP
  rw [Bool.and_eq_true]
  constructor
  · obtain ⟨⟨i1, a1, b1⟩, ⟨i2, a2, b2⟩, ⟨i3, a3, b3⟩, ⟨i4, a4, b4⟩⟩ := reach_ok x y z k hk h
    have c1 := low_le (f := (·.1)) (hex_mem z k i1 a1)
    have c2 := high_ge (f := (·.1)) (hex_mem z k i2 a2)
    have c3 := low_le (f := (·.2)) (hex_mem z k i3 a3)
    have c4 := high_ge (f := (·.2)) (hex_mem z k i4 a4)
    simp only [besideP, Bool.not_eq_true', Bool.or_eq_false_iff, decide_eq_false_iff_not]
    omega
  · rw [List.all_eq_true]
    intro i hi
    have hi6 : i < 6 := by simpa [hexL] using hi
    have hm : (i + 1) % 6 < 6 := Nat.mod_lt _ (by decide)
    have hl : (hexL z k).length = 6 := rfl
    rw [hl, hex_at z k i hi6, hex_at z k _ hm]
    have he := edge_ok x y z k hk h l0 l1 h0 h1 hx hx2 hy hy2 i hi6
    simp only [outP, Bool.not_eq_true', Bool.and_eq_false_iff, decide_eq_false_iff_not]
    omega
theorem high_ex {f : Int × Int → Int} {l : List (Int × Int)} {m : Int} (hl : 0 < l.length) (h : m ≤ highR f l) : ∃ p ∈ l, m ≤ f p := by
  refine Classical.byContradiction fun hn => ?_
  have hb : ∀ p ∈ l, f p ≤ m - 1 := fun p hp => Classical.byContradiction fun hq => hn ⟨p, hp, by omega⟩
  have h0 : f (l.getD 0 (0, 0)) ≤ m - 1 := hb _ (by cases l with | nil => simp at hl | cons q l => exact List.mem_cons_self ..)
  have := fold_max_bd f l (m - 1) hb _ h0
  unfold highR at h
  omega
theorem low_ex {f : Int × Int → Int} {l : List (Int × Int)} {m : Int} (hl : 0 < l.length) (h : lowR f l ≤ m) : ∃ p ∈ l, f p ≤ m := by
  refine Classical.byContradiction fun hn => ?_
  have hb : ∀ p ∈ l, m + 1 ≤ f p := fun p hp => Classical.byContradiction fun hq => hn ⟨p, hp, by omega⟩
  have h0 : m + 1 ≤ f (l.getD 0 (0, 0)) := hb _ (by cases l with | nil => simp at hl | cons q l => exact List.mem_cons_self ..)
  have := fold_min_bd f l (m + 1) hb _ h0
  unfold lowR at h
  omega
def radX : Nat → Int
  | 0 => 78
  | 1 => 234
  | 2 => 624
  | 3 => 1482
  | 4 => 4290
  | 5 => 11622
  | 6 => 28080
  | 7 => 78468
  | 8 => 215982
  | 9 => 530634
  | 10 => 1431846
  | 11 => 4004988
  | _ => 10002018
def radY : Nat → Int
  | 0 => 90
  | 1 => 225
  | 2 => 585
  | 3 => 1665
  | 4 => 4230
  | 5 => 10620
  | 6 => 30735
  | 7 => 79335
  | 8 => 192285
  | 9 => 566100
  | 10 => 1484505
  | 11 => 3471885
  | _ => 10403595
theorem hex_rad (z : Int × Int) (k : Nat) (hk : k ≤ 12) (p : Int × Int) (hp : p ∈ hexL z k) :
    -radX k ≤ p.1 - 3 * (spotZ (mulZ (betaN k) z)).1 ∧ p.1 - 3 * (spotZ (mulZ (betaN k) z)).1 ≤ radX k ∧ -radY k ≤ p.2 - 3 * (spotZ (mulZ (betaN k) z)).2 ∧ p.2 - 3 * (spotZ (mulZ (betaN k) z)).2 ≤ radY k := by
  have hi : ∃ i, i < 6 ∧ p = cornerZ z k i := by
    unfold hexL at hp
    simp only [List.mem_cons, List.not_mem_nil, or_false] at hp
    rcases hp with h | h | h | h | h | h
    · exact ⟨0, by decide, h⟩
    · exact ⟨1, by decide, h⟩
    · exact ⟨2, by decide, h⟩
    · exact ⟨3, by decide, h⟩
    · exact ⟨4, by decide, h⟩
    · exact ⟨5, by decide, h⟩
  obtain ⟨i, hi, rfl⟩ := hi
  clear hp
  unfold cornerZ
  rw [beta_eq ⟨k, by omega⟩]
  rcases thirteen hk with rfl | rfl | rfl | rfl | rfl | rfl | rfl | rfl | rfl | rfl | rfl | rfl | rfl
  all_goals
    rcases six hi with rfl | rfl | rfl | rfl | rfl | rfl
    all_goals
      simp only [mulZ, spotZ, betaN, kap, radX, radY]
      omega
/-- What touches a small box is near the cell of its corner. -/
theorem touch_close (l0 l1 h0 h1 : Int) (z z0 : Int × Int) (k : Nat) (hk : k ≤ 12) (hb0 : l0 ≤ h0 ∧ h0 ≤ l0 + 510) (hb1 : l1 ≤ h1 ∧ h1 ≤ l1 + 510) (h : VorP l0 l1 z0 k) (ht : touchP (3 * l0, 3 * l1) (3 * h0, 3 * h1) (hexL z k) = true) :
    -60 ≤ z.1 - z0.1 ∧ z.1 - z0.1 ≤ 60 ∧ -60 ≤ z.2 - z0.2 ∧ z.2 - z0.2 ≤ 60 := by
  unfold touchP at ht
  rw [Bool.and_eq_true] at ht
  have hb := ht.1
  clear ht
  simp only [besideP, Bool.not_eq_true', Bool.or_eq_false_iff, decide_eq_false_iff_not] at hb
  obtain ⟨p1, m1, b1⟩ := high_ex (f := (·.1)) (l := hexL z k) (m := 3 * l0) (Nat.zero_lt_succ _) (by omega)
  obtain ⟨p2, m2, b2⟩ := low_ex (f := (·.1)) (l := hexL z k) (m := 3 * h0) (Nat.zero_lt_succ _) (by omega)
  obtain ⟨p3, m3, b3⟩ := high_ex (f := (·.2)) (l := hexL z k) (m := 3 * l1) (Nat.zero_lt_succ _) (by omega)
  obtain ⟨p4, m4, b4⟩ := low_ex (f := (·.2)) (l := hexL z k) (m := 3 * h1) (Nat.zero_lt_succ _) (by omega)
  have r1 := (hex_rad z k hk p1 m1).2.1
  have r2 := (hex_rad z k hk p2 m2).1
  have r3 := (hex_rad z k hk p3 m3).2.2.2
  have r4 := (hex_rad z k hk p4 m4).2.2.1
  have hn := nearby_of l0 l1 z0 k hk h
  clear h hb m1 m2 m3 m4
  have s1 : 3 * l0 - radX k ≤ 3 * (spotZ (mulZ (betaN k) z)).1 := by omega
  have s2 : 3 * (spotZ (mulZ (betaN k) z)).1 ≤ 3 * h0 + radX k := by omega
  have s3 : 3 * l1 - radY k ≤ 3 * (spotZ (mulZ (betaN k) z)).2 := by omega
  have s4 : 3 * (spotZ (mulZ (betaN k) z)).2 ≤ 3 * h1 + radY k := by omega
  clear b1 b2 b3 b4 r1 r2 r3 r4
  unfold NearBy at hn
  rcases thirteen hk with rfl | rfl | rfl | rfl | rfl | rfl | rfl | rfl | rfl | rfl | rfl | rfl | rfl
  all_goals
    simp only [mulZ, spotZ, axial, betaN, errN, radX, radY] at hn s1 s2 s3 s4
    refine ⟨?_, ?_, ?_, ?_⟩ <;> omega

end Go.Proofs.YtkemmffdiclloaaGreatDoor
namespace Go.Proofs.YtkemmffdiclloaaGreatDoor
theorem nodup_len (N : Nat) : ∀ l : List Nat, l.Nodup → (∀ x ∈ l, x < N) → l.length ≤ N := by
  induction N with
  | zero => intro l _ h; cases l with | nil => simp | cons a l => have := h a (List.mem_cons_self ..); omega
  | succ N ih =>
    intro l hn h
    by_cases hm : N ∈ l
    · have h1 := ih (l.erase N) (hn.erase N) (fun x hx => by
        have := (List.Nodup.mem_erase_iff hn).1 hx
        have := h x this.2
        omega)
      have h2 := List.length_erase_of_mem hm
      have h3 : 0 < l.length := List.length_pos_of_mem hm
      omega
    · have := ih l hn (fun x hx => by have := h x hx; have : x ≠ N := fun e => hm (e ▸ hx); omega)
      omega
theorem map_nodup {l : List (Int × Int)} {f : Int × Int → Nat} (hf : ∀ x ∈ l, ∀ y ∈ l, f x = f y → x = y) (h : l.Nodup) : (l.map f).Nodup := by
  induction l with
  | nil => simp
  | cons a l ih =>
    rw [List.nodup_cons] at h
    rw [List.map_cons, List.nodup_cons]
    refine ⟨fun hm => ?_, ih (fun x hx y hy => hf x (List.mem_cons_of_mem _ hx) y (List.mem_cons_of_mem _ hy)) h.2⟩
    obtain ⟨b, hb, e⟩ := List.mem_map.1 hm
    exact h.1 (hf b (List.mem_cons_of_mem _ hb) a (List.mem_cons_self ..) e ▸ hb)
/-- Few unlike pairs near one. -/
theorem few_pairs (l : List (Int × Int)) (z0 : Int × Int) (h : l.Nodup) (hb : ∀ z ∈ l, -60 ≤ z.1 - z0.1 ∧ z.1 - z0.1 ≤ 60 ∧ -60 ≤ z.2 - z0.2 ∧ z.2 - z0.2 ≤ 60) : l.length ≤ 14641 := by
  have h1 := nodup_len 14641 (l.map fun z => ((z.1 - z0.1 + 60) * 121 + (z.2 - z0.2 + 60)).toNat) (map_nodup (fun x hx y hy e => ?_) h) (fun n hn => ?_)
  · simpa using h1
  · have := hb x hx
    have := hb y hy
    ext <;> omega
  · obtain ⟨z, hz, rfl⟩ := List.mem_map.1 hn
    have := hb z hz
    omega
def nb (z : Int × Int) (j : Nat) : Int × Int := (z.1 + (undig (j + 1)).1, z.2 + (undig (j + 1)).2)
/-- A flood under way: what is seen (S), to be looked at (T), found (F). -/
structure Fl (t : Int × Int → Bool) (first : Int × Int) (S T F : List (Int × Int)) : Prop where
  nodup : (T ++ F).Nodup
  good : ∀ z, z ∈ T ++ F → t z = true
  all : ∀ z, z ∈ S → t z = true → z ∈ T ++ F
  done : ∀ z, z ∈ F → ∀ j, j < 6 → nb z j ∈ S
  first : first ∈ S
  sub : ∀ z, z ∈ T ++ F → z ∈ S
/-- The round of one cell, j of its neighbours looked at. -/
structure FlIn (t : Int × Int → Bool) (first : Int × Int) (S T F : List (Int × Int)) (c : Int × Int) (j : Nat) : Prop where
  nodup : (T ++ (F ++ [c])).Nodup
  good : ∀ z, z ∈ T ++ (F ++ [c]) → t z = true
  all : ∀ z, z ∈ S → t z = true → z ∈ T ++ (F ++ [c])
  done : ∀ z, z ∈ F → ∀ j, j < 6 → nb z j ∈ S
  now : ∀ i, i < j → nb c i ∈ S
  first : first ∈ S
  sub : ∀ z, z ∈ T ++ (F ++ [c]) → z ∈ S
theorem FlIn.out {t : Int × Int → Bool} {first : Int × Int} {S T F : List (Int × Int)} {c : Int × Int} (h : FlIn t first S T F c 6) : Fl t first S T (F ++ [c]) :=
  ⟨h.nodup, h.good, h.all, fun z hz j hj => by
    rcases List.mem_append.1 hz with hz | hz
    · exact h.done z hz j hj
    · obtain rfl : z = c := by simpa using hz
      exact h.now j hj, h.first, h.sub⟩
theorem Fl.into {t : Int × Int → Bool} {first : Int × Int} {S T F : List (Int × Int)} (h : Fl t first S T F) {c : Int × Int} {T' : List (Int × Int)} (hp : T.Perm (c :: T')) : FlIn t first S T' F c 0 := by
  have hq : (T ++ F).Perm (T' ++ (F ++ [c])) := by
    have h1 : (T ++ F).Perm ((c :: T') ++ F) := hp.append_right F
    have h2 : (c :: (T' ++ F)).Perm ((T' ++ F) ++ [c]) := (List.perm_append_singleton c (T' ++ F)).symm
    rw [List.append_assoc] at h2
    exact h1.trans h2
  exact ⟨hq.nodup_iff.1 h.nodup, fun z hz => h.good z (hq.mem_iff.2 hz), fun z hz ht => hq.mem_iff.1 (h.all z hz ht), h.done, fun i hi => absurd hi (by omega), h.first, fun z hz => h.sub z (hq.mem_iff.2 hz)⟩
/-- Looked at again: nothing. -/
theorem FlIn.again {t : Int × Int → Bool} {first : Int × Int} {S T F : List (Int × Int)} {c : Int × Int} {j : Nat} (h : FlIn t first S T F c j) (hs : nb c j ∈ S) : FlIn t first S T F c (j + 1) :=
  ⟨h.nodup, h.good, h.all, h.done, fun i hi => by
    rcases Nat.lt_or_ge i j with h1 | h1
    · exact h.now i h1
    · obtain rfl : i = j := by omega
      exact hs, h.first, h.sub⟩
theorem FlIn.off {t : Int × Int → Bool} {first : Int × Int} {S T F : List (Int × Int)} {c : Int × Int} {j : Nat} (h : FlIn t first S T F c j) (ht : t (nb c j) = false) : FlIn t first (nb c j :: S) T F c (j + 1) :=
  ⟨h.nodup, h.good, fun z hz hz2 => by
    rcases List.mem_cons.1 hz with rfl | hz
    · rw [ht] at hz2; cases hz2
    · exact h.all z hz hz2, fun z hz i hi => List.mem_cons_of_mem _ (h.done z hz i hi), fun i hi => by
    rcases Nat.lt_or_ge i j with h1 | h1
    · exact List.mem_cons_of_mem _ (h.now i h1)
    · obtain rfl : i = j := by omega
      exact List.mem_cons_self .., List.mem_cons_of_mem _ h.first, fun z hz => List.mem_cons_of_mem _ (h.sub z hz)⟩
theorem FlIn.on {t : Int × Int → Bool} {first : Int × Int} {S T T' F : List (Int × Int)} {c : Int × Int} {j : Nat} (h : FlIn t first S T F c j) (hs : nb c j ∉ S) (ht : t (nb c j) = true) (hp : T'.Perm (nb c j :: T)) : FlIn t first (nb c j :: S) T' F c (j + 1) := by
  have hq : (T' ++ (F ++ [c])).Perm (nb c j :: (T ++ (F ++ [c]))) := hp.append_right _
  refine ⟨hq.nodup_iff.2 (List.nodup_cons.2 ⟨fun hm => hs (h.sub _ hm), h.nodup⟩), fun z hz => ?_, fun z hz hz2 => ?_, fun z hz i hi => List.mem_cons_of_mem _ (h.done z hz i hi), fun i hi => ?_, List.mem_cons_of_mem _ h.first, fun z hz => ?_⟩
  · rcases List.mem_cons.1 (hq.mem_iff.1 hz) with rfl | hz
    · exact ht
    · exact h.good z hz
  · rcases List.mem_cons.1 hz with rfl | hz
    · exact hq.mem_iff.2 (List.mem_cons_self ..)
    · exact hq.mem_iff.2 (List.mem_cons_of_mem _ (h.all z hz hz2))
  · rcases Nat.lt_or_ge i j with h1 | h1
    · exact List.mem_cons_of_mem _ (h.now i h1)
    · obtain rfl : i = j := by omega
      exact List.mem_cons_self ..
  · rcases List.mem_cons.1 (hq.mem_iff.1 hz) with rfl | hz
    · exact List.mem_cons_self ..
    · exact List.mem_cons_of_mem _ (h.sub z hz)
theorem beside_nb (w c : Int × Int) (h : Hex7 (w.1 - c.1, w.2 - c.2)) : w = c ∨ ∃ j, j < 6 ∧ w = nb c j := by
  obtain ⟨a, b⟩ := w
  obtain ⟨c, d⟩ := c
  unfold Hex7 at h
  simp only [Prod.mk.injEq] at h
  rcases h with h | h | h | h | h | h | h
  · exact .inl (by ext <;> simp only <;> omega)
  · exact .inr ⟨0, by decide, by unfold nb undig; ext <;> simp only <;> omega⟩
  · exact .inr ⟨1, by decide, by unfold nb undig; ext <;> simp only <;> omega⟩
  · exact .inr ⟨2, by decide, by unfold nb undig; ext <;> simp only <;> omega⟩
  · exact .inr ⟨3, by decide, by unfold nb undig; ext <;> simp only <;> omega⟩
  · exact .inr ⟨4, by decide, by unfold nb undig; ext <;> simp only <;> omega⟩
  · exact .inr ⟨5, by decide, by unfold nb undig; ext <;> simp only <;> omega⟩
/-- At the end all cells of the box's points are found. -/
theorem flood_has (l0 l1 h0 h1 : Int) (r : Nat) (S F : List (Int × Int)) (h : Fl (fun z => touchP (3 * l0, 3 * l1) (3 * h0, 3 * h1) (hexL z (12 - r))) (nearZ l0 l1 r) S [] F) (x y : Int) (hx : l0 ≤ x ∧ x ≤ h0) (hy : l1 ≤ y ∧ y ≤ h1) :
    nearZ x y r ∈ F := by
  have touch : ∀ x y, l0 ≤ x → x ≤ h0 → l1 ≤ y → y ≤ h1 → nearZ x y r ∈ S → nearZ x y r ∈ F := fun x y a b c d hs =>
    by simpa using h.all _ hs (touch_ok x y _ (12 - r) (by omega) (near_vor x y r) l0 l1 h0 h1 a b c d)
  have move : ∀ x y x' y', (-1 ≤ x' - x ∧ x' - x ≤ 1) → (-1 ≤ y' - y ∧ y' - y ≤ 1) → (x' = x ∨ y' = y) → l0 ≤ x' → x' ≤ h0 → l1 ≤ y' → y' ≤ h1 → nearZ x y r ∈ F → nearZ x' y' r ∈ F := fun x y x' y' a b c d e f g hF => by
    rcases beside_nb _ _ (step_ok x y x' y' _ _ (12 - r) (by omega) (near_vor x y r) (near_vor x' y' r) a b c) with e1 | ⟨j, hj, e1⟩
    · rw [e1]; exact hF
    · exact touch x' y' d e f g (e1 ▸ h.done _ hF j hj)
  have row : ∀ n : Nat, l0 + n ≤ h0 → nearZ (l0 + n) l1 r ∈ F := by
    intro n
    induction n with
    | zero => intro _; exact touch _ _ (by omega) (by omega) (by omega) (by omega) (by simpa using h.first)
    | succ n ih => intro hn; exact move (l0 + n) l1 _ _ (by omega) (by omega) (.inr rfl) (by omega) (by omega) (by omega) (by omega) (ih (by omega))
  have col : ∀ n : Nat, l1 + n ≤ h1 → nearZ x (l1 + n) r ∈ F := by
    intro n
    induction n with
    | zero =>
      intro _
      have := row (x - l0).toNat (by omega)
      have e : l0 + ((x - l0).toNat : Int) = x := by omega
      rw [e] at this
      simpa using this
    | succ n ih => intro hn; exact move x (l1 + n) _ _ (by omega) (by omega) (.inl rfl) (by omega) (by omega) (by omega) (by omega) (ih (by omega))
  have := col (y - l1).toNat (by omega)
  have e : l1 + ((y - l1).toNat : Int) = y := by omega
  rw [e] at this
  exact this

end Go.Proofs.YtkemmffdiclloaaGreatDoor
