/- Joined for this seat from: XFi XFj XFk. -/
import Derived.Carry
import Derived.Deep.CutBlock
import Derived.Deep.CutRange
import Derived.Test.YtkemmffdiclloaaGreatDoorBs
set_option linter.unusedVariables false
set_option linter.unusedSimpArgs false
namespace Go.Proofs.YtkemmffdiclloaaGreatDoor
open Go.RowKit
/-- The flood's struct, its rows, its map. -/
structure FMem (w0 w : World) (B f m r : Nat) (l h : Int × Int) (vT vF : Value) (S T F : List (Int × Int)) (N : Nat) : Prop where
  bk : Bk w f 101 #[.int .i64 (r : Int), .func (.func 41) #[bxV l h] #[], vT, .map (some m)]
  todo : w.ownsRow B 25 2 vT T.length (ringC T)
  found : w.ownsRow B 25 2 vF F.length (ringC F)
  apart : ∀ k, Own vT k → Own vF k → False
  seen : Seen w m S N
  small : ∀ y ∈ S, SmallE y
  chg : Chg Nil w0 w
  siz : B ≤ w.heap.size
/-- Which blocks these are. -/
structure FAt (w0 : World) (B f m : Nat) : Prop where
  af : w0.heap.size ≤ f ∧ f < B
  am : w0.heap.size ≤ m ∧ m < B
  ne : f ≠ m
section
variable {w0 w w' : World} {B f m r N : Nat} {l h : Int × Int} {vT vF : Value} {S T F : List (Int × Int)}
theorem FMem.keep (H : FMem w0 w B f m r l h vT vF S T F N) (c : Chg Nil w w') : FMem w0 w' B f m r l h vT vF S T F N :=
  ⟨H.bk.keep c (fun h => h), own_keep H.todo c (fun _ _ h => h), own_keep H.found c (fun _ _ h => h), H.apart, by
    obtain ⟨es, cl, e1, e2⟩ := H.seen
    exact ⟨es, cl, c.block e1 (fun h => h), e2⟩, H.small, H.chg.then c, Nat.le_trans H.siz c.size⟩
theorem FMem.start (A : FAt w0 B f m) (hb : Bk w f 101 #[.int .i64 (r : Int), .func (.func 41) #[bxV l h] #[], .slice none 0 0, .map (some m)]) (hm : w.heap[m]? = some (.map #[] 0)) (hc : Chg Nil w0 w) (hB : B ≤ w.heap.size) :
    FMem w0 w B f m r l h (.slice none 0 0) (.slice none 0 0) [] [] [] 0 :=
  ⟨hb, World.ownsRow_nil _ _ _ _, World.ownsRow_nil _ _ _ _, fun k h => by simp [Own, Value.ownBlock] at h, ⟨#[], 0, hm, MapKept.stamped_empty 0, fun x hx => by simp at hx, fun z hz => by simp at hz⟩, fun y hy => by simp at hy, hc, hB⟩
theorem FMem.looked (A : FAt w0 B f m) (H : FMem w0 w B f m r l h vT vF S T F N) {v' : Value} {n' : Nat} {T' : List (Int × Int)} {z : Int × Int} (hz : SmallE z) (hl : T'.length = n')
    (h1 : Bk w' f 101 #[.int .i64 (r : Int), .func (.func 41) #[bxV l h] #[], v', .map (some m)]) (h2 : w'.ownsRow B 25 2 v' n' (ringC T')) (h3 : Seen w' m (z :: S) (N + 1))
    (h4 : Chg (fun k => k = f ∨ k = m ∨ Own vT k) w w') (h5 : ∀ k, Own v' k → Own vT k ∨ w.heap.size ≤ k) : FMem w0 w' B f m r l h v' vF (z :: S) T' F (N + 1) := by
  have lo : ∀ k, Own vF k → B ≤ k ∧ k < w.heap.size := fun k hk => World.ownsRow.lt H.found k hk
  have lt : ∀ k, Own vT k → B ≤ k ∧ k < w.heap.size := fun k hk => World.ownsRow.lt H.todo k hk
  have a1 := A.af
  have a2 := A.am
  refine ⟨h1, by rw [hl]; exact h2, own_keep H.found h4 (fun k hk hs => ?_), fun k hk hf => ?_, h3, fun y hy => ?_, H.chg.trans h4 (fun k hk hs => ?_), Nat.le_trans H.siz h4.size⟩
  · have := lo k hk
    rcases hs with hs | hs | hs
    · omega
    · omega
    · exact H.apart k hs hk
  · have := lo k hf
    rcases h5 k hk with hs | hs
    · exact H.apart k hs hf
    · omega
  · rcases List.mem_cons.1 hy with rfl | hy
    · exact hz
    · exact H.small y hy
  · rcases hs with hs | hs | hs
    · omega
    · omega
    · have := lt k hs
      omega
/-- Popped: the row's block and the struct alone have changed. -/
theorem FMem.popped (A : FAt w0 B f m) {g cap n : Nat} (H : FMem w0 w B f m r l h (.slice (some { block := g, off := 0 }) (n + 1) cap) vF S T F N) {T' : List (Int × Int)} (hl : T'.length = n)
    (h1 : Bk w' f 101 #[.int .i64 (r : Int), .func (.func 41) #[bxV l h] #[], .slice (some { block := g, off := 0 }) n cap, .map (some m)]) (h2 : ERow w' B g cap T')
    (h4 : Chg (fun k => k = f ∨ k = g) w w') : FMem w0 w' B f m r l h (.slice (some { block := g, off := 0 }) n cap) vF S T' F N := by
  have lo : ∀ k, Own vF k → B ≤ k ∧ k < w.heap.size := fun k hk => World.ownsRow.lt H.found k hk
  have lt : B ≤ g ∧ g < w.heap.size := World.ownsRow.lt H.todo g rfl
  have a1 := A.af
  have a2 := A.am
  have a3 := A.ne
  have h2' : w'.ownsRow B 25 2 (.slice (some { block := g, off := 0 }) n cap) T'.length (ringC T') := by
    unfold ERow at h2
    rwa [hl] at h2 ⊢
  refine ⟨h1, h2', own_keep H.found h4 (fun k hk hs => ?_), fun k hk hf => ?_, ?_, H.small, H.chg.trans h4 (fun k hk hs => ?_), Nat.le_trans H.siz h4.size⟩
  · have := lo k hk
    rcases hs with hs | hs
    · omega
    · exact H.apart k (by subst hs; rfl) hk
  · exact H.apart k (by have := own_at hk; subst this; rfl) hf
  · obtain ⟨es, cl, e1, e2⟩ := H.seen
    refine ⟨es, cl, h4.block e1 (fun hs => ?_), e2⟩
    rcases hs with hs | hs
    · exact a3 hs.symm
    · omega
  · rcases hs with hs | hs <;> omega
/-- Found: appended. -/
theorem FMem.grew (A : FAt w0 B f m) (H : FMem w0 w B f m r l h vT vF S T F N) {v' : Value} {z : Int × Int} (h2 : w'.ownsRow B 25 2 v' (F.length + 1) (ringC F ++ [.int .i64 z.1, .int .i64 z.2])) (hg : Grew w vF w' v') :
    FMem w0 w' B f m r l h vT v' S T (F ++ [z]) N := by
  have lo : ∀ k, Own vF k → B ≤ k ∧ k < w.heap.size := fun k hk => World.ownsRow.lt H.found k hk
  have lt : ∀ k, Own vT k → B ≤ k ∧ k < w.heap.size := fun k hk => World.ownsRow.lt H.todo k hk
  have a1 := A.af
  have a2 := A.am
  refine ⟨H.bk.keep hg.chg (fun hs => by have := lo f hs; omega), own_keep H.todo hg.chg (fun k hk hs => H.apart k hk hs), by rw [List.length_append, ringC_append]; exact h2, fun k hk hf => ?_, ?_, H.small, H.chg.trans hg.chg (fun k hk hs => ?_), Nat.le_trans H.siz hg.chg.size⟩
  · exact H.apart k hk (hg.lies k (lt k hk).2 hf)
  · obtain ⟨es, cl, e1, e2⟩ := H.seen
    exact ⟨es, cl, hg.chg.block e1 (fun hs => by have := lo m hs; omega), e2⟩
  · have := lo k hs
    omega
theorem FMem.slice (H : FMem w0 w B f m r l h vT vF S T F N) : ∃ A cap, vT = .slice A T.length cap := by
  rcases H.todo.2 with ⟨h1, h2⟩ | ⟨g, cap, cur, h1, _⟩
  · exact ⟨none, 0, by rw [h1, h2]⟩
  · exact ⟨_, cap, h1⟩
end
theorem FMem.sliceF {w0 w : World} {B f m r N : Nat} {l h : Int × Int} {vT vF : Value} {S T F : List (Int × Int)} (H : FMem w0 w B f m r l h vT vF S T F N) : ∃ A cap, vF = .slice A F.length cap := by
  rcases H.found.2 with ⟨h1, h2⟩ | ⟨g, cap, cur, h1, _⟩
  · exact ⟨none, 0, by rw [h1, h2]⟩
  · exact ⟨_, cap, h1⟩
def slen : Value → Nat
  | .slice _ n _ => n
  | _ => 0
theorem nearc_smallE {x y : Int} {z : Int × Int} {k : Nat} (hk : k ≤ 12) (hw : World_ x y) (h : NearC 4 x y z k) : SmallE z := by
  have := nearc_small x y z k hk hw h
  unfold SmallE
  omega
theorem nb_unit (z : Int × Int) (k : Nat) (hk : k < 6) : nb z k = (z.1 + unitA k, z.2 + unitB k) := by
  have h6 : k = 0 ∨ k = 1 ∨ k = 2 ∨ k = 3 ∨ k = 4 ∨ k = 5 := by omega
  rcases h6 with rfl | rfl | rfl | rfl | rfl | rfl <;> rfl
theorem Fl.begin {t : Int × Int → Bool} {first : Int × Int} {T' : List (Int × Int)} (h : (first ∈ [] ∧ T' = []) ∨ (first ∉ [] ∧ t first = false ∧ T' = []) ∨ (first ∉ [] ∧ t first = true ∧ T'.Perm [first])) : Fl t first [first] T' [] := by
  rcases h with ⟨h, _⟩ | ⟨_, h1, rfl⟩ | ⟨_, h1, h2⟩
  · cases h
  · refine ⟨by simp, fun z hz => (by simp at hz), fun z hz ht => ?_, fun z hz => (by simp at hz), by simp, fun z hz => (by simp at hz)⟩
    obtain rfl : z = first := by simpa using hz
    rw [h1] at ht
    cases ht
  · have hm : ∀ z, z ∈ T' ++ [] ↔ z = first := fun z => by rw [List.append_nil, h2.mem_iff]; simp
    exact ⟨(by rw [List.append_nil, h2.nodup_iff]; simp), fun z hz => (by rw [(hm z).1 hz]; exact h1), fun z hz _ => (hm z).2 (by simpa using hz), fun z hz => (by simp at hz), by simp, fun z hz => (by rw [(hm z).1 hz]; simp)⟩
theorem FlIn.look {t : Int × Int → Bool} {first : Int × Int} {S T F T' : List (Int × Int)} {c : Int × Int} {j : Nat} (h : FlIn t first S T F c j)
    (hc : (nb c j ∈ S ∧ T' = T) ∨ (nb c j ∉ S ∧ t (nb c j) = false ∧ T' = T) ∨ (nb c j ∉ S ∧ t (nb c j) = true ∧ T'.Perm (nb c j :: T))) : FlIn t first (nb c j :: S) T' F c (j + 1) := by
  rcases hc with ⟨h1, rfl⟩ | ⟨_, h1, rfl⟩ | ⟨h0, h1, h2⟩
  · have k := h.again h1
    have hs : ∀ z, z ∈ nb c j :: S → z ∈ S := fun z hz => by
      rcases List.mem_cons.1 hz with rfl | hz
      · exact h1
      · exact hz
    exact ⟨k.nodup, k.good, fun z hz ht => k.all z (hs z hz) ht, fun z hz i hi => List.mem_cons_of_mem _ (k.done z hz i hi), fun i hi => List.mem_cons_of_mem _ (k.now i hi), List.mem_cons_of_mem _ k.first, fun z hz => List.mem_cons_of_mem _ (k.sub z hz)⟩
  · exact h.off h1
  · exact h.on h0 h1 h2
/-- What is found or to be looked at is near a point of the box. -/
theorem found_near {l0 l1 h0 h1 : Int} {k : Nat} (hk : k ≤ 12) (hwl : World_ l0 l1) (hwh : World_ h0 h1) (hb0 : l0 ≤ h0) (hb1 : l1 ≤ h1) {z : Int × Int} (ht : touchP (3 * l0, 3 * l1) (3 * h0, 3 * h1) (hexL z k) = true) : ∃ x y, World_ x y ∧ NearC 2 x y z k := by
  obtain ⟨x, y, a1, a2, a3, a4, a5⟩ := touch_near l0 l1 h0 h1 z k hk hb0 hb1 ht
  exact ⟨x, y, by unfold World_ at *; omega, a5⟩
/-- A sorted row of words. -/
theorem sorted_out {ws : List Nat} {Y : List Int} (hp : Y.Perm (ws.map fun a : Nat => (a : Int))) (hs : Srt Y 0 ws.length) : Rising (Y.map Int.toNat) ∧ (∀ a, a ∈ ws → a ∈ Y.map Int.toNat) ∧ (Y.map Int.toNat).length = ws.length ∧ ∀ (j a : Nat), (Y.map Int.toNat)[j]? = some a → j < Y.length ∧ ix Y j = (a : Int) := by
  have hl : Y.length = ws.length := by rw [hp.length_eq, List.length_map]
  have key : ∀ (j a : Nat), (Y.map Int.toNat)[j]? = some a → j < Y.length ∧ ix Y j = (a : Int) := fun j a h => by
    rw [List.getElem?_map] at h
    obtain ⟨v, hv, he⟩ := Option.map_eq_some_iff.1 h
    have hj := (List.getElem?_eq_some_iff.1 hv).1
    obtain ⟨b, _, hb⟩ := List.mem_map.1 (hp.mem_iff.1 (List.mem_of_getElem? hv))
    have hx : ix Y j = v := by simp [ix, List.getD, hv]
    refine ⟨hj, ?_⟩
    rw [hx, ← he, ← hb]
    simp
  refine ⟨fun i j a b hij ha hb => ?_, fun a ha => List.mem_map.2 ⟨(a : Int), hp.mem_iff.2 (List.mem_map.2 ⟨a, ha, rfl⟩), by simp⟩, by rw [List.length_map, hl], key⟩
  obtain ⟨h1, h2⟩ := key i a ha
  obtain ⟨h3, h4⟩ := key j b hb
  rcases Nat.lt_or_ge i j with h | h
  · have := hs i j (Nat.zero_le _) h (by omega)
    omega
  · have e : i = j := by omega
    subst e
    omega
theorem urow_of {w : World} {base g n cap : Nat} {X : List Int} (h : w.ownsRow base 31 1 (.slice (some { block := g, off := 0 }) n cap) n (X.map fun a => Value.int .u64 a)) : URow w g X := by
  have hl : X.length = n := by have := h.1; simpa using this
  refine ⟨(World.ownsRow.lt h g rfl).2, fun j hj => ?_, fun j => World.ownsRow.frozenAt h j⟩
  rw [World.ownsRow.cellAt h j (by omega), List.getElem?_map, ix_get hj]
  rfl
theorem infoU : ∃ i : TypeInfo, Tryz.prog.info? 31 = some i ∧ i.zero = some (.int .u64 0) ∧ i.size = 1 ∧ i.bytes = 8 := by
  have h : (Tryz.prog.info? 31).map (fun i => (i.zero, i.size, i.bytes)) = some (some (.int .u64 0), 1, 8) := by kernel_rfl
  cases hi : Tryz.prog.info? 31 with
  | none => rw [hi] at h; cases h
  | some i =>
    rw [hi] at h
    simp only [Option.map_some, Option.some.injEq, Prod.mk.injEq] at h
    exact ⟨i, rfl, h.1, h.2.1, h.2.2⟩
theorem unit_bd (k : Nat) (hk : k < 6) : (-1 ≤ unitA k ∧ unitA k ≤ 1) ∧ (-1 ≤ unitB k ∧ unitB k ≤ 1) := by
  have h6 : k = 0 ∨ k = 1 ∨ k = 2 ∨ k = 3 ∨ k = 4 ∨ k = 5 := by omega
  rcases h6 with rfl | rfl | rfl | rfl | rfl | rfl <;> decide

end Go.Proofs.YtkemmffdiclloaaGreatDoor
namespace Go.Proofs.YtkemmffdiclloaaGreatDoor
open Go.RowKit
set_option maxHeartbeats 16000000 in
set_option maxRecDepth 100000 in
theorem box_any (l0 l1 h0 h1 : Int) (r : Nat) (hr : r ≤ 12) (hwl : World_ l0 l1) (hwh : World_ h0 h1) (hb0 : l0 ≤ h0 ∧ h0 ≤ l0 + 511) (hb1 : l1 ≤ h1 ∧ h1 ≤ l1 + 511) (x y : Int) (hx : l0 ≤ x ∧ x ≤ h0) (hy : l1 ≤ y ∧ y ≤ h1) (w : World) :
    Calls Tryz.prog 11 #[pV (l0, l1), pV (h0, h1), .int .i64 (r : Int)] w fun e w' => ∃ (g n c : Nat) (xs : List Nat), e = .returned (.tuple #[.slice (some { block := g, off := 0 }) n c, .int .i64 0]) ∧
      xs.length = n ∧ n ≤ 1000000 ∧ Rising xs ∧ wordP (nearZ x y r) r ∈ xs ∧ (∀ (j a : Nat), xs[j]? = some a → w'.cell? { block := g, off := j } = some (.int .u64 (a : Int))) ∧ Chg Nil w w' := by
  have q1 := fun W => check_any l0 l1 h0 h1 r hr hwl hwh hb0.1 hb1.1 W
  have q2 := fun W => inThirds_any l0 l1 h0 h1 (by unfold Boxed; unfold World_ at hwl hwh; omega) W
  have q3 := fun W => cellOf_any l0 l1 r hr hwl W
  have HH := Hid.mk (And.intro hwl (And.intro hwh (And.intro hb0 (And.intro hb1 (And.intro hx hy)))))
  clear hwl hwh hb0 hb1 hx hy
  unfold pV cV boxV at *
  obtain ⟨first, hfirst⟩ : ∃ z, z = nearZ l0 l1 r := ⟨_, rfl⟩
  rw [← hfirst] at q3
  have HF := Hid.mk hfirst
  clear hfirst
  have HR0 := Hid.mk hr
  have mm := fun W : World => run_makeMap (P := Tryz.prog) 97 W
  go_enter Tryz.func11, Tryz.ntmps11
  go_wp2_with fail
  have hB := box2 w 37 37 #[.int .i64 l0, .int .i64 l1] #[.int .i64 h0, .int .i64 h1]
  generalize (w.alloc (.cells #[.int .i64 l0, .int .i64 l1] 37)).alloc (.cells #[.int .i64 h0, .int .i64 h1] 37) = w1 at *
  have H1 := Hid.mk hB
  clear hB
  refine (q1 _).mono ?_
  rintro e w2 ⟨rfl, c2⟩
  have H2 := Hid.mk (And.intro (H1.out.1.keep c2 (fun h => h)) (And.intro (H1.out.2.1.keep c2 (fun h => h)) (H1.out.2.2.then c2)))
  clear H1 c2 q1
  obtain ⟨G, hG⟩ : ∃ G, G = w.heap.size := ⟨_, rfl⟩
  rw [← hG] at H2 ⊢
  clear hG
  have y0 := H2.out.1.cell 0 rfl
  have y1 := H2.out.1.cell 1 rfl
  have y2 := H2.out.2.1.cell 0 rfl
  have y3 := H2.out.2.1.cell 1 rfl
  have l1' := H2.out.1.lt
  have l2' := H2.out.2.1.lt
  go_wp2_with fail
  refine (q2 _).mono ?_
  rintro e w3 ⟨rfl, c3⟩
  clear y0 y1 y2 y3 l1' l2' q2
  have H3 := Hid.mk (And.intro (H2.out.1.keep c3 (fun h => h)) (H2.out.2.2.then c3))
  clear H2 c3
  have y0 := H3.out.1.cell 0 rfl
  have y1 := H3.out.1.cell 1 rfl
  have l1' := H3.out.1.lt
  go_upto_region 6 with fail
  clear y0 y1 l1' mm
  have hbx : Value.agg #[.int .i64 (3 * l0), .int .i64 (3 * l1), .int .i64 (3 * h0), .int .i64 (3 * h1)] = bxV (3 * l0, 3 * l1) (3 * h0, 3 * h1) := rfl
  rw [hbx]
  clear hbx
  have s1 : (w3.alloc (.cells #[.int .i64 (3 * l0), .int .i64 (3 * l1), .int .i64 (3 * h0), .int .i64 (3 * h1)] 92)).heap.size = w3.heap.size + 1 := by simp
  have s2 : ((w3.alloc (.cells #[.int .i64 (3 * l0), .int .i64 (3 * l1), .int .i64 (3 * h0), .int .i64 (3 * h1)] 92)).alloc (.map #[] 0)).heap.size = w3.heap.size + 1 + 1 := by simp
  have hbf := Bk.new ((w3.alloc (.cells #[.int .i64 (3 * l0), .int .i64 (3 * l1), .int .i64 (3 * h0), .int .i64 (3 * h1)] 92)).alloc (.map #[] 0)) 101 #[.int .i64 (r : Int), .func (.func 41) #[bxV (3 * l0, 3 * l1) (3 * h0, 3 * h1)] #[], .slice none 0 0, .map (some (w3.heap.size + 1))]
  rw [s2] at hbf
  have hmp : (((w3.alloc (.cells #[.int .i64 (3 * l0), .int .i64 (3 * l1), .int .i64 (3 * h0), .int .i64 (3 * h1)] 92)).alloc (.map #[] 0)).alloc (.cells #[.int .i64 (r : Int), .func (.func 41) #[bxV (3 * l0, 3 * l1) (3 * h0, 3 * h1)] #[], .slice none 0 0, .map (some (w3.heap.size + 1))] 101)).heap[w3.heap.size + 1]? = some (.map #[] 0) := by
    rw [heap_alloc_old _ _ (by rw [s2]; omega)]
    have := heap_alloc_new (w3.alloc (.cells #[.int .i64 (3 * l0), .int .i64 (3 * l1), .int .i64 (3 * h0), .int .i64 (3 * h1)] 92)) (.map #[] 0)
    rwa [s1] at this
  have hcw : Chg Nil w3 (((w3.alloc (.cells #[.int .i64 (3 * l0), .int .i64 (3 * l1), .int .i64 (3 * h0), .int .i64 (3 * h1)] 92)).alloc (.map #[] 0)).alloc (.cells #[.int .i64 (r : Int), .func (.func 41) #[bxV (3 * l0, 3 * l1) (3 * h0, 3 * h1)] #[], .slice none 0 0, .map (some (w3.heap.size + 1))] 101)) := (((Chg.refl Nil w3).alloc _).alloc _).alloc _
  have s3 : (((w3.alloc (.cells #[.int .i64 (3 * l0), .int .i64 (3 * l1), .int .i64 (3 * h0), .int .i64 (3 * h1)] 92)).alloc (.map #[] 0)).alloc (.cells #[.int .i64 (r : Int), .func (.func 41) #[bxV (3 * l0, 3 * l1) (3 * h0, 3 * h1)] #[], .slice none 0 0, .map (some (w3.heap.size + 1))] 101)).heap.size = w3.heap.size + 1 + 1 + 1 := by simp
  have hA : FAt w (w3.heap.size + 1 + 1 + 1) (w3.heap.size + 1 + 1) (w3.heap.size + 1) := ⟨⟨by have := H3.out.2.size; omega, by omega⟩, ⟨by have := H3.out.2.size; omega, by omega⟩, by omega⟩
  have hM := FMem.start (r := r) (l := (3 * l0, 3 * l1)) (h := (3 * h0, 3 * h1)) hA hbf hmp (H3.out.2.then hcw) (by rw [s3]; exact Nat.le_refl _)
  have H4 := Hid.mk (And.intro hM (H3.out.1.keep hcw (fun h => h)))
  clear hbf hmp hcw s1 s2 s3 hM H3
  generalize ((w3.alloc (.cells #[.int .i64 (3 * l0), .int .i64 (3 * l1), .int .i64 (3 * h0), .int .i64 (3 * h1)] 92)).alloc (.map #[] 0)).alloc (.cells #[.int .i64 (r : Int), .func (.func 41) #[bxV (3 * l0, 3 * l1) (3 * h0, 3 * h1)] #[], .slice none 0 0, .map (some (w3.heap.size + 1))] 101) = w4 at *
  have HA := Hid.mk hA
  clear hA
  generalize w3.heap.size + 1 + 1 + 1 = B at *
  generalize w3.heap.size + 1 + 1 = f at *
  generalize w3.heap.size + 1 = m at *
  generalize w3.heap.size = bb at *
  have y0 := H4.out.2.cell 0 rfl
  have y1 := H4.out.2.cell 1 rfl
  have l1' := H4.out.2.lt
  go_wp2_with fail
  refine (q3 _).mono ?_
  rintro e w5 ⟨rfl, c5⟩
  clear q3 y0 y1 l1'
  have H5 := Hid.mk (H4.out.1.keep c5)
  clear H4 c5
  go_upto_region 7 with fail
  have hnc : NearC 2 l0 l1 first (12 - r) := nearc_of _ _ _ _ (nearby_of l0 l1 first (12 - r) (by omega) (by rw [HF.out]; exact near_vor l0 l1 r))
  have hz : SmallE first := nearc_smallE (by omega) HH.out.1 (nearc_wide _ _ _ _ hnc)
  have hok : RingOk (hexL first (12 - r)) := ring_ok l0 l1 first (12 - r) (by omega) HH.out.1 (nearc_wide _ _ _ _ hnc)
  have hsl : Small34 (3 * l0, 3 * l1) := by
    have := HH.out.1
    unfold World_ at this
    unfold Small34
    simp only
    omega
  have hsh : Small34 (3 * h0, 3 * h1) := by
    have := HH.out.2.1
    unfold World_ at this
    unfold Small34
    simp only
    omega
  have HSL := Hid.mk (And.intro hsl hsh)
  have H6 := Hid.mk (H5.out.keep ((Chg.refl Nil w5).alloc (.cells #[.int .i64 (r : Int), .int .i64 first.1, .int .i64 first.2] 27)))
  have hlk := look_any B f m 0 0 r (3 * l0, 3 * l1) (3 * h0, 3 * h1) (.slice none 0 0) [] [] first hr hz (fun y hy => by simp at hy) (by omega) rfl (by omega) hsl hsh hok _ H6.out.bk H6.out.todo H6.out.seen HA.out.ne HA.out.af.2 HA.out.am.2 H6.out.siz
  clear hsl hsh hok hnc
  have HZ := Hid.mk hz
  clear hz H5
  go_wp2_with fail
  refine hlk.mono ?_
  rintro e w7 ⟨rfl, v7, n7, T7, hl7, b7, r7, s7, k7, c7, o7⟩
  have H7 := Hid.mk (And.intro (Fl.begin (t := (fun z => touchP (3 * l0, 3 * l1) (3 * h0, 3 * h1) (hexL z (12 - r)))) k7) (H6.out.looked HA.out HZ.out hl7 b7 r7 s7 c7 o7))
  clear hlk hl7 b7 r7 s7 k7 c7 o7 H6 HZ
  go_wp2_with fail
  go_loopw [14] (fun v14 wr => ∃ (A : Option Addr) (cap N : Nat) (vT : Value) (S T F : List (Int × Int)), v14 = .slice A F.length cap ∧ N ≤ 6 * F.length + 1 ∧ Hid (Fl (fun z => touchP (3 * l0, 3 * l1) (3 * h0, 3 * h1) (hexL z (12 - r))) first S T F ∧ FMem w wr B f m r (3 * l0, 3 * l1) (3 * h0, 3 * h1) vT v14 S T F N)) (fun v14 _ => 20000 - slen v14)
  case atStart => exact ⟨none, 0, 1, v7, _, T7, [], rfl, by simp, H7⟩
  case round =>
    obtain ⟨A, cap, N, vT, S, T, F, rfl, hN, HR⟩ := hrel
    clear H7
    have hfew := flood_few l0 l1 h0 h1 (12 - r) (by omega) HH.out.2.2.1 HH.out.2.2.2.1 (T ++ F) HR.out.1.nodup (fun z hz => HR.out.1.good z hz)
    rw [List.length_append] at hfew
    obtain ⟨A', cap', hvT⟩ := HR.out.2.slice
    subst hvT
    have y2 := HR.out.2.bk.cell 2 rfl
    have lf := HR.out.2.bk.lt
    cases hT : T with
    | nil =>
      subst hT
      have hbase : ∀ z, z ∈ F → Based z r ∧ SmallE z := fun z hz => by
        obtain ⟨px, py, hpw, hpn⟩ := found_near (k := 12 - r) (by omega) HH.out.1 HH.out.2.1 HH.out.2.2.1.1 HH.out.2.2.2.1.1 (HR.out.1.good z (List.mem_append_right _ hz))
        exact ⟨nearc_base px py z r hr hpw hpn, nearc_smallE (by omega) hpw (nearc_wide _ _ _ _ hpn)⟩
      have hin : nearZ x y r ∈ F := by
        have := flood_has l0 l1 h0 h1 r S F (by rw [← HF.out]; exact HR.out.1) x y HH.out.2.2.2.2.1 HH.out.2.2.2.2.2
        exact this
      have hpos : 0 < F.length := List.length_pos_of_mem hin
      obtain ⟨gF, cF, eF, hgF1, hgF2⟩ := HR.out.2.found.form (by omega)
      obtain ⟨rfl, rfl⟩ : A = some { block := gF, off := 0 } ∧ cap = cF := by
        injection eF with e1 e2 e3
        exact ⟨e1, e3⟩
      have hE : ERow wr B gF cap F := HR.out.2.found
      have hfewF : F.length ≤ 14641 := by omega
      have HX := Hid.mk (And.intro hbase (And.intro hin (And.intro hE (And.intro HR.out.2.chg hgF2))))
      clear hbase hin hE hgF1 eF hfew
      have k1 : decide ((0 : Int) < 0) = false := rfl
      go_wp2_with fail
      refine (rowLen_any _ _ _ _).mono ?_
      rintro e w8 ⟨rfl, rfl⟩
      clear HR lf y2
      go_wp2_with fail
      obtain ⟨i0, hi, hz0, hz1, hz2⟩ := infoU
      have HI := Hid.mk (And.intro hi (And.intro hz0 (And.intro hz1 hz2)))
      clear hi hz0 hz1 hz2
      obtain ⟨fl, hfl⟩ : ∃ fl, fl = F.length := ⟨_, rfl⟩
      have HFL := Hid.mk hfl
      rw [← hfl] at hpos hfewF ⊢
      clear hfl
      go_loopw [20, 95] (fun v20 v95 wr => ∃ j : Nat, j ≤ fl ∧ v95 = .int .i64 (j : Int) ∧ Hid (wr.ownsRow w8.heap.size 31 1 v20 j (((F.take j).map fun z => (wordP z r : Int)).map fun a => Value.int .u64 a) ∧ ERow wr B gF cap F ∧ Chg Nil w wr ∧ w8.heap.size ≤ wr.heap.size)) (fun _ v95 _ => fl - (intOf v95).toNat)
      case atStart => exact ⟨0, Nat.zero_le _, rfl, Hid.mk ⟨World.ownsRow_nil _ _ _ _, HX.out.2.2.1, HX.out.2.2.2.1, Nat.le_refl _⟩⟩
      case round =>
        obtain ⟨j, hj, rfl, HL⟩ := hrel
        by_cases hjl : j < fl
        · have k3 : decide ((j : Int) < (fl : Int)) = true := decide_eq_true (by omega)
          obtain ⟨z, hz⟩ : ∃ z, F[j]? = some z := ⟨_, List.getElem?_eq_getElem (by have := HFL.out; omega)⟩
          have y0 := (HL.out.2.1.at hz).1
          have y1 := (HL.out.2.1.at hz).2
          have lg := HL.out.2.1.lt.2
          have hzb := HX.out.1 z (List.mem_of_getElem? hz)
          have hid := fun W => identOf_any r z hr hzb.2.1 hzb.2.2 hzb.1 W
          unfold cV at hid
          have HZ := Hid.mk hz
          clear hz hzb
          go_wp2_with fail
          refine (hid _).mono ?_
          rintro e w9 ⟨rfl, c9⟩
          have K := ((Chg.refl Nil wr).alloc (.cells #[.int .i64 z.1, .int .i64 z.2] 25)).then c9
          have H1 := Hid.mk (And.intro (own_keep HL.out.1 K (fun _ _ h => h)) (And.intro (show ERow w9 B gF cap F from own_keep HL.out.2.1 K (fun _ _ h => h)) (And.intro (HL.out.2.2.1.then K) (Nat.le_trans HL.out.2.2.2 K.size))))
          clear c9 K hid y0 y1 lg HL
          obtain ⟨hi, hz0, hz1, hz2⟩ := HI.out
          go_wp2_with (at_builtin; refine wpl_append rfl (.tmp 108) (.tmp 110) 38 rfl w8.heap.size 31 i0 _ 1 8 Tryz.underlying38 hi hz0 hz1 hz2 rfl (by omega) _ j _ rfl (own_keep H1.out.1 ((Chg.refl Nil w9).alloc _) (fun _ _ h => h)) _ (some ⟨w9.heap.size, 0, none⟩) 1 1 _ rfl (rds_one w9 _ _) (by intro u hu; simp at hu; subst hu; rfl) (by simp only [maxLen]; omega) (by omega) (by have := H1.out.2.2.2; simp; omega) ?_; intro v2 w10 o2 g2; have H2 := Hid.mk (And.intro o2 g2); clear o2 g2)
          have hkeep : Chg Nil w w10 := (H1.out.2.2.1.then ((Chg.refl Nil w9).alloc (.cells #[.int .u64 (wordP z r : Int)] 31))).trans H2.out.2.chg (fun k hk h => by
            have h1 := (World.ownsRow.lt H1.out.1 k h).1
            have h2 := HX.out.2.2.2.1.size
            omega)
          have hrow10 : ERow w10 B gF cap F := own_keep (own_keep H1.out.2.1 ((Chg.refl Nil w9).alloc (.cells #[.int .u64 (wordP z r : Int)] 31)) (fun _ _ h => h)) H2.out.2.chg (fun k h1 h2 => by
            have h3 := own_at h1
            have h4 := (World.ownsRow.lt H1.out.1 k h2).1
            have h5 := HX.out.2.2.2.2
            omega)
          have hsz10 : w8.heap.size ≤ w10.heap.size := Nat.le_trans H1.out.2.2.2 (Nat.le_trans (by simp) H2.out.2.chg.size)
          have htk : ((F.take (j + 1)).map fun z => (wordP z r : Int)).map (fun a => Value.int .u64 a) = (((F.take j).map fun z => (wordP z r : Int)).map fun a => Value.int .u64 a) ++ [.int .u64 (wordP z r : Int)] := by
            rw [List.take_add_one, HZ.out]; simp
          refine ⟨⟨j + 1, by omega, by go_num, Hid.mk ⟨by rw [htk]; exact H2.out.1, hrow10, hkeep, hsz10⟩⟩, by simp [intOf]; omega⟩
        · obtain rfl : j = fl := by omega
          have k3 : decide ((j : Int) < (j : Int)) = false := decide_eq_false (by omega)
          have hall : F.take j = F := by rw [HFL.out, List.take_length]
          rw [hall] at HL
          obtain ⟨gO, cO, e1, hg1, hg2⟩ := HL.out.1.form hpos
          subst e1
          have hlx : (F.map fun z => (wordP z r : Int)).length = j := by rw [List.length_map, HFL.out]
          have hst := sort_any gO j cO (F.map fun z => (wordP z r : Int)) hlx (by omega) wr (urow_of HL.out.1)
          have hch := HL.out.2.2.1
          have HC := Hid.mk (And.intro hch (show w.heap.size ≤ gO from Nat.le_trans HX.out.2.2.2.1.size hg1))
          clear hch HL hg1 hg2 hall
          go_wp2_with fail
          refine hst.mono ?_
          rintro e w9 ⟨rfl, Y, p1, p2, p3, p4⟩
          have hso := sorted_out (ws := F.map fun z => wordP z r) (Y := Y) (by rw [List.map_map]; exact p1) (by rw [List.length_map, ← HFL.out]; exact p2)
          have HO := Hid.mk (And.intro hso (And.intro p3 (HC.out.1.trans p4 (fun k hk h => by have h1 := HC.out.2; have h2 : k = gO := h; omega))))
          clear hso p1 p2 p3 p4 hst HC
          go_wp2_with fail
          go_ret2
          refine ⟨gO, j, cO, Y.map Int.toNat, rfl, by rw [HO.out.1.2.2.1, List.length_map, ← HFL.out], by omega, HO.out.1.1, HO.out.1.2.1 _ (List.mem_map.2 ⟨_, HX.out.2.1, rfl⟩), fun i a h => ?_, HO.out.2.2⟩
          obtain ⟨g1, g2⟩ := HO.out.1.2.2.2 i a h
          rw [← g2]
          exact HO.out.2.1.cell i g1
    | cons t0 T0 =>
      have hTl : T.length = T0.length + 1 := by rw [hT]; rfl
      have HTT := Hid.mk hT
      clear hT
      rw [hTl] at y2 HR
      generalize T0.length = n at *
      obtain ⟨g, cp, e1, hg1, hg2⟩ := HR.out.2.todo.form (by omega)
      obtain ⟨rfl, rfl⟩ : A' = some { block := g, off := 0 } ∧ cap' = cp := by
        injection e1 with e1 e2 e3
        exact ⟨e1, e3⟩
      have hE : ERow wr B g cap' T := by
        have := HR.out.2.todo
        unfold ERow
        rw [hTl] at this ⊢
        exact this
      have HE := Hid.mk hE
      clear hE e1
      have k1 : decide (0 < ((n : Int) + 1)) = true := decide_eq_true (by omega)
      go_wp2_with fail
      refine (rowLen_any _ _ _ _).mono ?_
      rintro e w8 ⟨rfl, rfl⟩
      go_wp2_with fail
      refine (heapPop_any B f g cap' n (.int .i64 (r : Int)) (.func (.func 41) #[bxV (3 * l0, 3 * l1) (3 * h0, 3 * h1)] #[]) (.map (some m)) T hTl (by omega) _ HR.out.2.bk HE.out HA.out.af.2).mono ?_
      rintro e w9 ⟨c, T9, rfl, hp9, hb9, he9, hl9, hc9⟩
      have H9 := Hid.mk (And.intro (HR.out.1.into hp9) (HR.out.2.popped HA.out hl9 hb9 he9 hc9))
      have hcT : c ∈ T := hp9.mem_iff.2 (List.mem_cons_self ..)
      have hct := HR.out.1.good c (List.mem_append_left _ hcT)
      have HCT := Hid.mk hct
      have hlT := hp9.length_eq
      clear hp9 hb9 he9 hl9 hc9 HR HE y2 lf hcT hct hlT HTT k1
      have hta := assertE (eV c.1 c.2) w9
      unfold eV at hta ⊢
      go_upto_region 11 with fail
      obtain ⟨Z, hZ⟩ : ∃ Z, Z = w9.heap.size := ⟨_, rfl⟩
      have hbz := Bk.new w9 25 #[.int .i64 c.1, .int .i64 c.2]
      have hcz : Chg Nil w9 (w9.alloc (.cells #[.int .i64 c.1, .int .i64 c.2] 25)) := (Chg.refl Nil w9).alloc _
      have hsz : (w9.alloc (.cells #[.int .i64 c.1, .int .i64 c.2] 25)).heap.size = Z + 1 := by rw [hZ]; simp
      have hZB : B ≤ Z := by have := H9.out.2.siz; omega
      have hZT : ∀ k, Own (.slice (some { block := g, off := 0 }) n cap') k → k < Z := fun k hk => by have := (World.ownsRow.lt H9.out.2.todo k hk).2; omega
      have hZF : ∀ k, Own (.slice A F.length cap) k → k < Z := fun k hk => by have := (World.ownsRow.lt H9.out.2.found k hk).2; omega
      rw [← hZ] at hbz ⊢
      have hfl9 := H9.out.1
      have hm9 := H9.out.2.keep hcz
      generalize w9.alloc (.cells #[.int .i64 c.1, .int .i64 c.2] 25) = w10 at *
      have H10 := Hid.mk (And.intro hfl9 (And.intro hm9 (And.intro hbz (And.intro hsz (And.intro hZB (And.intro hZT hZF))))))
      clear hfl9 hm9 hbz hcz hsz hZB hZT hZF hZ H9 hta
      have y0 := H10.out.2.2.1.cell 0 rfl
      have y1 := H10.out.2.2.1.cell 1 rfl
      have lz := H10.out.2.2.1.lt
      obtain ⟨i0, hi, hz0, hz1, hz2⟩ := infoE
      have k2 : decide (20000 < ((F.length : Int) + 1)) = false := decide_eq_false (by omega)
      go_wp2_with (at_builtin; refine wpl_append rfl (.tmp 72) (.tmp 74) 98 rfl B 25 i0 _ 2 16 Tryz.underlying98 hi hz0 hz1 hz2 rfl (by omega) _ F.length (ringC F) rfl (own_keep H10.out.2.1.found ((Chg.refl Nil w10).alloc _) (fun _ _ h => h)) _ (some ⟨w10.heap.size, 0, none⟩) 1 1 _ rfl (rds_pair w10 _ _ _) (by intro u hu; simp at hu; rcases hu with rfl | rfl <;> rfl) (by simp only [maxLen]; omega) (by omega) (by have := H10.out.2.1.siz; simp; omega) ?_; intro v2 w11 o2 g2; obtain ⟨A2, c2, rfl, _, _⟩ := own_form o2; have H11 := Hid.mk (And.intro o2 g2); clear o2 g2)
      have hm12 := (H10.out.2.1.keep ((Chg.refl Nil w10).alloc (.cells #[.int .i64 c.1, .int .i64 c.2] 25))).grew HA.out H11.out.1 H11.out.2
      have hbz12 := (H10.out.2.2.1.alloc (.cells #[.int .i64 c.1, .int .i64 c.2] 25)).keep H11.out.2.chg (fun h => by have := H10.out.2.2.2.2.2.2 Z h; omega)
      have hlf : (F ++ [c]).length = F.length + 1 := by simp
      have H12 := Hid.mk (And.intro H10.out.1 (And.intro hm12 (And.intro hbz12 (And.intro H10.out.2.2.2.2.1 H10.out.2.2.2.2.2.1))))
      clear hm12 hbz12 H10 H11 y0 y1 lz hi hz0 hz1 hz2
      go_loopw [79] (fun v79 wr => ∃ (k N : Nat) (vT : Value) (S T : List (Int × Int)), k ≤ 6 ∧ v79 = .int .i64 (k : Int) ∧ N ≤ 6 * F.length + 1 + k ∧ Hid (FlIn (fun z => touchP (3 * l0, 3 * l1) (3 * h0, 3 * h1) (hexL z (12 - r))) first S T F c k ∧ FMem w wr B f m r (3 * l0, 3 * l1) (3 * h0, 3 * h1) vT (.slice A2 (F.length + 1) c2) S T (F ++ [c]) N ∧ Bk wr Z 25 #[.int .i64 c.1, .int .i64 c.2] ∧ B ≤ Z ∧ ∀ i, Own vT i → i ≠ Z)) (fun v79 _ => 6 - (intOf v79).toNat)
      case atStart => exact ⟨0, N, _, S, T9, by omega, rfl, by omega, Hid.mk ⟨H12.out.1, H12.out.2.1, H12.out.2.2.1, H12.out.2.2.2.1, fun i hi => by have := H12.out.2.2.2.2 i hi; omega⟩⟩
      case round =>
        obtain ⟨k, N1, vT, S1, T1, hk6, rfl, hN1, HQ⟩ := hrel
        clear H12
        by_cases hk : k < 6
        · have k3 : decide ((k : Int) < 6) = true := decide_eq_true (by omega)
          obtain ⟨wo, hwo⟩ : ∃ wo, wo = wr := ⟨_, rfl⟩
          subst hwo
          go_upto_region 17 with fail
          have hcn := found_near (k := 12 - r) (by omega) HH.out.1 HH.out.2.1 HH.out.2.2.1.1 HH.out.2.2.2.1.1 HCT.out
          obtain ⟨px, py, hpw, hpn⟩ := hcn
          have hcs : SmallE c := nearc_smallE (by omega) hpw (nearc_wide _ _ _ _ hpn)
          have hns : NearC 4 px py (nb c k) (12 - r) := nearc_nb px py c (12 - r) k (by omega) hk hpn
          have hnS : SmallE (nb c k) := nearc_smallE (by omega) hpw hns
          have hnO : RingOk (hexL (nb c k) (12 - r)) := ring_ok px py (nb c k) (12 - r) (by omega) hpw hns
          have hub := unit_bd k hk
          have hU := fun W => unit_any k hk W
          have hAd := fun W => eAdd_any c.1 c.2 (unitA k) (unitB k) (by unfold SmallE at hcs; unfold Big; omega) (by unfold SmallE at hcs; unfold Big; omega) (by unfold Big; omega) (by unfold Big; omega) W
          obtain ⟨n1, hn1⟩ : ∃ n1, n1 = c.1 + unitA k := ⟨_, rfl⟩
          obtain ⟨n2, hn2⟩ : ∃ n2, n2 = c.2 + unitB k := ⟨_, rfl⟩
          have hnb : nb c k = (n1, n2) := by rw [nb_unit c k hk, hn1, hn2]
          rw [← hn1, ← hn2] at hAd
          unfold eV at hU hAd
          have HUA := Hid.mk (And.intro hU hAd)
          have HN := Hid.mk (And.intro hnb (And.intro hnS hnO))
          clear hcs hns hnS hnO hub hU hAd hn1 hn2 hnb hpw hpn
          go_cut [18, 19] from 80 to 92 (fun v18 v19 wx => ∃ P : Nat, v18 = .pointer (some { block := P, off := 0 }) ∧ v19 = .bool true ∧ Hid (Bk wx P 25 #[.int .i64 n1, .int .i64 n2] ∧ Chg Nil wo wx))
          case first =>
            have hS0 : Bk wo.drew Z 25 #[.int .i64 c.1, .int .i64 c.2] := HQ.out.2.2.1
            have hne := Sub.some (S := (fun W : World => Bk W Z 25 #[.int .i64 c.1, .int .i64 c.2])) hS0
            have yx0 : ∀ x : Sub (fun W : World => Bk W Z 25 #[.int .i64 c.1, .int .i64 c.2]), x.world.cell? ⟨Z, 0, none⟩ = some (.int .i64 c.1) := fun x => Bk.cell x.ok 0 rfl
            have yx1 : ∀ x : Sub (fun W : World => Bk W Z 25 #[.int .i64 c.1, .int .i64 c.2]), x.world.cell? ⟨Z, 1, none⟩ = some (.int .i64 c.2) := fun x => Bk.cell x.ok 1 rfl
            refine wp_region_lexT (fun W : World => Bk W Z 25 #[.int .i64 c.1, .int .i64 c.2]) (.one true 0 (.one true 1 (.two 2 (.two 3 (.one true 4 (.one true 5 (.one true 6 (.one false 7 (.one false 8 (.one true 9 .fin)))))) 7 (.one false 3 (.one true 4 (.one true 5 (.one true 6 (.one false 8 (.one true 9 .fin))))))) 7 (.one false 2 (.one false 3 (.one true 4 (.one true 5 (.one true 6 (.one false 8 (.one true 9 .fin)))))))))) (by kernel_rfl) (by kernel_rfl) (fun d v c a w h => by cases d <;> exact h) hS0 ?_
            refine lexT_s rfl rfl ?_
            repeat (go_big_quiet_step (fail))
            refine wpQuiet_nil ?_
            refine lexT_s rfl rfl ?_
            repeat (go_big_quiet_step (fail))
            refine wpQuiet_nil ?_
            refine lexT_2 rfl rfl ?_ ?_
            · go_wp2_with fail
              refine (HUA.out.1 _).mono ?_
              rintro e x1 ⟨rfl, d1⟩
              have hS1 := Bk.keep hS0 d1 (fun h => h)
              have D1 := ((Chg.refl Nil wo).drew).then d1
              go_wp2_with fail
              refine And.intro hS1 ?_
              refine lexT_2 rfl rfl ?_ ?_
              · go_wp2_with fail
                refine (HUA.out.2 _).mono ?_
                rintro e x2 ⟨rfl, d2⟩
                have hS2 := Bk.keep hS1 d2 (fun h => h)
                have D2 := D1.then d2
                go_wp2_with fail
                refine And.intro hS2 ?_
                refine lexT_s rfl rfl ?_
                repeat (go_big_quiet_step (fail))
                refine wpQuiet_nil ?_
                refine lexT_s rfl rfl ?_
                repeat (go_big_quiet_step (fail))
                refine wpQuiet_nil ?_
                refine lexT_s rfl rfl ?_
                repeat (go_big_quiet_step (fail))
                refine wpQuiet_nil ?_
                refine lexT_e rfl ?_
                go_wp2_with fail
                have hz3 := Bk.lt hS2
                have hw3 := Chg.size D2
                have hS3 := Bk.alloc hS2 (.cells #[.int .i64 0, .int .i64 0] 25)
                have D3 := D2.alloc (.cells #[.int .i64 0, .int .i64 0] 25)
                have P3 := Bk.new x2 25 #[.int .i64 0, .int .i64 0]
                refine And.intro hS3 ?_
                refine lexT_e rfl ?_
                go_wp2_with fail
                refine And.intro (Bk.alloc hS2 _) ?_
                refine lexT_s rfl rfl ?_
                repeat (go_big_quiet_step (fail))
                refine wpQuiet_nil ?_
                refine lexT_end ?_
                go_wp2_with fail
                go_meet
                exact ⟨_, rfl, rfl, Hid.mk ⟨Bk.new _ _ _, Chg.alloc D2 _⟩⟩
              · go_wp2_with fail
                have hz2 := Bk.lt hS1
                have hw2 := Chg.size D1
                have hS2 := Bk.alloc hS1 (.cells #[.int .i64 0, .int .i64 0] 25)
                have D2 := D1.alloc (.cells #[.int .i64 0, .int .i64 0] 25)
                have P2 := Bk.new x1 25 #[.int .i64 0, .int .i64 0]
                refine And.intro hS2 ?_
                refine lexT_e rfl ?_
                go_wp2_with fail
                refine (HUA.out.2 _).mono ?_
                rintro e x3 ⟨rfl, d3⟩
                have hS3 := Bk.keep hS2 d3 (fun h => h)
                have D3 := D2.then d3
                have P3 := Bk.keep P2 d3 (fun h => h)
                have lp3 := P3.lt
                have fp3 := fun j => P3.free j
                have ya3 := P3.cell 0 rfl
                have yb3 := P3.cell 1 rfl
                go_wp2_with fail
                refine And.intro hS3 ?_
                refine lexT_s rfl rfl ?_
                repeat (go_big_quiet_step (fail))
                refine wpQuiet_nil ?_
                refine lexT_s rfl rfl ?_
                repeat (go_big_quiet_step (fail))
                refine wpQuiet_nil ?_
                refine lexT_s rfl rfl ?_
                repeat (go_big_quiet_step (fail))
                refine wpQuiet_nil ?_
                refine lexT_e rfl ?_
                go_wp2_with fail
                refine And.intro ((Bk.far hS3 (p := { block := x1.heap.size, off := 0 }) (by simp only; omega) (.int .i64 n1)).far (p := { block := x1.heap.size, off := 1 }) (by simp only; omega) (.int .i64 n2)) ?_
                refine lexT_s rfl rfl ?_
                repeat (go_big_quiet_step (fail))
                refine wpQuiet_nil ?_
                refine lexT_end ?_
                go_wp2_with fail
                go_meet
                exact ⟨_, rfl, rfl, Hid.mk ⟨(Bk.set P3 0 (.int .i64 n1)).set 1 (.int .i64 n2), (D3.setCell (p := { block := x1.heap.size, off := 0 }) (fun h => by simp only at h; omega) (.int .i64 n1)).setCell (p := { block := x1.heap.size, off := 1 }) (fun h => by simp only at h; omega) (.int .i64 n2)⟩⟩
            · go_wp2_with fail
              have hz1 := Bk.lt hS0
              have hw1 := Chg.size ((Chg.refl Nil wo).drew)
              have hS1 := Bk.alloc hS0 (.cells #[.int .i64 0, .int .i64 0] 25)
              have D1 := ((Chg.refl Nil wo).drew).alloc (.cells #[.int .i64 0, .int .i64 0] 25)
              have P1 : Bk (wo.drew.alloc (.cells #[.int .i64 0, .int .i64 0] 25)) wo.heap.size 25 #[.int .i64 0, .int .i64 0] := Bk.new wo.drew 25 #[.int .i64 0, .int .i64 0]
              have hz1 : Z < wo.heap.size := hz1
              have hw1 : wo.heap.size ≤ wo.heap.size := Nat.le_refl _
              refine And.intro hS1 ?_
              refine lexT_e rfl ?_
              go_wp2_with fail
              refine (HUA.out.1 _).mono ?_
              rintro e x2 ⟨rfl, d2⟩
              have hS2 := Bk.keep hS1 d2 (fun h => h)
              have D2 := D1.then d2
              have P2 := Bk.keep P1 d2 (fun h => h)
              have lp2 := P2.lt
              have fp2 := fun j => P2.free j
              have ya2 := P2.cell 0 rfl
              have yb2 := P2.cell 1 rfl
              go_wp2_with fail
              refine And.intro hS2 ?_
              refine lexT_e rfl ?_
              go_wp2_with fail
              refine (HUA.out.2 _).mono ?_
              rintro e x3 ⟨rfl, d3⟩
              have hS3 := Bk.keep hS2 d3 (fun h => h)
              have D3 := D2.then d3
              have P3 := Bk.keep P2 d3 (fun h => h)
              have lp3 := P3.lt
              have fp3 := fun j => P3.free j
              have ya3 := P3.cell 0 rfl
              have yb3 := P3.cell 1 rfl
              go_wp2_with fail
              refine And.intro hS3 ?_
              refine lexT_s rfl rfl ?_
              repeat (go_big_quiet_step (fail))
              refine wpQuiet_nil ?_
              refine lexT_s rfl rfl ?_
              repeat (go_big_quiet_step (fail))
              refine wpQuiet_nil ?_
              refine lexT_s rfl rfl ?_
              repeat (go_big_quiet_step (fail))
              refine wpQuiet_nil ?_
              refine lexT_e rfl ?_
              go_wp2_with fail
              refine And.intro ((Bk.far hS3 (p := { block := wo.heap.size, off := 0 }) (by simp only; omega) (.int .i64 n1)).far (p := { block := wo.heap.size, off := 1 }) (by simp only; omega) (.int .i64 n2)) ?_
              refine lexT_s rfl rfl ?_
              repeat (go_big_quiet_step (fail))
              refine wpQuiet_nil ?_
              refine lexT_end ?_
              go_wp2_with fail
              go_meet
              exact ⟨_, rfl, rfl, Hid.mk ⟨(Bk.set P3 0 (.int .i64 n1)).set 1 (.int .i64 n2), (D3.setCell (p := { block := wo.heap.size, off := 0 }) (fun h => by simp only at h; omega) (.int .i64 n1)).setCell (p := { block := wo.heap.size, off := 1 }) (fun h => by simp only at h; omega) (.int .i64 n2)⟩⟩
          case rest =>
            obtain ⟨P, rfl, rfl, HP⟩ := hcut
            have H13 := Hid.mk (HQ.out.2.1.keep HP.out.2)
            have hfew2 := flood_few l0 l1 h0 h1 (12 - r) (by omega) HH.out.2.2.1 HH.out.2.2.2.1 (T1 ++ (F ++ [c])) HQ.out.1.nodup (fun z hz => HQ.out.1.good z hz)
            rw [List.length_append] at hfew2
            have hnbe := HN.out.1
            have hsm := HN.out.2.1
            have hrok := HN.out.2.2
            rw [hnbe] at hsm hrok
            have hlk := look_any B f m T1.length N1 r (3 * l0, 3 * l1) (3 * h0, 3 * h1) vT S1 T1 (n1, n2) hr hsm H13.out.small (by omega) rfl (by omega) HSL.out.1 HSL.out.2 hrok _ H13.out.bk H13.out.todo H13.out.seen HA.out.ne HA.out.af.2 HA.out.am.2 H13.out.siz
            have HSM := Hid.mk (And.intro hnbe hsm)
            clear hnbe hsm hrok hfew2 HN HUA
            have y0 := HP.out.1.cell 0 rfl
            have y1 := HP.out.1.cell 1 rfl
            go_wp2_with fail
            refine hlk.mono ?_
            rintro e w13 ⟨rfl, v', n', T', hl', b', r', s', k', c', o'⟩
            have hq14 : FlIn (fun z => touchP (3 * l0, 3 * l1) (3 * h0, 3 * h1) (hexL z (12 - r))) first ((n1, n2) :: S1) T' F c (k + 1) := by
              have h9 := FlIn.look (T' := T') HQ.out.1 (by rw [HSM.out.1]; exact k')
              rw [HSM.out.1] at h9
              exact h9
            have hzn : Z ≠ f ∧ Z ≠ m := by
              have a1 := HA.out.af
              have a2 := HA.out.am
              have a3 := HQ.out.2.2.2.1
              omega
            have hbz14 : Bk w13 Z 25 #[.int .i64 c.1, .int .i64 c.2] := (HQ.out.2.2.1.keep HP.out.2 (fun h => h)).keep c' (fun h => by
              rcases h with h | h | h
              · exact hzn.1 h
              · exact hzn.2 h
              · exact HQ.out.2.2.2.2 Z h rfl)
            have hzl : Z < wc.heap.size := (HQ.out.2.2.1.keep HP.out.2 (fun h => h)).lt
            have H14 := Hid.mk (And.intro hq14 (And.intro (H13.out.looked HA.out HSM.out.2 hl' b' r' s' c' o') (And.intro hbz14 (And.intro HQ.out.2.2.2.1 (show ∀ i, Own v' i → i ≠ Z from fun i hi => by
              rcases o' i hi with h | h
              · exact HQ.out.2.2.2.2 i h
              · omega)))))
            clear hq14 hbz14 hzn hzl hl' b' r' s' k' c' o' hlk H13 HQ HP y0 y1
            go_wp2_with fail
            refine ⟨⟨k + 1, N1 + 1, v', _, T', by omega, by go_num, by omega, H14⟩, by simp [intOf]; omega⟩
        · obtain rfl : k = 6 := by omega
          have k3 : decide (((6 : Nat) : Int) < 6) = false := decide_eq_false (by omega)
          have H14 := Hid.mk (And.intro HQ.out.1.out HQ.out.2.1)
          clear HQ
          go_wp2_with fail
          refine ⟨⟨A2, c2, N1, vT, S1, T1, F ++ [c], by simp, by simp; omega, H14⟩, by simp [slen]; omega⟩

end Go.Proofs.YtkemmffdiclloaaGreatDoor
namespace Go.Proofs.YtkemmffdiclloaaGreatDoor
open Go.RowKit
theorem word_all (z : Int × Int) (R : Nat) (hR : R ≤ 12) (hb : Based z R) : okW (wordP z R) ∧ wordP z R < 18446744073709551616 ∧ resW (wordP z R) = R ∧ decW (wordP z R) 12 = z := by
  have h1 := word_ok hR hb
  have h2 := dec_tail hR hb (12 - R) (by omega)
  rw [show R + (12 - R) = 12 by omega] at h2
  have h3 := word_fields hR hb
  refine ⟨h1, ?_, ?_, h2⟩
  · have := h1.1
    omega
  · exact h3.2.1
theorem i64_and8 (x : Int) : bits .and .i64 x 255 = x % 256 := i64_low8 x
set_option maxHeartbeats 16000000 in
set_option maxRecDepth 100000 in
theorem topPoint_walk (a0 a1 a2 a3 a4 : Int) (hw : ∀ W : World, Calls Tryz.prog 14 #[] W fun e w' => e = .returned (.bool true) ∧ Chg Nil W w') (w : World) :
    Calls Tryz.prog 3 #[.int .i64 a0, .int .i64 a1, .int .i64 a2, .int .i64 a3, .int .i64 a4] w fun e w' => e = .returned (.bool true) ∧ Chg Nil w w' := by
  have hp := fun W => lawPoint_any a0 a1 W
  obtain ⟨x, hx⟩ : ∃ x, x = a0 % 1073741824 := ⟨_, rfl⟩
  obtain ⟨y, hy⟩ : ∃ y, y = a1 % 1073741824 := ⟨_, rfl⟩
  rw [← hx, ← hy] at hp
  have hW : World_ x y := by unfold World_; omega
  have HW := Hid.mk hW
  clear hx hy hW
  obtain ⟨q, hq⟩ : ∃ q, q = Int.tmod a2 13 := ⟨_, rfl⟩
  have hq1 : -13 < q := by rw [hq]; exact Int.lt_tmod_of_pos a2 (by decide)
  have hq2 : q < 13 := by rw [hq]; exact Int.tmod_lt_of_pos a2 (by decide)
  obtain ⟨R, hR⟩ : ∃ R : Nat, Int.tmod (q + 13) 13 = (R : Int) := ⟨(Int.tmod (q + 13) 13).toNat, by rw [Int.tmod_eq_emod_of_nonneg (by omega)]; omega⟩
  have hR12 : R ≤ 12 := by rw [Int.tmod_eq_emod_of_nonneg (by omega)] at hR; omega
  have e0 : Int.tmod a2 13 = q := hq.symm
  have HR := Hid.mk hR12
  clear hq
  have h7 := fun W => cellOf_any x y R hR12 HW.out W
  have h10 := fun W => near_any x y R hR12 HW.out W
  have hby := nearby_of x y (nearZ x y R) (12 - R) (by omega) (near_vor x y R)
  have hnc := nearc_of x y (nearZ x y R) (12 - R) hby
  have hbase := nearc_base x y (nearZ x y R) R hR12 HW.out hnc
  have hsm := nearc_smallE (k := 12 - R) (by omega) HW.out (nearc_wide _ _ _ _ hnc)
  have hrok := ring_ok x y (nearZ x y R) (12 - R) (by omega) HW.out (nearc_wide _ _ _ _ hnc)
  have h8 := fun W => identOf_any R (nearZ x y R) hR12 hsm.1 hsm.2 hbase W
  obtain ⟨g1, g2, g3, g4⟩ := word_all (nearZ x y R) R hR12 hbase
  have h9 := fun W => identCell_any (wordP (nearZ x y R) R) g2 g1 W
  rw [g3, g4] at h9
  have h13 := fun W => coverTouches_any (nearZ x y R) R x y x y hR12 hsm.1 hsm.2 hbase (by have := HW.out; unfold World_ at this; unfold Boxed; omega) (by have := HW.out; unfold World_ at this; omega) hrok W
  rw [touch_ok x y (nearZ x y R) (12 - R) (by omega) (near_vor x y R) x y x y (Int.le_refl _) (Int.le_refl _) (Int.le_refl _) (Int.le_refl _)] at h13
  have h11 := fun l0 l1 h0 h1 b1 b2 b3 b4 b5 b6 W => box_any l0 l1 h0 h1 R hR12 b1 b2 b3 b4 x y b5 b6 W
  generalize hv : wordP (nearZ x y R) R = v at *
  generalize hz : nearZ x y R = z at *
  have H := Hid.mk (And.intro h7 (And.intro h8 (And.intro h9 (And.intro h10 (And.intro h11 (And.intro h13 hw))))))
  clear h7 h8 h9 h10 h11 h13 hw hby hnc hbase hsm hrok g1 g2 g3 g4 hv hz hR12
  unfold cV eV pV at H
  have m3 := i64_and8 a3
  have m4 := i64_and8 a4
  go_enter Tryz.func3, Tryz.ntmps3
  go_wp2_with fail
  refine (hp _).mono ?_
  rintro e w1 ⟨rfl, rfl⟩
  clear hp
  go_wp2_with fail
  refine (H.out.1 _).mono ?_
  rintro e w2 ⟨rfl, c2⟩
  go_upto_region 4 with fail
  obtain ⟨B1, hB1⟩ : ∃ n, n = w2.heap.size := ⟨_, rfl⟩
  have b1 := Bk.new w2 27 #[.int .i64 (R : Int), .int .i64 z.1, .int .i64 z.2]
  have k1 := c2.then ((Chg.refl Nil w2).alloc (.cells #[.int .i64 (R : Int), .int .i64 z.1, .int .i64 z.2] 27))
  rw [← hB1] at b1 ⊢
  generalize w2.alloc (.cells #[.int .i64 (R : Int), .int .i64 z.1, .int .i64 z.2] 27) = w3 at *
  have H3 := Hid.mk (And.intro b1 k1)
  clear b1 k1 c2 hB1
  have y0 := H3.out.1.cell 0 rfl
  have y1 := H3.out.1.cell 1 rfl
  have y2 := H3.out.1.cell 2 rfl
  have lb := H3.out.1.lt
  go_wp2_with fail
  refine (H.out.2.1 _).mono ?_
  rintro e w4 ⟨rfl, c4⟩
  have H4 := Hid.mk (And.intro (H3.out.1.keep c4 (fun h => h)) (H3.out.2.then c4))
  clear c4 H3 y0 y1 y2 lb
  go_wp2_with fail
  refine (H.out.2.2.1 _).mono ?_
  rintro e w5 ⟨rfl, c5⟩
  go_upto_region 6 with fail
  obtain ⟨B2, hB2⟩ : ∃ n, n = w5.heap.size := ⟨_, rfl⟩
  have b2 := Bk.new w5 27 #[.int .i64 (R : Int), .int .i64 z.1, .int .i64 z.2]
  have k2 := c5.then ((Chg.refl Nil w5).alloc (.cells #[.int .i64 (R : Int), .int .i64 z.1, .int .i64 z.2] 27))
  rw [← hB2] at b2 ⊢
  generalize w5.alloc (.cells #[.int .i64 (R : Int), .int .i64 z.1, .int .i64 z.2] 27) = w6 at *
  have H6 := Hid.mk (And.intro (H4.out.1.keep k2 (fun h => h)) (And.intro b2 (H4.out.2.then k2)))
  clear b2 k2 c5 hB2 H4
  go_wp2_with fail
  refine (H.out.2.2.2.1 _).mono ?_
  rintro e w7 ⟨rfl, c7⟩
  go_upto_region 7 with fail
  obtain ⟨B3, hB3⟩ : ∃ n, n = w7.heap.size := ⟨_, rfl⟩
  have b3 := Bk.new w7 25 #[.int .i64 z.1, .int .i64 z.2]
  have k3 := c7.then ((Chg.refl Nil w7).alloc (.cells #[.int .i64 z.1, .int .i64 z.2] 25))
  rw [← hB3] at b3 ⊢
  generalize w7.alloc (.cells #[.int .i64 z.1, .int .i64 z.2] 25) = w8 at *
  have H8 := Hid.mk (And.intro (H6.out.1.keep k3 (fun h => h)) (And.intro (H6.out.2.1.keep k3 (fun h => h)) (And.intro b3 (H6.out.2.2.then k3))))
  clear b3 k3 c7 hB3 H6
  obtain ⟨A, hA⟩ : ∃ A, A = a3 % 256 := ⟨_, rfl⟩
  obtain ⟨C, hC⟩ : ∃ C, C = a4 % 256 := ⟨_, rfl⟩
  rw [← hA] at m3
  rw [← hC] at m4
  have hA1 : 0 ≤ A := by omega
  have hA2 : A ≤ 255 := by omega
  have hC1 : 0 ≤ C := by omega
  have hC2 : C ≤ 255 := by omega
  clear hA hC
  have hWW := HW.out
  unfold World_ at hWW
  obtain ⟨hx1, hx2, hy1, hy2⟩ := hWW
  go_upto_region 7 with fail
  go_cut [19, 20] from 57 to 137 (fun v19 v20 wx => ∃ (P Q : Nat) (l0 l1 h0 h1 : Int), v19 = .pointer (some { block := P, off := 0 }) ∧ v20 = .pointer (some { block := Q, off := 0 }) ∧ Hid ((World_ l0 l1 ∧ World_ h0 h1 ∧ (l0 ≤ h0 ∧ h0 ≤ l0 + 511) ∧ (l1 ≤ h1 ∧ h1 ≤ l1 + 511) ∧ (l0 ≤ x ∧ x ≤ h0) ∧ (l1 ≤ y ∧ y ≤ h1)) ∧ Bk wx P 37 #[.int .i64 l0, .int .i64 l1] ∧ Bk wx Q 37 #[.int .i64 h0, .int .i64 h1] ∧ Chg Nil w8 wx))
  case first =>
    go_wp2_with fail
    go_meet
    have hbx := box2 w8 37 37 #[.int .i64 (max (x - A) 0), .int .i64 (max (y - C) 0)] #[.int .i64 (min (x + C) 1073741823), .int .i64 (min (y + A) 1073741823)]
    exact ⟨_, _, max (x - A) 0, max (y - C) 0, min (x + C) 1073741823, min (y + A) 1073741823, rfl, rfl, Hid.mk ⟨⟨by unfold World_; omega, by unfold World_; omega, by omega, by omega, by omega, by omega⟩, hbx.1, hbx.2.1, hbx.2.2⟩⟩
  case rest =>
    obtain ⟨P, Q, l0, l1, h0, h1, rfl, rfl, HB⟩ := hcut
    obtain ⟨wo, hwo⟩ : ∃ wo, wo = wc := ⟨_, rfl⟩
    subst hwo
    have hbd := HB.out.1
    have hbox := fun W => H.out.2.2.2.2.1 l0 l1 h0 h1 hbd.1 hbd.2.1 hbd.2.2.1 hbd.2.2.2.1 hbd.2.2.2.2.1 hbd.2.2.2.2.2 W
    have H9 := Hid.mk (And.intro (H8.out.1.keep HB.out.2.2.2 (fun h => h)) (And.intro (H8.out.2.1.keep HB.out.2.2.2 (fun h => h)) (And.intro (H8.out.2.2.1.keep HB.out.2.2.2 (fun h => h)) (H8.out.2.2.2.then HB.out.2.2.2))))
    have y0 := HB.out.2.1.cell 0 rfl
    have y1 := HB.out.2.1.cell 1 rfl
    have y2 := HB.out.2.2.1.cell 0 rfl
    have y3 := HB.out.2.2.1.cell 1 rfl
    have q1 := HB.out.2.1.lt
    have q2 := HB.out.2.2.1.lt
    clear hbd H8 hA1 hA2 hC1 hC2 m3 m4
    go_wp2_with fail
    refine (hbox _).mono ?_
    rintro e w10 ⟨g, n, c, xs, rfl, x1, x2, x3, x4, x5, c10⟩
    clear hbox y0 y1 y2 y3 q1 q2 HB
    have H10 := Hid.mk (And.intro (H9.out.1.keep c10 (fun h => h)) (And.intro (H9.out.2.1.keep c10 (fun h => h)) (And.intro (H9.out.2.2.1.keep c10 (fun h => h)) (H9.out.2.2.2.then c10))))
    have HX := Hid.mk (And.intro x1 (And.intro x2 (And.intro x3 (And.intro x4 x5))))
    clear c10 H9 x1 x2 x3 x4 x5
    have y0 := H10.out.1.cell 0 rfl
    have y1 := H10.out.1.cell 1 rfl
    have y2 := H10.out.1.cell 2 rfl
    have y3 := H10.out.2.1.cell 0 rfl
    have y4 := H10.out.2.1.cell 1 rfl
    have y5 := H10.out.2.1.cell 2 rfl
    have y6 := H10.out.2.2.1.cell 0 rfl
    have y7 := H10.out.2.2.1.cell 1 rfl
    have q1 := H10.out.1.lt
    have q2 := H10.out.2.1.lt
    have q3 := H10.out.2.2.1.lt
    go_wp2_with fail
    refine (has_any g n c v xs HX.out.1 HX.out.2.1 HX.out.2.2.1 HX.out.2.2.2.1 _ HX.out.2.2.2.2).mono ?_
    rintro e w11 ⟨rfl, rfl⟩
    clear HX
    go_wp2_with fail
    refine (H.out.2.2.2.2.2.1 _).mono ?_
    rintro e w12 ⟨rfl, c12⟩
    have H12 := Hid.mk (H10.out.2.2.2.then c12)
    clear H10 c12 y0 y1 y2 y3 y4 y5 y6 y7 q1 q2 q3
    go_wp2_with fail
    refine (H.out.2.2.2.2.2.2 _).mono ?_
    rintro e w13 ⟨rfl, c13⟩
    have H13 := Hid.mk (H12.out.then c13)
    clear H12 c13
    go_wp2_with fail
    go_ret
    exact ⟨rfl, H13.out⟩

end Go.Proofs.YtkemmffdiclloaaGreatDoor
