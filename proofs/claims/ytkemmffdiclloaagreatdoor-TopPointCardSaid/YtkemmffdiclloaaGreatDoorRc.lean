import Derived.Test.YtkemmffdiclloaaGreatDoorRb
import Derived.Deep.AppendSrc
import Derived.Laws.IdiomCopy
set_option linter.unusedVariables false
set_option linter.unusedSimpArgs false
/- Stores, append, copy, maps: what they leave. -/
namespace Go.RE
open Go.RowKit
noncomputable section

/-! ### many cells -/
theorem setCells_frame (b : Nat) : ∀ (vs : List Value) (o : Nat) (w : World), (w.setCells b o vs).os = w.os ∧ (w.setCells b o vs).tape = w.tape ∧ (w.setCells b o vs).output = w.output ∧ (w.setCells b o vs).heap.size = w.heap.size ∧
    ∀ i, i ≠ b → (w.setCells b o vs).heap[i]? = w.heap[i]? := by
  intro vs
  induction vs with
  | nil => intro o w; exact ⟨rfl, rfl, rfl, rfl, fun _ _ => rfl⟩
  | cons v vs ih =>
    intro o w
    obtain ⟨h1, h2, h3, h4, h5⟩ := ih (o + 1) (w.setCell ⟨b, o, none⟩ v)
    refine ⟨h1, h2, h3, by rw [World.setCells, h4]; simp [World.setCell], fun i hi => ?_⟩
    rw [World.setCells, h5 i hi, heap_setCell_other w _ i v hi]
theorem setCells_row (b : Nat) : ∀ (vs : List Value) (o : Nat) (w : World) (cs : Array Value) (e : TypeId) (fr : Nat × Nat), w.heap[b]? = some (.cells cs e fr) →
    ∃ cs' : Array Value, (w.setCells b o vs).heap[b]? = some (.cells cs' e fr) ∧ cs'.size = cs.size ∧ ∀ j, cs'[j]? = if o ≤ j ∧ j < o + vs.length ∧ j < cs.size then vs[j - o]? else cs[j]? := by
  intro vs
  induction vs with
  | nil => intro o w cs e fr h; exact ⟨cs, h, rfl, fun j => by rw [if_neg (by simp; omega)]⟩
  | cons v vs ih =>
    intro o w cs e fr h
    have h1 : (w.setCell ⟨b, o, none⟩ v).heap[b]? = some (.cells (cs.setIfInBounds o v) e fr) := by
      have hlt := (Array.getElem?_eq_some_iff.1 h)
      simp [World.setCell, Array.getElem?_modify, h]
    obtain ⟨cs', h2, h3, h4⟩ := ih (o + 1) _ _ e fr h1
    refine ⟨cs', h2, by rw [h3]; simp, fun j => ?_⟩
    rw [h4 j]
    simp only [Array.size_setIfInBounds, List.length_cons]
    by_cases c1 : o + 1 ≤ j ∧ j < o + 1 + vs.length ∧ j < cs.size
    · rw [if_pos c1, if_pos (by omega), show j - o = (j - (o + 1)) + 1 by omega, List.getElem?_cons_succ]
    · rw [if_neg c1, Array.getElem?_setIfInBounds]
      by_cases c2 : o = j
      · subst c2
        rw [if_pos rfl]
        by_cases c3 : o < cs.size
        · rw [if_pos c3, if_pos (by omega)]; simp
        · rw [if_neg c3, if_neg (by omega), Array.getElem?_eq_none (by omega)]
      · rw [if_neg c2, if_neg (by omega)]
theorem CellsR.notfrozen {ρ : M} {q : Pl} {c : T AV} {lim : Nat} {cs : Array Value} {e : TypeId} {fz : Nat × Nat} {w : World} (r : CellsR ρ q c lim cs fz) (hg : w.heap[q.block]? = some (.cells cs e fz)) {j : Nat} (hj : j < cs.size) :
    w.frozen? ⟨q.block, j, none⟩ = false := by
  obtain ⟨lo, hi⟩ := fz
  simp only [World.frozen?, hg, Bool.and_eq_false_iff, decide_eq_false_iff_not]
  have := r.free
  simp only at this
  omega
theorem VRs.one {ρ : M} : ∀ {vs : List AV} {us : List Value}, VRs ρ vs us → vs.all AV.one = true → ∀ u ∈ us, u.oneCell' = true := by
  intro vs us h ha u hu
  obtain ⟨j, hj⟩ := List.mem_iff_getElem?.1 hu
  have hlt : j < vs.length := by rw [h.1]; exact (List.getElem?_eq_some_iff.1 hj).1
  have hv : vs[j]? = some vs[j] := List.getElem?_eq_getElem hlt
  exact (h.2 j _ u hv hj).one (List.all_eq_true.1 ha _ (List.getElem_mem hlt))
def maxB (a b : Nat) : Nat := bif Nat.ble b a then a else b
theorem maxB_eq (a b : Nat) : maxB a b = max a b := by
  unfold maxB
  cases h : Nat.ble b a
  · have : ¬ b ≤ a := fun e => by rw [Nat.ble_eq_true_of_le e] at h; cases h
    simp only [cond_false]; omega
  · have := Nat.le_of_ble_eq_true h
    simp only [cond_true]; omega
section
variable {S : Nat → Prop} {w0 w : World} {h : Hp} {ρ : M} {P : Program}
/-- Cells are written into a block. -/
theorem Inv.store (k : Inv S w0 h ρ w) {id o : Nat} {c : T AV} {lim : Nat} {q : Pl} {vs : List AV} {us : List Value} (hg : h.t.get id = some (.cells c lim)) (hq : ρ id = some q) (hr : VRs ρ vs us) (ho : o ≤ lim) (hfit : o + vs.length ≤ q.size) :
    Inv S w0 ⟨h.t.put id (.cells (putL c o vs) (maxB lim (o + vs.length))), h.n⟩ ρ (w.setCells q.block (q.shift + o) us) ∧
      (∀ j, j < us.length → (w.cell? ⟨q.block, q.shift + o + j, none⟩).isSome = true) ∧ (∀ j, j < us.length → w.frozen? ⟨q.block, q.shift + o + j, none⟩ = false) := by
  obtain ⟨q', cs, e, fz, hq', hw, hc⟩ := k.cells hg
  rw [hq] at hq'; injection hq' with hq'; subst hq'
  have hsz := hc.size
  have hlen := hr.1
  obtain ⟨f1, f2, f3, f4, f5⟩ := setCells_frame q.block us (q.shift + o) w
  obtain ⟨cs', g1, g2, g3⟩ := setCells_row q.block us (q.shift + o) w cs e fz hw
  refine ⟨k.set hg trivial hq f1 f2 f3 f4 f5 g1 ⟨cs', e, fz, rfl, ⟨by rw [g2]; exact hsz, by rw [maxB_eq]; have := hc.inn; omega, fun j v hv hj => ?_, by rw [g2]; exact hc.free⟩⟩ trivial, fun j hj => ?_, fun j hj => ?_⟩
  · rw [get_putL] at hv
    rw [maxB_eq] at hj
    rw [g3]
    by_cases c1 : o ≤ j ∧ j < o + vs.length
    · rw [if_pos c1] at hv
      rw [if_pos (by omega), show q.shift + j - (q.shift + o) = j - o by omega]
      exact hr.at_ hv
    · rw [if_neg c1] at hv
      rw [if_neg (by omega)]
      exact hc.cell j v hv (by omega)
  · have : q.shift + o + j < cs.size := by omega
    simp [World.cell?, hw, this]
  · exact hc.notfrozen hw (by omega)
end

inductive EOp where
  | st (n : Nat) (x v : AX)
  | app (z bytes : Nat) (x y : AX)
  | apps (x y : AX)
  | cpy (z : Nat) (x y : AX)
  | mup (m key v : AX)
  | rng (x : AX)
  | nxt (x : AX)
  | s2b (x : AX)
  | cvss (x : AX)
/-- The cells of a slice's first elements. -/
def rdS (h : Hp) (v : AV) (z n : Nat) (k : List AV → Bool) : Bool := match v with
  | .sn => bif Nat.beq n 0 then k [] else false
  | .sl id o m _ _ z' => bif Nat.ble n m && Nat.beq z z' then rdC h id fun c lim => rdn c lim (n * z) o k else false
  | _ => false
def lenS (v : AV) (k : Nat → Bool) : Bool := match v with
  | .sn => k 0
  | .sl _ _ n _ _ _ => k n
  | _ => false
/-- news, of m elements, are appended to x. -/
def appE (h : Hp) (z : Nat) (x : AV) (m : Nat) (news : List AV) (k : AV → Hp → Bool) : Bool :=
  match m with
  | 0 => k x h
  | _ + 1 => match x with
    | .sn => k (.sl h.n 0 m m false z) ⟨h.t.put h.n (.cells (putL .e 0 news) (m * z)), h.n + 1⟩
    | .sl id o n cap e z' => bif Nat.beq z z' then rdC h id fun c lim =>
        bif Nat.ble (o + n * z) lim then
          (bif Nat.ble (n + m) cap then k (.sl id o (n + m) cap e z) ⟨h.t.put id (.cells (putL c (o + n * z) news) (maxB lim (o + n * z + news.length))), h.n⟩
          else match o with
            | 0 => bif e then k (.sl h.n 0 (n + m) (n + m) false z) ⟨h.t.put h.n (.cells (putL c (n * z) news) ((n + m) * z)), h.n + 1⟩
              else k (.sl h.n 0 (n + m) (n + m) false z) ⟨(h.t.put id .dead).put h.n (.cells (putL c (n * z) news) ((n + m) * z)), h.n + 1⟩
            | _ + 1 => rdn c lim (n * z) o fun olds => bif e then k (.sl h.n 0 (n + m) (n + m) false z) ⟨h.t.put h.n (.cells (putL .e 0 (olds ++ news)) ((n + m) * z)), h.n + 1⟩
              else k (.sl h.n 0 (n + m) (n + m) false z) ⟨(h.t.put id .dead).put h.n (.cells (putL .e 0 (olds ++ news)) ((n + m) * z)), h.n + 1⟩)
        else false
      else false
    | _ => false
def bytesV : List Nat → List AV
  | [] => []
  | b :: l => .i .u8 (.ofNat b) :: bytesV l
def mupd (kd : IntKind) (a : Int) (v : AV) : List (AV × AV × Nat) → (Option (List (AV × AV × Nat)) → Bool) → Bool
  | [], k => k none
  | (key, u, n) :: es, k => asI key fun k' b => bif kEq k' kd then (bif iEq a b then k (some ((key, v, n) :: es)) else mupd kd a v es fun r => match r with
    | none => k none
    | some l => k (some ((key, u, n) :: l))) else false
def memN (b : Nat) : List Nat → Bool
  | [] => false
  | x :: l => bif Nat.beq x b then true else memN b l
def unseen (seen : List Nat) : List (AV × AV × Nat) → List (AV × AV × Nat)
  | [] => []
  | e :: es => bif memN e.2.2 seen then unseen seen es else e :: unseen seen es
def anyOld (last : Nat) : List (AV × AV × Nat) → Bool
  | [] => false
  | e :: es => bif Nat.blt e.2.2 last then true else anyOld last es
def cpyE (h : Hp) (u v : AV) (z r : Nat) (k : AV → Hp → Bool) : Bool := rdS h v z r fun cs => match u with
  | .sn => k (.i .i64 0) h
  | .sl id o _ _ _ z' => bif Nat.beq z z' && cs.all AV.one then rdC h id fun c lim => bif Nat.ble (o + cs.length) lim then k (.i .i64 (.ofNat r)) ⟨h.t.put id (.cells (putL c o cs) (maxB lim (o + cs.length))), h.n⟩ else false else false
  | _ => false
def eop (h : Hp) (fr : T AV) (o : EOp) (k : AV → Hp → Bool) : Bool :=
  match o with
  | .st n x v => ev fr x fun u => asP u fun id o => ev fr v fun y => rdC h id fun c lim =>
      bif Nat.beq y.cells.length n && Nat.ble (o + n) lim && y.cells.all AV.one then k (.tu []) ⟨h.t.put id (.cells (putL c o y.cells) (maxB lim (o + y.cells.length))), h.n⟩ else false
  | .app z bytes x y => ev fr x fun u => ev fr y fun v => lenS v fun m => lenS u fun n => rdS h v z m fun news =>
      bif news.all AV.one && Nat.ble ((n + m) * bytes) 140737488355328 && Nat.ble (n + m) 140737488355328 then appE h z u m news k else false
  | .apps x y => ev fr x fun u => ev fr y fun v => match v with
    | .s l => lenS u fun n => bif Nat.ble (n + l.length) 140737488355328 then appE h 1 u l.length (bytesV l) k else false
    | _ => false
  | .cpy z x y => ev fr x fun u => ev fr y fun v => lenS v fun m => lenS u fun n => cpyE h u v z (bif Nat.ble m n then m else n) k
  | .mup m key v => ev fr m fun u => ev fr key fun kv => asI kv fun kd a => ev fr v fun y => match u with
    | .m id => match h.t.get id with
      | some (.map es clock) => mupd kd a y es fun r => match r with
        | none => k (.tu []) ⟨h.t.put id (.map (es ++ [(.i kd a, y, clock)]) (clock + 1)), h.n⟩
        | some l => k (.tu []) ⟨h.t.put id (.map l clock), h.n⟩
      | _ => false
    | _ => false
  | .rng x => ev fr x fun u => match u with
    | .m id => match h.t.get id with
      | some (.map _ clock) => k (.p h.n 0) ⟨h.t.put h.n (.mit id clock [] clock), h.n + 1⟩
      | _ => false
    | _ => false
  | .nxt x => ev fr x fun u => match u with
    | .p id 0 => match h.t.get id with
      | some (.mit m since seen stepped) => match h.t.get m with
        | some (.map es clock) => match unseen seen es with
          | [] => bif seen.isEmpty || es.isEmpty || anyOld stepped es then k (.tu [.b false]) h else false
          | [(key, v, n)] => bif Nat.blt n since && (seen.isEmpty || anyOld stepped es) then k (.tu [.b true, key, v]) ⟨h.t.put id (.mit m since (seen ++ [n]) clock), h.n⟩ else false
          | _ => false
        | _ => false
      | _ => false
    | _ => false
  | .s2b x => ev fr x fun u => match u with
    | .s l => bif Nat.ble l.length 140737488355328 then k (.sl h.n 0 l.length l.length false 1) ⟨h.t.put h.n (.cells (putL .e 0 (bytesV l)) l.length), h.n + 1⟩ else false
    | _ => false
  | .cvss x => ev fr x fun u => match u with
    | .sl id _ _ _ _ _ => rdC h id fun _ _ => k u h
    | _ => false
end
end Go.RE
/- Stores, append, copy, maps: the model's own words for what they leave. -/
namespace Go.RE
open Go.RowKit
noncomputable section
def infoIs (tt : T TypeInfo) (e : TypeId) (z bytes : Nat) : Bool := match tt.get e with
  | some i => decide (i.size = z) && decide (i.bytes = bytes) && (match i.zero with | some v => decide (v.cells.size = z) | none => false)
  | none => false
theorem infoIs_ok {P : Program} {tt : T TypeInfo} (hT : TyOk P tt) {e : TypeId} {z bytes : Nat} (h : infoIs tt e z bytes = true) : ∃ i v, P.info? e = some i ∧ i.size = z ∧ i.bytes = bytes ∧ i.zero = some v ∧ v.cells.size = z := by
  unfold infoIs at h
  split at h
  · rename_i i hi
    simp only [Bool.and_eq_true, decide_eq_true_eq] at h
    obtain ⟨⟨h1, h2⟩, h3⟩ := h
    split at h3
    · rename_i v hv
      exact ⟨i, v, hT e i hi, h1, h2, hv, by simpa using h3⟩
    · cases h3
  · cases h
def twoT (p : Operand → Operand → TypeId → TypeId → Bool) : List Operand → List TypeId → Bool
  | [x, y], [t, u] => p x y t u
  | _, _ => false
theorem twoT_ok {p : Operand → Operand → TypeId → TypeId → Bool} {l : List Operand} {m : List TypeId} (h : twoT p l m = true) : ∃ x y t u, l = [x, y] ∧ m = [t, u] ∧ p x y t u = true := by
  unfold twoT at h; split at h
  · exact ⟨_, _, _, _, rfl, rfl, h⟩
  · cases h
def chkE (tt : T TypeInfo) (o : Op) (f : EOp) : Bool :=
  match f with
  | .st n x v => match o with
    | .store t x' v' => sizIs tt t n && chkX x' x && chkX v' v
    | _ => false
  | .app z bytes x y => bltn .append o (twoT fun x' y' t u => chkT tt t (fun d => match d with | .slice e => infoIs tt e z bytes | _ => false) && chkT tt u (fun d => match d with | .slice _ => true | _ => false) && chkX x' x && chkX y' y)
  | .apps x y => bltn .append o (twoT fun x' y' t u => chkT tt t (fun d => match d with | .slice e => infoIs tt e 1 1 | _ => false) && chkT tt u (fun d => match d with | .string => true | _ => false) && chkX x' x && chkX y' y)
  | .cpy z x y => bltn .copy o (twoT fun x' y' t _ => chkT tt t (fun d => match d with | .slice e => sizIs tt e z | _ => false) && chkX x' x && chkX y' y)
  | .mup m key v => match o with
    | .mapUpdate t m' k' v' => chkT tt t (fun d => match d with | .map kt _ => chkT tt kt (fun e => match e with | .int _ => true | _ => false) | _ => false) && chkX m' m && chkX k' key && chkX v' v
    | _ => false
  | .rng x => match o with
    | .range t x' => chkT tt t (fun d => match d with | .map _ _ => true | _ => false) && chkX x' x
    | _ => false
  | .nxt x => match o with
    | .next x' false => chkX x' x
    | _ => false
  | .s2b x => match o with
    | .convert s d x' => chkT tt s (fun e => match e with | .string => true | _ => false) && chkT tt d (fun e => match e with | .slice t => chkT tt t (fun f => match f with | .int k => decide (k = .u8) | _ => false) | _ => false) && chkX x' x
    | _ => false
  | .cvss x => match o with
    | .convert s d x' => decide (s = d) && chkT tt d (fun e => match e with | .slice t => chkT tt t (fun f => match f with | .int k => decide (k = .u8) | _ => false) | _ => false) && chkX x' x
    | _ => false
/-- The operation yields v, and leaves the heap h'. -/
def EffS (P : Program) (op : Op) (h : Hp) (fr : T AV) (v : AV) (h' : Hp) : Prop :=
  ∀ (S : Nat → Prop) (w0 : World) (ρ : M) (a : Act) (w : World) (o : Oper), o.op = op → FRon ρ (ofOp op) fr a → Inv S w0 h ρ w →
    ∃ w' ρ', ((∃ v', (execOp a.eval o).run P w = .ok (.value v') w' ∧ VR ρ' v v') ∨ ((execOp a.eval o).run P w = .ok .skip w' ∧ v = .tu [])) ∧ Inv S w0 h' ρ' w' ∧ ExtN h.n ρ ρ' ∧ h.n ≤ h'.n
theorem lenS_ok {v : AV} {k : Nat → Bool} (h : lenS v k = true) : ∃ n, k n = true ∧ ∀ (ρ : M) (x : Value), VR ρ v x → ∃ A c, x = .slice A n c := by
  unfold lenS at h
  split at h
  · exact ⟨0, h, fun ρ x hx => ⟨none, 0, hx.inv_sn⟩⟩
  · exact ⟨_, h, fun ρ x hx => by obtain ⟨q, ad, c, _, e, _⟩ := hx.inv_sl; exact ⟨_, _, e⟩⟩
  · cases h
section
variable {P : Program} {tt : T TypeInfo} {h : Hp} {fr : T AV} {op : Op}
theorem rdS_ok {v : AV} {z n : Nat} {k : List AV → Bool} (e : rdS h v z n k = true) : ∃ vs : List AV, k vs = true ∧ vs.length = n * z ∧ ∀ (S : Nat → Prop) (w0 : World) (ρ : M) (w : World) (x : Value), VR ρ v x → Inv S w0 h ρ w →
    ∃ us, VRs ρ vs us ∧ (∃ A m c, x = .slice A m c ∧ (A = none → n = 0) ∧ ∀ ad, A = some ad → ∀ j u, us[j]? = some u → w.cell? (ad.add j) = some u) := by
  unfold rdS at e
  split at e
  · obtain ⟨h0, e1⟩ := bif_t e
    have h0 : n = 0 := by simpa using h0
    subst h0
    exact ⟨[], e1, by simp, fun S w0 ρ w x hx _ => ⟨[], .nil, none, 0, 0, hx.inv_sn, (fun _ => rfl), (fun ad h => by cases h)⟩⟩
  · rename_i id o m cap ex z'
    obtain ⟨hb, e1⟩ := bif_t e
    simp only [Bool.and_eq_true, Nat.ble_eq, Nat.beq_eq] at hb
    obtain ⟨c, lim, hg, e2⟩ := rdC_ok e1
    obtain ⟨vs, hl, hv, e3⟩ := rdn_ok e2
    refine ⟨vs, e3, hl, fun S w0 ρ w x hx hI => ?_⟩
    obtain ⟨q, ad, cap', hq, rfl, q1, q2, q3, q4, q0, q5⟩ := hx.inv_sl
    obtain ⟨q', cs, et, fz, hq', hw, hr⟩ := hI.cells hg
    rw [hq] at hq'; injection hq' with hq'; subst hq'
    rcases q5 with h0 | ⟨rfl, hfit⟩
    · have hn : n = 0 := by omega
      subst hn
      have : vs = [] := by simpa using hl
      subst this
      exact ⟨[], .nil, some ad, m, cap', rfl, fun _ => rfl, fun ad' _ j u hu => by simp at hu⟩
    · -- the cells one by one
      have hx : ∀ j v, vs[j]? = some v → ∃ u, w.cell? ⟨q.block, q.shift + (o + j), none⟩ = some u ∧ VR ρ v u := fun j v hj => by
        obtain ⟨h1, h2⟩ := hv j v hj
        exact hr.cell? hw h1 h2
      let us : List Value := (List.range (n * z)).map fun j => (w.cell? ⟨q.block, q.shift + (o + j), none⟩).getD undef
      have hul : us.length = n * z := by simp [us]
      have hus : ∀ j u, us[j]? = some u → w.cell? ⟨q.block, q.shift + (o + j), none⟩ = some u ∧ ∀ v, vs[j]? = some v → VR ρ v u := fun j u he => by
        have hj : j < n * z := by rw [← hul]; exact (List.getElem?_eq_some_iff.1 he).1
        have hvj : vs[j]? = some (vs[j]'(by omega)) := List.getElem?_eq_getElem _
        obtain ⟨y, h1, h2⟩ := hx j _ hvj
        simp only [us, List.getElem?_map, List.getElem?_range hj, Option.map_some, h1, Option.getD_some, Option.some.injEq] at he
        rw [← he]
        exact ⟨h1, fun v hv' => by rw [hvj] at hv'; injection hv' with hv'; rw [← hv']; exact h2⟩
      refine ⟨us, ⟨by rw [hl, hul], fun j v u hv' he => (hus j u he).2 v hv'⟩, some ⟨q.block, q.shift + o, none⟩, m, cap', rfl, (fun h => by cases h), fun ad hA j u he => ?_⟩
      injection hA with hA
      subst hA
      rw [add_plain, Nat.add_assoc]
      exact (hus j u he).1
  · cases e
theorem e_st {n : Nat} {x v : AX} {k : AV → Hp → Bool} (hT : TyOk P tt) (hc : chkE tt op (.st n x v) = true) (e : eop h fr (.st n x v) k = true) : ∃ r h', k r h' = true ∧ EffS P op h fr r h' := by
  obtain ⟨u, hu, e1⟩ := ev_val e
  obtain ⟨id, o, rfl, e2⟩ := asP_ok e1
  obtain ⟨y, hy, e3⟩ := ev_val e2
  obtain ⟨c, lim, hg, e4⟩ := rdC_ok e3
  obtain ⟨hb, e5⟩ := bif_t e4
  clear e e1 e2 e3 e4
  simp only [Bool.and_eq_true, Nat.ble_eq, Nat.beq_eq] at hb
  cases op <;> simp only [chkE] at hc <;> try (cases hc; done)
  rename_i t x' v'
  simp only [Bool.and_eq_true] at hc
  obtain ⟨⟨hs, h1⟩, h2⟩ := hc
  have hs := sizIs_ok hT hs
  refine ⟨_, _, e5, fun S w0 ρ ac w op' ho hF hI => ?_⟩
  obtain ⟨q, hq, i1⟩ := (hF.val h1 hu (ofOp_mem (by simp [Op.operands]))).inv_p
  have hvr := hF.val h2 hy (ofOp_mem (by simp [Op.operands]))
  obtain ⟨q', cs, et, fz, hq', hw, hr⟩ := hI.cells hg
  rw [hq] at hq'; injection hq' with hq'; subst hq'
  have hin := hr.inn
  obtain ⟨g1, g2, g3⟩ := hI.store (o := o) hg hq hvr.cells (by omega) (by omega)
  refine ⟨_, ρ, .inr ⟨?_, rfl⟩, g1, ExtN.refl _ ρ, Nat.le_refl _⟩
  have hrun := run_storeCells_cells (P := P) q.block (q.shift + o) (ac.eval v').cells.toList 0 w (by simpa using g2) (by simpa using g3) (hvr.cells.one hb.2)
  have hsz : (ac.eval v').cells.size = n := by have := hvr.cells.1; rw [hb.1.1] at this; simpa using this.symm
  simp only [Nat.add_zero] at hrun
  simp [execOp, ho, i1, Instr.storeAt, Instr.sureAddr, storeVar, hsz, run_siz hs, hrun]
/-- Nothing is appended. -/
theorem run_append_zero (t tx ty e : TypeId) (i : TypeInfo) (ht : P.underlying t = some (.slice e)) (hi : P.info? e = some i) (A : Option Addr) (n c : Nat) (hn : n ≤ c) (x : Value) (w : World) (hs : Src P i.size tx x 0 [] w) :
    (Builtin.append_ #[t, tx] ty #[.slice A n c, x]).run P w = .ok (.slice A n c) w := by
  rcases hs.kind with ⟨e', hk⟩ | hk <;> cases A <;>
    simp [Builtin.append_, run_underlying ht, run_underlying hk, sizeOf, typeInfo, hi, hs.len, hn, hs.cells, storeCells]
theorem zeroCells_size (z : Array Value) (n : Nat) : (Builtin.zeroCells z n).size = n * z.size := by simp [Builtin.zeroCells]
theorem grownCap_le (w : World) {need : Nat} (old : Nat) (e : TypeId) (h : need < 2 ^ 63) : need ≤ grownCap w need old e ∧ grownCap w need old e ≤ maxLen := by
  unfold grownCap Question.cut maxLen
  have := Nat.mod_lt (w.tape w.drawn (.appendCap need old e)) (show 0 < 2 ^ 63 - need by omega)
  simp only
  omega
theorem nextcap_fits {need old bytes : Nat} (h : old < need) (hb : need * bytes ≤ 140737488355328) : Builtin.nextslicecap need old * bytes ≤ 281474976710656 := growslice_fits h hb
end
end
end Go.RE
/- append. -/
namespace Go.RE
open Go.RowKit
noncomputable section
section
variable {S : Nat → Prop} {w0 w : World} {h : Hp} {ρ : M} {P : Program}
theorem Inv.fresh (k : Inv S w0 h ρ w) : ρ h.n = none := by
  cases hq : ρ h.n with
  | none => rfl
  | some q => have := k.dom _ _ hq; omega
theorem Inv.kill (k : Inv S w0 h ρ w) (id : Nat) : Inv S w0 ⟨h.t.put id .dead, h.n⟩ ρ w := by
  refine ⟨k.chg, k.dom, fun i a ha hl => ?_, fun i j a b qi qj ha hal hb hbl hqi hqj he => ?_⟩
  · simp only [T.get_put] at ha
    split at ha
    · injection ha with ha; subst ha; exact hl.elim
    · exact k.obj i a ha hl
  · simp only [T.get_put] at ha hb
    split at ha
    · injection ha with ha; subst ha; exact hal.elim
    · split at hb
      · injection hb with hb; subst hb; exact hbl.elim
      · exact k.inj i j a b qi qj ha hal hb hbl hqi hqj he
/-- A block goes by a new id. -/
theorem Inv.move (k : Inv S w0 h ρ w) {id : Nat} {a a' : AO} {q q' : Pl} {ob : Obj} (hg : h.t.get id = some a) (hl : a.live) (hq : ρ id = some q) (hb : q'.block = q.block) (hw : w.heap[q.block]? = some ob) (hr : ObR ρ q' a' ob) :
    Inv S w0 ⟨(h.t.put id .dead).put h.n a', h.n + 1⟩ (ρ.put h.n q') w := by
  have hfr := k.fresh
  have hlt := k.dom id q hq
  have e := M.put_ext ρ q' hfr
  obtain ⟨q1, hq1, hS, _⟩ := k.obj id a hg hl
  rw [hq] at hq1; injection hq1 with hq1; subst hq1
  refine ⟨k.chg, fun i r hr => ?_, fun i b hgb hbl => ?_, fun i j b c qi qj hgb hbl hgc hcl hqi hqj he => ?_⟩
  · by_cases h1 : i = h.n
    · subst h1; simp
    · rw [M.put_ne _ _ h1] at hr; have := k.dom i r hr; show i < h.n + 1; omega
  · simp only [T.get_put] at hgb
    split at hgb
    · rename_i h1
      subst h1
      injection hgb with hgb; subst hgb
      exact ⟨q', M.put_same _ _ _, by rw [hb]; exact hS, ob, by rw [hb]; exact hw, hr.ext e⟩
    · split at hgb
      · injection hgb with hgb; subst hgb; exact hbl.elim
      · obtain ⟨r, h2, h3, o', h4, h5⟩ := k.obj i b hgb hbl
        exact ⟨r, e i r h2, h3, o', h4, h5.ext e⟩
  · have back : ∀ (i : Nat) (b : AO) (qi : Pl), (if i = h.n then some a' else if i = id then some AO.dead else h.t.get i) = some b → b.live → (ρ.put h.n q') i = some qi →
        ∃ b' , h.t.get (if i = h.n then id else i) = some b' ∧ b'.live ∧ ρ (if i = h.n then id else i) = some (if i = h.n then q else qi) ∧ (if i = h.n then q else qi).block = qi.block ∧ (i ≠ h.n → i ≠ id) := fun i b qi h1 h2 h3 => by
      by_cases c1 : i = h.n
      · subst c1
        rw [M.put_same] at h3; injection h3 with h3; subst h3
        simp only [if_true]
        exact ⟨a, hg, hl, hq, hb.symm, by first | trivial | (intro hc; exact absurd rfl hc)⟩
      · rw [if_neg c1] at h1
        rw [M.put_ne _ _ c1] at h3
        by_cases c2 : i = id
        · rw [if_pos c2] at h1; injection h1 with h1; subst h1; exact h2.elim
        · rw [if_neg c2] at h1
          rw [if_neg c1, if_neg c1]
          exact ⟨b, h1, h2, h3, rfl, fun _ => c2⟩
    simp only [T.get_put] at hgb hgc
    obtain ⟨b', x1, x2, x3, x4, x5⟩ := back i b qi hgb hbl hqi
    obtain ⟨c', y1, y2, y3, y4, y5⟩ := back j c qj hgc hcl hqj
    have hh := k.inj _ _ b' c' _ _ x1 x2 y1 y2 x3 y3 (by rw [x4, y4]; exact he)
    by_cases c1 : i = h.n <;> by_cases c2 : j = h.n
    · rw [c1, c2]
    · rw [if_pos c1, if_neg c2] at hh; exact absurd hh.symm (y5 c2)
    · rw [if_neg c1, if_pos c2] at hh; exact absurd hh (x5 c1)
    · rwa [if_neg c1, if_neg c2] at hh
theorem Inv.congr {h' : Hp} (k : Inv S w0 h ρ w) (hn : h'.n = h.n) (ht : ∀ i, h'.t.get i = h.t.get i) : Inv S w0 h' ρ w :=
  ⟨k.chg, fun i q hq => by rw [hn]; exact k.dom i q hq, fun i a ha hl => k.obj i a (by rw [← ht]; exact ha) hl, fun i j a b qi qj ha hal hb hbl => k.inj i j a b qi qj (by rw [← ht]; exact ha) hal (by rw [← ht]; exact hb) hbl⟩
/-- What 'append' lays anew. -/
theorem Inv.grown (k : Inv S w0 h ρ w) {z n m cap : Nat} {c' : T AV} {olds news : List Value} {zs : Array Value} {e : TypeId} (hlen : (olds ++ news).length = (n + m) * z) (hz : zs.size = z) (hcap : n + m ≤ cap)
    (hgood : ∀ j v, c'.get j = some v → j < (n + m) * z → ∃ u, (olds ++ news)[j]? = some u ∧ VR ρ v u) :
    Inv S w0 ⟨h.t.put h.n (.cells c' ((n + m) * z)), h.n + 1⟩ (ρ.put h.n ⟨w.heap.size, 0, cap * z⟩) (w.drew.alloc (.cells ((olds ++ news).toArray ++ Builtin.zeroCells zs (cap - (n + m))) e)) := by
  have hfr := k.fresh
  have kd : Inv S w0 h ρ w.drew := k.drawn _
  have hsz : ((olds ++ news).toArray ++ Builtin.zeroCells zs (cap - (n + m))).size = cap * z := by
    rw [Array.size_append, zeroCells_size, hz, List.size_toArray, hlen, ← Nat.add_mul, Nat.add_sub_cancel' hcap]
  refine kd.new (q := ⟨w.heap.size, 0, cap * z⟩) hfr (by omega) (by omega) rfl trivial ⟨_, e, (0, 0), rfl, ⟨by simp only [hsz]; omega, Nat.mul_le_mul_right _ hcap, fun j v hv hj => ?_, .inl rfl⟩⟩
  obtain ⟨u, h1, h2⟩ := hgood j v hv hj
  refine ⟨u, ?_, h2.ext (M.put_ext _ _ hfr)⟩
  rw [Nat.zero_add, Array.getElem?_append_left (by simp only [List.size_toArray, hlen]; exact hj)]
  simpa using h1
end
/-- The numbers of a type's cells. -/
structure AppT (P : Program) (t e : TypeId) (z : Nat) (i : TypeInfo) (zv : Value) : Prop where
  ty : P.underlying t = some (.slice e)
  info : P.info? e = some i
  size : i.size = z
  zero : i.zero = some zv
  cells : zv.cells.size = z
theorem appE_ok {P : Program} {h : Hp} {z m n : Nat} {x : AV} {news : List AV} {k : AV → Hp → Bool} (e0 : appE h z x m news k = true) (hnews : news.length = m * z)
    (hform : ∀ (ρ : M) (xv : Value), VR ρ x xv → ∃ A c, xv = .slice A n c ∧ n ≤ c) :
    ∃ v h', k v h' = true ∧ ∀ (S : Nat → Prop) (w0 : World) (ρ : M) (w : World) (xv yv : Value) (t tx ty e : TypeId) (i : TypeInfo) (zv : Value) (newsV : List Value), AppT P t e z i zv → VR ρ x xv → Inv S w0 h ρ w → VRs ρ news newsV → Src P z tx yv m newsV w →
      (n + m) * i.bytes ≤ 140737488355328 → n + m ≤ 140737488355328 →
      ∃ w' ρ' v', (Builtin.append_ #[t, tx] ty #[xv, yv]).run P w = .ok v' w' ∧ VR ρ' v v' ∧ Inv S w0 h' ρ' w' ∧ ExtN h.n ρ ρ' ∧ h.n ≤ h'.n := by
  cases m with
  | zero =>
    refine ⟨x, h, e0, fun S w0 ρ w xv yv t tx ty e i zv newsV hA hx hI hn hs hb hb2 => ?_⟩
    obtain ⟨A, c, rfl, hc⟩ := hform ρ xv hx
    have hnil : newsV = [] := by have := hs.newsLen; simpa using this
    subst hnil
    exact ⟨w, ρ, _, run_append_zero t tx ty e i hA.ty hA.info A n c hc yv w (by rw [hA.size]; exact hs), hx, hI, ExtN.refl _ ρ, Nat.le_refl _⟩
  | succ m =>
    simp only [appE] at e0
    split at e0
    · refine ⟨_, _, e0, fun S w0 ρ w xv yv t tx ty e i zv newsV hA hx hI hn hs hb hb2 => ?_⟩
      have hxv := hx.inv_sn
      subst hxv
      obtain ⟨A, c, h1, _⟩ := hform ρ _ hx
      have hn0 : n = 0 := by injection h1 with _ h1 _; exact h1.symm
      subst hn0
      have hfr := hI.fresh
      obtain ⟨c1, c2⟩ := grownCap_le w (need := 0 + (m + 1)) 0 e (by omega)
      have hrun := run_append_grow_src (P := P) w t tx ty e i zv hA.ty hA.info hA.zero none 0 0 [] (by simp [Builtin.firstCells]) yv (m + 1) newsV (by rw [hA.size]; exact hs) (by omega) (by omega) (nextcap_fits (by omega) hb)
      have hl : ([] ++ newsV : List Value).length = (0 + (m + 1)) * z := by rw [Nat.zero_add]; exact hs.newsLen
      have hg := hI.grown (n := 0) (m := m + 1) (c' := putL .e 0 news) (olds := []) (e := e) hl hA.cells c1 (fun j v hv hj => by
        rw [Nat.zero_add] at hj
        rw [get_putL, if_pos (by omega)] at hv
        simpa using hn.at_ hv)
      simp only [Nat.zero_add] at hg hrun c1 c2 ⊢
      exact ⟨_, _, _, hrun, .sl _ _ _ _ _ _ ⟨w.heap.size, 0, _⟩ _ _ (M.put_same _ _ _) (Nat.le_refl _) c1 (fun h => by cases h) c2 ⟨rfl, .inr ⟨rfl, by show 0 + _ * z ≤ _ * z; omega⟩⟩, hg, ExtN.put hfr (Nat.le_refl _), Nat.le_succ _⟩
    · rename_i id o n' cap ex z'
      obtain ⟨hzz, e1⟩ := bif_t e0
      have hzz : z = z' := by simpa using hzz
      subst hzz
      obtain ⟨c, lim, hg, e2⟩ := rdC_ok e1
      obtain ⟨hlim, e3⟩ := bif_t e2
      have hlim : o + n' * z ≤ lim := by simpa [Nat.ble_eq] using hlim
      clear e0 e1 e2
      by_cases hroom : n' + (m + 1) ≤ cap
      · have hb1 : Nat.ble (n' + (m + 1)) cap = true := Nat.ble_eq_true_of_le hroom
        rw [hb1] at e3
        refine ⟨_, _, e3, fun S w0 ρ w xv yv t tx ty e i zv newsV hA hx hI hn hs hb hb2 => ?_⟩
        obtain ⟨q, ad, cap', hq, rfl, q1, q2, q3, q4, q0, q5⟩ := hx.inv_sl
        rcases q5 with h0 | ⟨rfl, hfit⟩
        · omega
        · have hmz : (n' + (m + 1)) * z ≤ cap' * z := Nat.mul_le_mul_right _ (by omega)
          rw [Nat.add_mul] at hmz
          obtain ⟨g1, g2, g3⟩ := hI.store (o := o + n' * z) hg hq hn hlim (by omega)
          have hrun := run_append_room_src (P := P) w t tx ty e i hA.ty hA.info q.block (q.shift + o) n' cap' yv (m + 1) newsV (by rw [hA.size]; exact hs) (by omega)
            (fun j hj => by rw [hA.size, Nat.add_assoc (q.shift)]; exact g2 j hj) (fun j hj => by rw [hA.size, Nat.add_assoc (q.shift)]; exact g3 j hj)
          rw [hA.size, Nat.add_assoc (q.shift)] at hrun
          exact ⟨_, ρ, _, hrun, .sl _ _ _ _ _ _ q _ _ hq hroom q2 q3 q4 ⟨rfl, .inr ⟨rfl, hfit⟩⟩, g1, ExtN.refl _ ρ, Nat.le_refl _⟩
      · have hb1 : Nat.ble (n' + (m + 1)) cap = false := by
          cases hx : Nat.ble (n' + (m + 1)) cap
          · rfl
          · exact absurd (Nat.le_of_ble_eq_true hx) hroom
        rw [hb1] at e3
        have var : ∃ c', k (.sl h.n 0 (n' + (m + 1)) (n' + (m + 1)) false z) ⟨(bif ex then h.t else h.t.put id .dead).put h.n (.cells c' ((n' + (m + 1)) * z)), h.n + 1⟩ = true ∧
            ∀ j v, c'.get j = some v → j < (n' + (m + 1)) * z → (j < n' * z ∧ c.get (o + j) = some v) ∨ (n' * z ≤ j ∧ news[j - n' * z]? = some v) := by
          cases o with
          | zero =>
            refine ⟨putL c (n' * z) news, ?_, fun j v hv hj => ?_⟩
            · cases ex <;> exact e3
            · rw [get_putL] at hv
              rw [Nat.add_mul] at hj
              by_cases c1 : n' * z ≤ j ∧ j < n' * z + news.length
              · rw [if_pos c1] at hv; exact .inr ⟨c1.1, hv⟩
              · rw [if_neg c1] at hv; exact .inl ⟨by omega, by rw [Nat.zero_add]; exact hv⟩
          | succ o =>
            obtain ⟨olds, o1, o2, e4⟩ := rdn_ok e3
            refine ⟨putL .e 0 (olds ++ news), ?_, fun j v hv hj => ?_⟩
            · cases ex <;> exact e4
            · rw [get_putL] at hv
              rw [Nat.add_mul] at hj
              rw [if_pos (by rw [List.length_append]; omega), Nat.sub_zero] at hv
              by_cases c1 : j < n' * z
              · rw [List.getElem?_append_left (by omega)] at hv
                exact .inl ⟨c1, (o2 j v hv).1⟩
              · rw [List.getElem?_append_right (by omega), o1] at hv
                exact .inr ⟨by omega, hv⟩
        obtain ⟨c', e4, hc'⟩ := var
        refine ⟨_, _, e4, fun S w0 ρ w xv yv t tx ty e i zv newsV hA hx hI hn hs hb hb2 => ?_⟩
        obtain ⟨A0, c0, hsl, _⟩ := hform ρ _ hx
        obtain ⟨q, ad, cap', hq, rfl, q1, q2, q3, q4, q0, q5⟩ := hx.inv_sl
        have hnn : n' = n := by injection hsl
        subst hnn
        obtain ⟨q', cs, et, fz, hq', hw, hr⟩ := hI.cells hg
        rw [hq] at hq'; injection hq' with hq'; subst hq'
        have hin := hr.inn
        have hsz := hr.size
        have hfr := hI.fresh
        -- the old cells
        let olds : List Value := (List.range (n' * z)).map fun j => (cs[q.shift + o + j]?).getD undef
        have hol : olds.length = n' * z := by simp [olds]
        have hoj : ∀ j, j < n' * z → olds[j]? = cs[q.shift + o + j]? := fun j hj => by
          have : cs[q.shift + o + j]? = some (cs[q.shift + o + j]'(by omega)) := Array.getElem?_eq_getElem _
          simp only [olds, List.getElem?_map, List.getElem?_range hj, Option.map_some, this, Option.getD_some]
        have hgood : ∀ j v, c'.get j = some v → j < (n' + (m + 1)) * z → ∃ u, (olds ++ newsV)[j]? = some u ∧ VR ρ v u := fun j v hv hj => by
          rcases hc' j v hv hj with ⟨c1, c2⟩ | ⟨c1, c2⟩
          · obtain ⟨u, u1, u2⟩ := hr.cell (o + j) v c2 (by omega)
            exact ⟨u, by rw [List.getElem?_append_left (by omega), hoj j c1, Nat.add_assoc]; exact u1, u2⟩
          · obtain ⟨u, u1, u2⟩ := hn.at_ c2
            exact ⟨u, by rw [List.getElem?_append_right (by omega), hol]; exact u1, u2⟩
        have hlen : (olds ++ newsV).length = (n' + (m + 1)) * z := by rw [List.length_append, hol, hs.newsLen, ← Nat.add_mul]
        have hold : (Builtin.firstCells z n' (.slice (some ad) n' cap')).run P w.drew = .ok olds.toArray w.drew := by
          rcases q5 with h0 | ⟨rfl, hfit⟩
          · have h1 : n' = 0 := by omega
            have h2 : olds = [] := List.eq_nil_of_length_eq_zero (by rw [hol, h1]; simp)
            rw [h2, h1]
            simp [Builtin.firstCells, loadCells, loadCellsFrom]
          · have := run_firstCells_some (P := P) w.drew z n' ⟨q.block, q.shift + o, none⟩ n' cap' olds hol (fun j u hu => by
              have hj : j < n' * z := by rw [← hol]; exact (List.getElem?_eq_some_iff.1 hu).1
              rw [add_plain]
              rw [hoj j hj] at hu
              rw [cell_of_row w.drew q.block _ cs et fz hw]
              exact hu)
            exact this
        have grow : cap' < n' + (m + 1) → ∃ w' v', (Builtin.append_ #[t, tx] ty #[.slice (some ad) n' cap', yv]).run P w = .ok v' w' ∧
            ∃ q2, VR (ρ.put h.n q2) (.sl h.n 0 (n' + (m + 1)) (n' + (m + 1)) false z) v' ∧ Inv S w0 ⟨h.t.put h.n (.cells c' ((n' + (m + 1)) * z)), h.n + 1⟩ (ρ.put h.n q2) w' ∧
              Inv S w0 ⟨(h.t.put id .dead).put h.n (.cells c' ((n' + (m + 1)) * z)), h.n + 1⟩ (ρ.put h.n q2) w' := fun hgr => by
          obtain ⟨c1, c2⟩ := grownCap_le w (need := n' + (m + 1)) cap' e (by omega)
          have hrun := run_append_grow_src (P := P) w t tx ty e i zv hA.ty hA.info hA.zero (some ad) n' cap' olds (by rw [hA.size]; exact hold) yv (m + 1) newsV (by rw [hA.size]; exact hs) hgr (by omega) (nextcap_fits hgr hb)
          refine ⟨_, _, hrun, ⟨w.heap.size, 0, _⟩, .sl _ _ _ _ _ _ ⟨w.heap.size, 0, _⟩ _ _ (M.put_same _ _ _) (Nat.le_refl _) c1 (fun h => by cases h) c2 ⟨rfl, .inr ⟨rfl, by show 0 + _ * z ≤ _ * z; omega⟩⟩, hI.grown (e := e) hlen hA.cells c1 hgood, ?_⟩
          exact (hI.kill id).grown (e := e) hlen hA.cells c1 hgood
        cases ex with
        | true =>
          have := q3 rfl
          obtain ⟨w', v', hrun, q2', g1, g2, g3⟩ := grow (by omega)
          exact ⟨w', _, v', hrun, g1, g2, ExtN.put hfr (Nat.le_refl _), Nat.le_succ _⟩
        | false =>
          by_cases hfit2 : n' + (m + 1) ≤ cap'
          · rcases q5 with h0 | ⟨rfl, hfit⟩
            · omega
            · have hmz : (n' + (m + 1)) * z ≤ cap' * z := Nat.mul_le_mul_right _ (by omega)
              have hmz' := hmz
              rw [Nat.add_mul] at hmz'
              obtain ⟨g1, g2, g3⟩ := hI.store (o := o + n' * z) hg hq hn hlim (by omega)
              have hrun := run_append_room_src (P := P) w t tx ty e i hA.ty hA.info q.block (q.shift + o) n' cap' yv (m + 1) newsV (by rw [hA.size]; exact hs) hfit2
                (fun j hj => by rw [hA.size, Nat.add_assoc (q.shift)]; exact g2 j hj) (fun j hj => by rw [hA.size, Nat.add_assoc (q.shift)]; exact g3 j hj)
              rw [hA.size, Nat.add_assoc (q.shift)] at hrun
              obtain ⟨cs', r1, r2, r3⟩ := setCells_row q.block newsV (q.shift + (o + n' * z)) w cs et fz hw
              have hnl := hs.newsLen
              have hmv := g1.move (id := id) (a := .cells (putL c (o + n' * z) news) (maxB lim (o + n' * z + news.length))) (q' := ⟨q.block, q.shift + o, q.size - o⟩) (a' := .cells c' ((n' + (m + 1)) * z)) (by simp only [T.get_put_same]) trivial hq rfl r1
                ⟨cs', et, fz, rfl, ⟨by simp only [r2]; omega, by simp only; omega, fun j v hv hj => by
                  obtain ⟨u, u1, u2⟩ := hgood j v hv hj
                  refine ⟨u, ?_, u2⟩
                  show cs'[q.shift + o + j]? = some u
                  rw [r3]
                  have hj' : j < n' * z + (m + 1) * z := by rw [← Nat.add_mul]; exact hj
                  by_cases c1 : j < n' * z
                  · rw [if_neg (by omega), ← hoj j c1]
                    rw [List.getElem?_append_left (by omega)] at u1
                    exact u1
                  · rw [if_pos (by omega)]
                    rw [List.getElem?_append_right (by omega), hol] at u1
                    rw [show q.shift + o + j - (q.shift + (o + n' * z)) = j - n' * z by omega]
                    exact u1, by rw [r2]; exact hr.free⟩⟩
              refine ⟨_, ρ.put h.n ⟨q.block, q.shift + o, q.size - o⟩, _, hrun, .sl _ _ _ _ _ _ ⟨q.block, q.shift + o, q.size - o⟩ _ _ (M.put_same _ _ _) (Nat.le_refl _) hfit2 (fun h => by cases h) q4 ⟨rfl, .inr ⟨by simp, by simp only; omega⟩⟩, hmv.congr rfl (fun j => ?_), ExtN.put hfr (Nat.le_refl _), Nat.le_succ _⟩
              simp only [cond_false, T.get_put]
              by_cases c1 : j = h.n
              · rw [if_pos c1, if_pos c1]
              · rw [if_neg c1, if_neg c1]
                by_cases c2 : j = id
                · rw [if_pos c2, if_pos c2]
                · rw [if_neg c2, if_neg c2, if_neg c2]
          · obtain ⟨w', v', hrun, q2', g1, g2, g3⟩ := grow (by omega)
            exact ⟨w', _, v', hrun, g1, g3, ExtN.put hfr (Nat.le_refl _), Nat.le_succ _⟩
    · cases e0
end
end Go.RE
/- append, copy, maps, bytes of strings: the model's own words. -/
namespace Go.RE
open Go.RowKit
noncomputable section
section
variable {P : Program} {tt : T TypeInfo} {h : Hp} {fr : T AV} {op : Op}
theorem lenS_le {v : AV} {k : Nat → Bool} (h : lenS v k = true) : ∃ n, k n = true ∧ ∀ (ρ : M) (x : Value), VR ρ v x → ∃ A c, x = .slice A n c ∧ n ≤ c := by
  unfold lenS at h
  split at h
  · exact ⟨0, h, fun ρ x hx => ⟨none, 0, hx.inv_sn, Nat.le_refl _⟩⟩
  · exact ⟨_, h, fun ρ x hx => by obtain ⟨q, ad, c, _, e, h1, h2, _⟩ := hx.inv_sl; exact ⟨_, _, e, Nat.le_trans h1 h2⟩⟩
  · cases h
theorem e_app {z bytes : Nat} {x y : AX} {k : AV → Hp → Bool} (hT : TyOk P tt) (hc : chkE tt op (.app z bytes x y) = true) (e : eop h fr (.app z bytes x y) k = true) : ∃ r h', k r h' = true ∧ EffS P op h fr r h' := by
  obtain ⟨u, hu, e1⟩ := ev_val e
  obtain ⟨v, hv, e2⟩ := ev_val e1
  obtain ⟨m, e3, hm⟩ := lenS_le e2
  obtain ⟨n, e4, hn⟩ := lenS_le e3
  obtain ⟨news, e5, hl, hnews⟩ := rdS_ok e4
  obtain ⟨hb, e6⟩ := bif_t e5
  simp only [Bool.and_eq_true, Nat.ble_eq] at hb
  clear e e1 e2 e3 e4 e5
  obtain ⟨r, h', hk, hrun⟩ := appE_ok (P := P) e6 hl hn
  refine ⟨r, h', hk, fun S w0 ρ ac w o ho hF hI => ?_⟩
  obtain ⟨args, types, rfl, hp0⟩ := bltn_ok hc
  obtain ⟨x', y', t, t', rfl, rfl, hp⟩ := twoT_ok hp0
  simp only [Bool.and_eq_true] at hp
  obtain ⟨⟨⟨ct, cu⟩, h1⟩, h2⟩ := hp
  obtain ⟨d, hd, hp⟩ := chkT_ok hT ct
  obtain ⟨d', hd', hp'⟩ := chkT_ok hT cu
  cases d <;> simp only at hp <;> try (cases hp; done)
  cases d' <;> simp only at hp' <;> try (cases hp'; done)
  rename_i el el'
  obtain ⟨i, zv, hi, hz1, hz2, hz3, hz4⟩ := infoIs_ok hT hp
  have r1 := hF.val h1 hu (ofOp_mem (by simp [Op.operands, Call.operands]))
  have r2 := hF.val h2 hv (ofOp_mem (by simp [Op.operands, Call.operands]))
  obtain ⟨us, hus, A, m', c', hx, hnone, hcells⟩ := hnews S w0 ρ w _ r2 hI
  obtain ⟨A2, c2, hx2, _⟩ := hm ρ _ r2
  have hmm : m' = m := by rw [hx] at hx2; injection hx2
  subst hmm
  have hone := hus.one hb.1.1
  have hlen : us.length = m' * i.size := by rw [hz1, ← hl]; exact hus.1.symm
  have hsrc : Src P z t' (ac.eval y') m' us w := by
    rw [hx]
    cases A with
    | none =>
      have h0 := hnone rfl
      subst h0
      have : us = [] := by simpa using hlen
      subst this
      exact Src.ofNil w hd' c'
    | some ad => exact Src.ofSlice w hd' ad m' c' us (by rw [← hz1]; exact hlen) (hcells ad rfl) hone
  obtain ⟨w', ρ', v', g1, g2, g3, g4⟩ := hrun S w0 ρ w (ac.eval x') (ac.eval y') t t' o.type el i zv us ⟨hd, hi, hz1, hz3, hz4⟩ r1 hI hus hsrc (by rw [hz2]; exact hb.1.2) hb.2
  exact ⟨w', ρ', .inl ⟨v', by simp [execOp, ho, resolve, invoke, builtin, g1], g2⟩, g3, g4⟩
theorem bytesV_len : ∀ l : List Nat, (bytesV l).length = l.length := by
  intro l; induction l with
  | nil => rfl
  | cons b l ih => simp [bytesV, ih]
theorem bytesV_eq : ∀ l : List Nat, bytesV l = l.map fun (b : Nat) => AV.i .u8 (b : Int) := by
  intro l; induction l with
  | nil => rfl
  | cons b l ih => simp [bytesV, ih]
theorem bytes_VRs {ρ : M} (s : ByteArray) : VRs ρ (bytesV (s.data.toList.map UInt8.toNat)) (byteCells s) := by
  rw [bytesV_eq]
  unfold byteCells
  rw [List.map_map]
  refine ⟨by simp, fun j u v hu hv => ?_⟩
  simp only [List.getElem?_map, Option.map_eq_some_iff, Function.comp] at hu hv
  obtain ⟨b, h1, rfl⟩ := hu
  obtain ⟨b', h2, rfl⟩ := hv
  rw [h1] at h2; injection h2 with h2; subst h2
  exact .i _ _
theorem e_apps {x y : AX} {k : AV → Hp → Bool} (hT : TyOk P tt) (hc : chkE tt op (.apps x y) = true) (e : eop h fr (.apps x y) k = true) : ∃ r h', k r h' = true ∧ EffS P op h fr r h' := by
  obtain ⟨u, hu, e1⟩ := ev_val e
  obtain ⟨v, hv, e2⟩ := ev_val e1
  clear e e1
  cases v <;> try (cases e2; done)
  rename_i l
  obtain ⟨n, e3, hn⟩ := lenS_le e2
  obtain ⟨hb, e4⟩ := bif_t e3
  simp only [Nat.ble_eq] at hb
  clear e2 e3
  obtain ⟨r, h', hk, hrun⟩ := appE_ok (P := P) e4 (by rw [bytesV_len]; simp) hn
  refine ⟨r, h', hk, fun S w0 ρ ac w o ho hF hI => ?_⟩
  obtain ⟨args, types, rfl, hp0⟩ := bltn_ok hc
  obtain ⟨x', y', t, t', rfl, rfl, hp⟩ := twoT_ok hp0
  simp only [Bool.and_eq_true] at hp
  obtain ⟨⟨⟨ct, cu⟩, h1⟩, h2⟩ := hp
  obtain ⟨d, hd, hp⟩ := chkT_ok hT ct
  obtain ⟨d', hd', hp'⟩ := chkT_ok hT cu
  cases d <;> simp only at hp <;> try (cases hp; done)
  cases d' <;> simp only at hp' <;> try (cases hp'; done)
  rename_i el
  obtain ⟨i, zv, hi, hz1, hz2, hz3, hz4⟩ := infoIs_ok hT hp
  have r1 := hF.val h1 hu (ofOp_mem (by simp [Op.operands, Call.operands]))
  obtain ⟨s, i2, hs⟩ := (hF.val h2 hv (ofOp_mem (by simp [Op.operands, Call.operands]))).inv_s
  have hsz : s.size = l.length := by rw [← hs, List.length_map, Array.length_toList]; rfl
  have hsrc : Src P 1 t' (ac.eval y') l.length (byteCells s) w := by rw [i2, ← hsz]; exact Src.ofString w hd' s
  obtain ⟨w', ρ', v', g1, g2, g3, g4⟩ := hrun S w0 ρ w (ac.eval x') (ac.eval y') t t' o.type el i zv (byteCells s) ⟨hd, hi, hz1, hz3, hz4⟩ r1 hI (by rw [← hs]; exact bytes_VRs s) hsrc (by rw [hz2, Nat.mul_one]; exact hb) hb
  exact ⟨w', ρ', .inl ⟨v', by simp [execOp, ho, resolve, invoke, builtin, g1], g2⟩, g3, g4⟩
theorem e_cpy {z : Nat} {x y : AX} {k : AV → Hp → Bool} (hT : TyOk P tt) (hc : chkE tt op (.cpy z x y) = true) (e : eop h fr (.cpy z x y) k = true) : ∃ r h', k r h' = true ∧ EffS P op h fr r h' := by
  obtain ⟨u, hu, e1⟩ := ev_val e
  obtain ⟨v, hv, e2⟩ := ev_val e1
  obtain ⟨m, e3, hm⟩ := lenS_le e2
  obtain ⟨n, e4, hn⟩ := lenS_le e3
  clear e e1 e2 e3
  generalize hr : (bif Nat.ble m n then m else n) = r at e4
  have hmin : Nat.min m n = r := by
    rw [← hr]
    cases hx : Nat.ble m n
    · have : ¬ m ≤ n := fun e => by rw [Nat.ble_eq_true_of_le e] at hx; cases hx
      simp only [cond_false]; exact Nat.min_eq_right (by omega)
    · have := Nat.le_of_ble_eq_true hx
      simp only [cond_true]; exact Nat.min_eq_left this
  obtain ⟨cs, e6, hl, hcs⟩ := rdS_ok e4
  clear e4
  obtain ⟨args, types, rfl, hp0⟩ := bltn_ok hc
  obtain ⟨x', y', t, t', rfl, rfl, hp⟩ := twoT_ok hp0
  simp only [Bool.and_eq_true] at hp
  obtain ⟨⟨ct, h1⟩, h2⟩ := hp
  obtain ⟨d, hd, hp⟩ := chkT_ok hT ct
  cases d <;> simp only at hp <;> try (cases hp; done)
  have hs := sizIs_ok hT hp
  have src : ∀ (S : Nat → Prop) (w0 : World) (ρ : M) (w : World) (y : Value), VR ρ v y → Inv S w0 h ρ w → ∃ us, VRs ρ cs us ∧ (Builtin.lenOf y).run P w = .ok m w ∧ (Builtin.firstCells z r y).run P w = .ok us.toArray w := fun S w0 ρ w y hy hI => by
    obtain ⟨us, hus, A, m', c', rfl, hnone, hcells⟩ := hcs S w0 ρ w y hy hI
    obtain ⟨A2, c2, hx2, _⟩ := hm ρ _ hy
    have hmm : m' = m := by injection hx2
    subst hmm
    refine ⟨us, hus, rfl, ?_⟩
    cases A with
    | none =>
      have h0 := hnone rfl
      subst h0
      have : us = [] := by have := hus.1; rw [hl] at this; simpa using this.symm
      subst this
      rfl
    | some ad => exact run_firstCells_some w z r ad m' c' us (by rw [← hl]; exact hus.1.symm) (hcells ad rfl)
  cases u <;> try (cases e6; done)
  · refine ⟨_, _, e6, fun S w0 ρ ac w o ho hF hI => ?_⟩
    have i1 := (hF.val h1 hu (ofOp_mem (by simp [Op.operands, Call.operands]))).inv_sn
    obtain ⟨A, c, q1, _⟩ := hn ρ _ (hF.val h1 hu (ofOp_mem (by simp [Op.operands, Call.operands])))
    have hn0 : n = 0 := by rw [i1] at q1; injection q1 with _ q _; exact q.symm
    subst hn0
    have hr0 : r = 0 := by rw [← hmin]; exact Nat.min_zero m
    subst hr0
    obtain ⟨us, hus, s1, s2⟩ := src S w0 ρ w _ (hF.val h2 hv (ofOp_mem (by simp [Op.operands, Call.operands]))) hI
    refine ⟨w, ρ, .inl ⟨.int .i64 0, ?_, .i _ _⟩, hI, ExtN.refl _ ρ, Nat.le_refl _⟩
    have hmin' : m.min 0 = 0 := hmin
    simp [execOp, ho, resolve, invoke, builtin, i1, Builtin.copy_, run_und hd, s1, run_siz hs, s2, goInt, hmin']
  · rename_i id off n' cap ex z'
    obtain ⟨hz, e7⟩ := bif_t e6
    simp only [Bool.and_eq_true, Nat.beq_eq] at hz
    obtain ⟨rfl, hone⟩ := hz
    obtain ⟨c, lim, hg, e8⟩ := rdC_ok e7
    obtain ⟨hlim, e9⟩ := bif_t e8
    have hlim : off + cs.length ≤ lim := by simpa [Nat.ble_eq] using hlim
    refine ⟨_, _, e9, fun S w0 ρ ac w o ho hF hI => ?_⟩
    have hx := hF.val h1 hu (ofOp_mem (by simp [Op.operands, Call.operands]))
    obtain ⟨A, c2, hsl, _⟩ := hn ρ _ hx
    obtain ⟨q, ad, cap', hq, i1, q1, q2, q3, q4, q0, q5⟩ := hx.inv_sl
    have hnn : n' = n := by rw [i1] at hsl; injection hsl
    subst hnn
    obtain ⟨us, hus, s1, s2⟩ := src S w0 ρ w _ (hF.val h2 hv (ofOp_mem (by simp [Op.operands, Call.operands]))) hI
    obtain ⟨q', cs', et, fz, hq', hw, hr'⟩ := hI.cells hg
    rw [hq] at hq'; injection hq' with hq'; subst hq'
    have hin := hr'.inn
    have hmin' : m.min n' = r := hmin
    rcases q5 with h0 | ⟨rfl, hfit⟩
    · have hn0 : n' = 0 := by omega
      subst hn0
      have hr0 : r = 0 := by rw [← hmin]; exact Nat.min_zero m
      subst hr0
      have hcs0 : cs = [] := by simpa using hl
      subst hcs0
      have hus0 : us = [] := hus.inv_nil
      subst hus0
      refine ⟨w, ρ, .inl ⟨.int .i64 0, ?_, .i _ _⟩, (hI.store (vs := []) (us := []) (o := off) hg hq .nil (by simpa using hlim) (by simp; omega)).1, ExtN.refl _ ρ, Nat.le_refl _⟩
      simp [execOp, ho, resolve, invoke, builtin, i1, Builtin.copy_, run_und hd, s1, run_siz hs, s2, goInt, hmin', storeCells]
    · obtain ⟨g1, g2, g3⟩ := hI.store (o := off) hg hq hus (by omega) (by omega)
      have hrun := run_storeCells_cells (P := P) q.block (q.shift + off) us 0 w (by simpa using g2) (by simpa using g3) (hus.one hone)
      simp only [Nat.add_zero] at hrun
      refine ⟨_, ρ, .inl ⟨.int .i64 (r : Int), ?_, .i _ _⟩, g1, ExtN.refl _ ρ, Nat.le_refl _⟩
      simp [execOp, ho, resolve, invoke, builtin, i1, Builtin.copy_, run_und hd, s1, run_siz hs, s2, goInt, hmin', hrun]
end
end
end Go.RE
/- Maps, iterators, bytes of strings: the model's own words. -/
namespace Go.RE
open Go.RowKit
noncomputable section
section
variable {P : Program} {tt : T TypeInfo} {h : Hp} {fr : T AV} {op : Op}
theorem EntR.tail {ρ : M} {x : AV × AV × Nat} {y : MapEntry} {xs : List (AV × AV × Nat)} {ys : List MapEntry} (h : EntR ρ (x :: xs) (y :: ys)) : EntR ρ xs ys :=
  ⟨by simpa using h.1, fun j a b ha hb => h.2 (j + 1) a b (by simpa using ha) (by simpa using hb)⟩
theorem EntR.head {ρ : M} {x : AV × AV × Nat} {y : MapEntry} {xs : List (AV × AV × Nat)} {ys : List MapEntry} (h : EntR ρ (x :: xs) (y :: ys)) : VR ρ x.1 y.key ∧ VR ρ x.2.1 y.val ∧ y.born = x.2.2 := h.2 0 x y rfl rfl
theorem EntR.cons {ρ : M} {x : AV × AV × Nat} {y : MapEntry} {xs : List (AV × AV × Nat)} {ys : List MapEntry} (h : VR ρ x.1 y.key ∧ VR ρ x.2.1 y.val ∧ y.born = x.2.2) (k : EntR ρ xs ys) : EntR ρ (x :: xs) (y :: ys) :=
  ⟨by simp [k.1], fun j a b ha hb => by
    cases j with
    | zero => simp at ha hb; subst ha; subst hb; exact h
    | succ j => exact k.2 j a b (by simpa using ha) (by simpa using hb)⟩
theorem EntR.inv {ρ : M} {x : AV × AV × Nat} {xs : List (AV × AV × Nat)} {l : List MapEntry} (h : EntR ρ (x :: xs) l) : ∃ y ys, l = y :: ys := by
  cases l with
  | nil => have := h.1; simp at this
  | cons y ys => exact ⟨y, ys, rfl⟩
theorem EntR.append {ρ : M} {x : AV × AV × Nat} {y : MapEntry} (h : VR ρ x.1 y.key ∧ VR ρ x.2.1 y.val ∧ y.born = x.2.2) : ∀ {xs : List (AV × AV × Nat)} {ys : List MapEntry}, EntR ρ xs ys → EntR ρ (xs ++ [x]) (ys ++ [y]) := by
  intro xs
  induction xs with
  | nil =>
    intro ys k
    obtain rfl : ys = [] := List.eq_nil_of_length_eq_zero k.1.symm
    exact EntR.cons h k
  | cons a xs ih =>
    intro ys k
    obtain ⟨b, bs, rfl⟩ := k.inv
    exact EntR.cons k.head (ih k.tail)
theorem mupd_ok (k0 : IntKind) {kd : IntKind} {a : Int} {v : AV} : ∀ {es : List (AV × AV × Nat)} {k : Option (List (AV × AV × Nat)) → Bool}, mupd kd a v es k = true → ∃ r, k r = true ∧ ∀ (ρ : M) (es' : List MapEntry) (i : Nat) (y : Value), EntR ρ es es' → VR ρ v y →
    (r = none ∧ Instr.findNow (.int k0) (.int kd a) es' i = some none) ∨ ∃ l j u, r = some l ∧ Instr.findNow (.int k0) (.int kd a) es' i = some (some (i + j, u)) ∧ (es'[j]?).map (·.key) = some (.int kd a) ∧ EntR ρ l (es'.modify j fun e => { e with key := .int kd a, val := y }) := by
  intro es
  induction es with
  | nil =>
    intro k e
    refine ⟨none, e, fun ρ es' i y hr _ => .inl ⟨rfl, ?_⟩⟩
    obtain rfl : es' = [] := List.eq_nil_of_length_eq_zero hr.1.symm
    rfl
  | cons en es ih =>
    intro k e
    obtain ⟨key, u, n⟩ := en
    obtain ⟨k', b, rfl, e1⟩ := asI_ok e
    obtain ⟨hk, e2⟩ := bif_t e1
    have hkk := kEq_eq hk
    subst hkk
    cases hab : iEq a b
    · simp only [hab, cond_false] at e2
      obtain ⟨r, h1, h2⟩ := ih e2
      cases r with
      | none =>
        refine ⟨none, h1, fun ρ es' i y hr hy => ?_⟩
        obtain ⟨x, xs, rfl⟩ := hr.inv
        have y1 := hr.head.1.inv_i
        have hne : (a == b) = false := by rw [← iEq_eq]; exact hab
        have hstep : Instr.findNow (.int k0) (.int k' a) (x :: xs) i = Instr.findNow (.int k0) (.int k' a) xs (i + 1) := by simp only [Instr.findNow, y1, Instr.sameNow, if_true, hne]
        rcases h2 ρ xs (i + 1) y hr.tail hy with ⟨_, h3⟩ | ⟨l, j, w, h3, _⟩
        · exact .inl ⟨rfl, by rw [hstep]; exact h3⟩
        · cases h3
      | some l =>
        refine ⟨_, h1, fun ρ es' i y hr hy => ?_⟩
        obtain ⟨x, xs, rfl⟩ := hr.inv
        have y1 := hr.head.1.inv_i
        have hne : (a == b) = false := by rw [← iEq_eq]; exact hab
        have hstep : Instr.findNow (.int k0) (.int k' a) (x :: xs) i = Instr.findNow (.int k0) (.int k' a) xs (i + 1) := by simp only [Instr.findNow, y1, Instr.sameNow, if_true, hne]
        rcases h2 ρ xs (i + 1) y hr.tail hy with ⟨h3, _⟩ | ⟨l', j, w, h3, h4, h5, h6⟩
        · cases h3
        · injection h3 with h3
          subst h3
          exact .inr ⟨_, j + 1, w, rfl, by rw [hstep, h4, Nat.add_assoc, Nat.add_comm 1 j], by simpa using h5, by simpa using EntR.cons hr.head h6⟩
    · simp only [hab, cond_true] at e2
      refine ⟨_, e2, fun ρ es' i y hr hy => .inr ?_⟩
      obtain ⟨x, xs, rfl⟩ := hr.inv
      have y1 := hr.head.1.inv_i
      have heq : (a == b) = true := by rw [← iEq_eq]; exact hab
      have hab' : a = b := by simpa using heq
      subst hab'
      refine ⟨_, 0, x.val, rfl, by simp only [Instr.findNow, y1, Instr.sameNow, if_true, heq, Nat.add_zero], by simp [y1], ?_⟩
      simpa using EntR.cons (x := (AV.i k' a, v, n)) (y := { x with key := .int k' a, val := y }) ⟨.i _ _, hy, hr.head.2.2⟩ hr.tail
theorem run_setObj {w : World} {b : Nat} {o o' : Obj} (hw : w.heap[b]? = some o) (hn : ∀ c e f, o ≠ .cells c e f) : (setObj b o').run P w = .ok () { w with heap := w.heap.setIfInBounds b o' } := by
  cases o <;> first | (exact absurd rfl (hn _ _ _)) | simp [setObj, Sem.run, hw]
theorem Inv.setObj {S : Nat → Prop} {w0 w : World} {ρ : M} (k : Inv S w0 h ρ w) {id : Nat} {a a' : AO} {q : Pl} {o o' : Obj} (hg : h.t.get id = some a) (hl : a.live) (hq : ρ id = some q) (hw : w.heap[q.block]? = some o) (hr : ObR ρ q a' o') (hl' : a'.live) :
    Inv S w0 ⟨h.t.put id a', h.n⟩ ρ { w with heap := w.heap.setIfInBounds q.block o' } :=
  k.set hg hl hq rfl rfl rfl (by simp) (fun i hi => by simp [Array.getElem?_setIfInBounds_ne (Ne.symm hi)]) (by
    have := (Array.getElem?_eq_some_iff.1 hw).1
    simp [Array.getElem?_setIfInBounds, this]) hr hl'
theorem sameBits_int (n : Nat) (k : IntKind) (a : Int) : Instr.sameBits (n + 1) (.int k a) (.int k a) = true := by simp [Instr.sameBits]
theorem e_mup {m key v : AX} {k : AV → Hp → Bool} (hT : TyOk P tt) (hc : chkE tt op (.mup m key v) = true) (e : eop h fr (.mup m key v) k = true) : ∃ r h', k r h' = true ∧ EffS P op h fr r h' := by
  obtain ⟨u, hu, e1⟩ := ev_val e
  obtain ⟨kv, hkv, e2⟩ := ev_val e1
  obtain ⟨kd, a, rfl, e3⟩ := asI_ok e2
  obtain ⟨y, hy, e4⟩ := ev_val e3
  clear e e1 e2 e3
  cases op <;> simp only [chkE] at hc <;> try (cases hc; done)
  rename_i t m' k' v'
  simp only [Bool.and_eq_true] at hc
  obtain ⟨⟨⟨ct, h1⟩, h2⟩, h3⟩ := hc
  obtain ⟨d, hd, hp⟩ := chkT_ok hT ct
  cases d <;> simp only at hp <;> try (cases hp; done)
  rename_i kt et
  obtain ⟨dk, hdk, hpk⟩ := chkT_ok hT hp
  cases dk <;> simp at hpk
  rename_i kd0
  cases u <;> try (cases e4; done)
  rename_i id
  cases hg : h.t.get id with
  | none => simp only [hg] at e4; cases e4
  | some ao =>
    simp only [hg] at e4
    cases ao <;> try (cases e4; done)
    rename_i es clock
    obtain ⟨r, e5, hf⟩ := mupd_ok kd0 e4
    clear e4
    have hck : ∀ w : World, (Instr.checkKey false 10000 kt (.int kd a)).run P w = .ok () w := fun w => run_checkKey hdk false 9999 a
    have pre : ∀ (S : Nat → Prop) (w0 : World) (ρ : M) (ac : Act) (w : World) (o : Oper), o.op = .mapUpdate t m' k' v' → FRon ρ (ofOp (.mapUpdate t m' k' v')) fr ac → Inv S w0 h ρ w →
        ∃ q es', ρ id = some q ∧ w.heap[q.block]? = some (.map es' clock) ∧ EntR ρ es es'.toList ∧ ac.eval m' = .map (some q.block) ∧ ac.eval k' = .int kd a ∧ VR ρ y (ac.eval v') := fun S w0 ρ ac w o ho hF hI => by
      obtain ⟨q, hq, i1⟩ := (hF.val h1 hu (ofOp_mem (by simp [Op.operands]))).inv_m
      obtain ⟨q', hq', _, ob, hw, es', rfl, hr⟩ := hI.obj id _ hg trivial
      rw [hq] at hq'; injection hq' with hq'; subst hq'
      exact ⟨q, es', hq, hw, hr, i1, (hF.val h2 hkv (ofOp_mem (by simp [Op.operands]))).inv_i, hF.val h3 hy (ofOp_mem (by simp [Op.operands]))⟩
    cases r with
    | none =>
      refine ⟨_, _, e5, fun S w0 ρ ac w o ho hF hI => ?_⟩
      obtain ⟨q, es', hq, hw, hr, i1, i2, i3⟩ := pre S w0 ρ ac w o ho hF hI
      rcases hf ρ es'.toList 0 (ac.eval v') hr i3 with ⟨_, hn⟩ | ⟨l, j, u, hl, _⟩
      · refine ⟨_, ρ, .inr ⟨?_, rfl⟩, hI.setObj (o' := .map (es'.push { key := .int kd a, val := ac.eval v', born := clock }) (clock + 1)) hg trivial hq hw ⟨_, rfl, by rw [Array.toList_push]; exact hr.append ⟨.i _ _, i3, rfl⟩⟩ trivial, ExtN.refl _ ρ, Nat.le_refl _⟩
        simp [execOp, ho, i1, i2, Instr.mapUpdate, run_und hd, run_getMap hw, hck, Instr.findKey, run_und hdk, hn, run_setObj hw]
      · cases hl
    | some l =>
      refine ⟨_, _, e5, fun S w0 ρ ac w o ho hF hI => ?_⟩
      obtain ⟨q, es', hq, hw, hr, i1, i2, i3⟩ := pre S w0 ρ ac w o ho hF hI
      rcases hf ρ es'.toList 0 (ac.eval v') hr i3 with ⟨hl, _⟩ | ⟨l', j, u, hl, hn, hkey, hent⟩
      · cases hl
      · injection hl with hl
        subst hl
        refine ⟨_, ρ, .inr ⟨?_, rfl⟩, hI.setObj (o' := .map (es'.modify j fun e => { e with key := .int kd a, val := ac.eval v' }) clock) hg trivial hq hw ⟨_, rfl, by rw [Array.toList_modify]; exact hent⟩ trivial, ExtN.refl _ ρ, Nat.le_refl _⟩
        have hkey' : ((es'[j]?).map (·.key)).getD (.int kd a) = .int kd a := by
          have : (es'[j]?).map (·.key) = some (.int kd a) := by simpa using hkey
          rw [this]; rfl
        rw [Nat.zero_add] at hn
        have hsb : Instr.sameBits 10000 (.int kd a) (.int kd a) = true := sameBits_int 9999 kd a
        have hks : (Instr.keyThatStays (.int kd a) (.int kd a)).run P w = .ok (.int kd a) w := by simp only [Instr.keyThatStays, hsb, if_true, Sem.run_pure]
        have hfk : (Instr.findKey kt (.int kd a) es'.toList).run P w = .ok (some (j, u)) w := by simp only [Instr.findKey, Sem.run_bind, run_und hdk, Result.andThen_ok, hn, Sem.run_pure]
        simp only [execOp, ho, i1, i2, Instr.mapUpdate, Sem.run_bind, run_und hd, Result.andThen_ok, run_getMap hw, hck, hfk, hkey', hks]
        rw [run_setObj hw (fun c e f h => by cases h)]
        rfl
theorem e_rng {x : AX} {k : AV → Hp → Bool} (hT : TyOk P tt) (hc : chkE tt op (.rng x) = true) (e : eop h fr (.rng x) k = true) : ∃ r h', k r h' = true ∧ EffS P op h fr r h' := by
  obtain ⟨u, hu, e1⟩ := ev_val e
  clear e
  cases op <;> simp only [chkE] at hc <;> try (cases hc; done)
  rename_i t x'
  simp only [Bool.and_eq_true] at hc
  obtain ⟨d, hd, hp⟩ := chkT_ok hT hc.1
  cases d <;> simp only at hp <;> try (cases hp; done)
  cases u <;> try (cases e1; done)
  rename_i id
  cases hg : h.t.get id with
  | none => simp only [hg] at e1; cases e1
  | some ao =>
    simp only [hg] at e1
    cases ao <;> try (cases e1; done)
    rename_i es clock
    refine ⟨_, _, e1, fun S w0 ρ ac w o ho hF hI => ?_⟩
    obtain ⟨q, hq, i1⟩ := (hF.val hc.2 hu (ofOp_mem (by simp [Op.operands]))).inv_m
    obtain ⟨q', hq', _, ob, hw, es', rfl, hr⟩ := hI.obj id _ hg trivial
    rw [hq] at hq'; injection hq' with hq'; subst hq'
    have hfr := hI.fresh
    refine ⟨w.alloc (.mapIter (some q.block) clock #[] clock), ρ.put h.n ⟨w.heap.size, 0, 0⟩, .inl ⟨_, ?_, .p _ _ _ (M.put_same _ _ _)⟩, hI.new hfr (by omega) (by omega) rfl trivial ⟨rfl, q, M.put_ext _ _ hfr id q hq, by simp⟩, ExtN.put hfr (Nat.le_refl _), Nat.le_succ _⟩
    simp [execOp, ho, i1, Instr.range, run_und hd, run_getMap hw]
end
end
end Go.RE
/- The next entry of a map; bytes of strings; all effects. -/
namespace Go.RE
open Go.RowKit
noncomputable section
section
variable {P : Program} {tt : T TypeInfo} {h : Hp} {fr : T AV} {op : Op}
theorem memN_eq (b : Nat) : ∀ l : List Nat, memN b l = l.contains b := by
  intro l
  induction l with
  | nil => rfl
  | cons x l ih =>
    simp only [memN, List.contains_cons]
    cases hb : Nat.beq x b
    · have hne : (b == x) = false := by rw [beq_eq_false_iff_ne]; rintro rfl; rw [Nat.beq_refl] at hb; cases hb
      simp [hne, ih]
    · have : x = b := by simpa using hb
      simp [this]
theorem unseen_R {ρ : M} {seen : List Nat} : ∀ {es : List (AV × AV × Nat)} {es' : List MapEntry}, EntR ρ es es' → EntR ρ (unseen seen es) (es'.filter fun e => !seen.contains e.born) := by
  intro es
  induction es with
  | nil =>
    intro es' hr
    obtain rfl : es' = [] := List.eq_nil_of_length_eq_zero hr.1.symm
    exact hr
  | cons x xs ih =>
    intro es' hr
    obtain ⟨y, ys, rfl⟩ := hr.inv
    have hb := hr.head.2.2
    simp only [unseen, memN_eq]
    rw [List.filter_cons, hb]
    cases hc : seen.contains x.2.2
    · simp only [cond_false, Bool.not_false, if_true]
      exact EntR.cons hr.head (ih hr.tail)
    · simp only [cond_true, Bool.not_true]
      exact ih hr.tail
theorem anyOld_R {ρ : M} {last : Nat} : ∀ {es : List (AV × AV × Nat)} {es' : List MapEntry}, EntR ρ es es' → anyOld last es = true → es'.all (fun e => decide (e.born ≥ last)) = false := by
  intro es
  induction es with
  | nil => intro es' hr h; cases h
  | cons x xs ih =>
    intro es' hr h
    obtain ⟨y, ys, rfl⟩ := hr.inv
    have hb := hr.head.2.2
    simp only [anyOld] at h
    rw [List.all_cons]
    cases hc : Nat.blt x.2.2 last
    · rw [hc] at h
      rw [ih hr.tail h, Bool.and_false]
    · have : x.2.2 < last := by simpa [Nat.blt_eq] using hc
      have hd : decide (y.born ≥ last) = false := by rw [hb]; simpa using this
      rw [hd, Bool.false_and]
theorem e_nxt {x : AX} {k : AV → Hp → Bool} (hc : chkE tt op (.nxt x) = true) (e : eop h fr (.nxt x) k = true) : ∃ r h', k r h' = true ∧ EffS P op h fr r h' := by
  obtain ⟨u, hu, e1⟩ := ev_val e
  clear e
  cases op <;> simp only [chkE] at hc <;> try (cases hc; done)
  rename_i x' isS
  cases isS <;> simp only at hc <;> try (cases hc; done)
  cases u <;> try (cases e1; done)
  rename_i id off
  cases off with
  | succ off => cases e1
  | zero =>
    simp only at e1
    split at e1
    · rename_i m since seen stepped hg
      split at e1
      · rename_i es clock hgm
        have pre : ∀ (S : Nat → Prop) (w0 : World) (ρ : M) (ac : Act) (w : World) (o : Oper), o.op = .next x' false → FRon ρ (ofOp (.next x' false)) fr ac → Inv S w0 h ρ w →
            ∃ q qm, ∃ l : List MapEntry, ρ id = some q ∧ q.shift = 0 ∧ ρ m = some qm ∧ w.heap[q.block]? = some (.mapIter (some qm.block) since seen.toArray stepped) ∧ w.heap[qm.block]? = some (.map l.toArray clock) ∧ EntR ρ es l ∧ ac.eval x' = .pointer (some ⟨q.block, 0, none⟩) := fun S w0 ρ ac w o ho hF hI => by
          obtain ⟨q, hq, i1⟩ := (hF.val hc hu (ofOp_mem (by simp [Op.operands]))).inv_p
          obtain ⟨q', hq', _, ob, hw, hsh, qm, hqm, rfl⟩ := hI.obj id _ hg trivial
          rw [hq] at hq'; injection hq' with hq'; subst hq'
          obtain ⟨qm', hqm', _, ob, hw2, es', rfl, hr⟩ := hI.obj m _ hgm trivial
          rw [hqm] at hqm'; injection hqm' with hqm'; subst hqm'
          rw [hsh, Nat.zero_add] at i1
          exact ⟨q, qm, es'.toList, hq, hsh, hqm, hw, by simpa using hw2, hr, i1⟩
        have guard : ∀ (ρ : M) (l : List MapEntry), EntR ρ es l → (seen.isEmpty || es.isEmpty || anyOld stepped es) = true → (!seen.toArray.isEmpty && !l.toArray.isEmpty && l.toArray.all (fun e => decide (e.born ≥ stepped))) = false := fun ρ l hr hb => by
          cases seen with
          | nil => simp
          | cons s seen =>
            cases es with
            | nil =>
              obtain rfl : l = [] := List.eq_nil_of_length_eq_zero hr.1.symm
              simp
            | cons x xs =>
              have h1 : anyOld stepped (x :: xs) = true := by simpa using hb
              have := anyOld_R hr h1
              simp only [List.all_toArray, this, Bool.and_false]
        split at e1
        · rename_i hun
          obtain ⟨hb, e2⟩ := bif_t e1
          refine ⟨_, _, e2, fun S w0 ρ ac w o ho hF hI => ?_⟩
          obtain ⟨q, qm, l, hq, hsh, hqm, hw, hw2, hr, i1⟩ := pre S w0 ρ ac w o ho hF hI
          have hg0 := guard ρ l hr hb
          have hleft := unseen_R (seen := seen) hr
          rw [hun] at hleft
          have hnil : l.filter (fun e => !seen.contains e.born) = [] := List.eq_nil_of_length_eq_zero hleft.1.symm
          have hnil' : l.toArray.filter (fun e => !seen.toArray.contains e.born) = #[] := by
            simp only [List.filter_toArray, List.contains_toArray, hnil]
          refine ⟨w, ρ, .inl ⟨.tuple #[.bool false], ?_, by simpa using (VRs.nil.cons (VR.b false)).tu⟩, hI, ExtN.refl _ ρ, Nat.le_refl _⟩
          simp only [execOp, ho, i1, Instr.next, Sem.run_bind, run_getIter hw, run_getMap hw2, Result.andThen_ok, hg0, Bool.false_eq_true, if_false, hnil']
          simp [Question.forced]
        · rename_i key v n hun
          obtain ⟨hb, e2⟩ := bif_t e1
          simp only [Bool.and_eq_true] at hb
          have hlt : n < since := by simpa [Nat.blt_eq] using hb.1
          refine ⟨_, _, e2, fun S w0 ρ ac w o ho hF hI => ?_⟩
          obtain ⟨q, qm, l, hq, hsh, hqm, hw, hw2, hr, i1⟩ := pre S w0 ρ ac w o ho hF hI
          have hg0 := guard ρ l hr (by
            have := hb.2
            rw [Bool.or_eq_true] at this
            rcases this with h1 | h1
            · rw [h1]; rfl
            · rw [h1]; simp)
          have hleft := unseen_R (seen := seen) hr
          rw [hun] at hleft
          obtain ⟨y, ys, hys⟩ := hleft.inv
          rw [hys] at hleft
          have hys0 : ys = [] := List.eq_nil_of_length_eq_zero hleft.tail.1.symm
          subst hys0
          obtain ⟨y1, y2, y3⟩ := hleft.head
          simp only at y1 y2 y3
          have hone : l.toArray.filter (fun e => !seen.toArray.contains e.born) = #[y] := by
            simp only [List.filter_toArray, List.contains_toArray, hys]
          refine ⟨_, ρ, .inl ⟨.tuple #[.bool true, y.key, y.val], ?_, by simpa using (((VRs.nil.cons y2).cons y1).cons (VR.b true)).tu⟩,
            hI.setObj (a' := .mit m since (seen ++ [n]) clock) (o' := .mapIter (some qm.block) since (seen.toArray.push y.born) clock) hg trivial hq hw ⟨hsh, qm, hqm, by rw [y3]; simp⟩ trivial, ExtN.refl _ ρ, Nat.le_refl _⟩
          have hold : #[y].filter (fun e => decide (e.born < since)) = #[y] := by simp [y3, hlt]
          have hnew : #[y].filter (fun e => decide (e.born ≥ since)) = #[] := by simp [y3]; omega
          simp only [execOp, ho, i1, Instr.next, Sem.run_bind, run_getIter hw, run_getMap hw2, Result.andThen_ok, hg0, Bool.false_eq_true, if_false, hone, hold, hnew]
          simp [Question.forced, run_setObj hw]
        · cases e1
      · cases e1
    · cases e1
theorem run_mark {w : World} {b : Nat} {a : Addr} (hb : a.block = b) {cs : Array Value} {e : TypeId} {fr : Nat × Nat} (hw : w.heap[b]? = some (.cells cs e fr)) :
    (markStringish a).run P w = .ok () (w.freeze ⟨b, cs.size, none⟩ 1) := by
  subst hb
  simp [markStringish, World.shape?, hw]
theorem freeze_row {w : World} {b : Nat} {cs : Array Value} {e : TypeId} {fr : Nat × Nat} (hw : w.heap[b]? = some (.cells cs e fr)) :
    (w.freeze ⟨b, cs.size, none⟩ 1).heap[b]? = some (.cells cs e (if fr.1 == fr.2 then (cs.size, cs.size + 1) else (min fr.1 cs.size, max fr.2 (cs.size + 1)))) := by
  obtain ⟨lo, hi⟩ := fr
  simp [World.freeze, Array.getElem?_modify, hw]
theorem freeze_far {w : World} {b i : Nat} {a : Addr} (ha : a.block = b) (n : Nat) (h : i ≠ b) : (w.freeze a n).heap[i]? = w.heap[i]? := by
  subst ha
  unfold World.freeze
  split
  · rfl
  · simp only [Array.getElem?_modify]
    rw [if_neg (fun e => h e.symm)]
theorem e_cvss {x : AX} {k : AV → Hp → Bool} (hT : TyOk P tt) (hc : chkE tt op (.cvss x) = true) (e : eop h fr (.cvss x) k = true) : ∃ r h', k r h' = true ∧ EffS P op h fr r h' := by
  obtain ⟨u, hu, e1⟩ := ev_val e
  clear e
  cases u <;> try (cases e1; done)
  rename_i id off n cap ex z
  obtain ⟨c, lim, hg, e2⟩ := rdC_ok e1
  cases op <;> simp only [chkE] at hc <;> try (cases hc; done)
  rename_i s d x'
  simp only [Bool.and_eq_true, decide_eq_true_eq] at hc
  obtain ⟨⟨rfl, ct⟩, h1⟩ := hc
  obtain ⟨sd, hd, hp⟩ := chkT_ok hT ct
  cases sd <;> simp only at hp <;> try (cases hp; done)
  obtain ⟨ed, he, hq⟩ := chkT_ok hT hp
  cases ed <;> simp at hq
  subst hq
  refine ⟨_, _, e2, fun S w0 ρ ac w o ho hF hI => ?_⟩
  have hv := hF.val h1 hu (ofOp_mem (by simp [Op.operands]))
  obtain ⟨q, ad, cap', hq, i1, q1, q2, q3, q4, q0, q5⟩ := hv.inv_sl
  obtain ⟨q', cs, et, fz, hq', hw, hr⟩ := hI.cells hg
  rw [hq] at hq'; injection hq' with hq'; subst hq'
  have hset := hI.set (w' := w.freeze ⟨q.block, cs.size, none⟩ 1) (a' := .cells c lim) hg trivial hq rfl rfl rfl (by simp [World.freeze]) (fun i hi => freeze_far rfl 1 hi) (freeze_row hw)
    ⟨cs, et, _, rfl, ⟨hr.size, hr.inn, hr.cell, by
      have := hr.free
      right
      split
      · exact Nat.le_refl _
      · rename_i hne
        have : cs.size ≤ fz.1 := by
          rcases this with h | h
          · exact absurd (by simpa using h) hne
          · exact h
        simp only; omega⟩⟩ trivial
  refine ⟨_, ρ, .inl ⟨_, ?_, hv⟩, hset.congr rfl (fun i => by
    simp only [T.get_put]
    split
    · rename_i hi; rw [hi]; exact hg
    · rfl), ExtN.refl _ ρ, Nat.le_refl _⟩
  rw [i1]
  simp [execOp, ho, i1, convert, run_und hd, run_und he, run_mark q0 hw]
theorem e_s2b {x : AX} {k : AV → Hp → Bool} (hT : TyOk P tt) (hc : chkE tt op (.s2b x) = true) (e : eop h fr (.s2b x) k = true) : ∃ r h', k r h' = true ∧ EffS P op h fr r h' := by
  obtain ⟨u, hu, e1⟩ := ev_val e
  clear e
  cases u <;> try (cases e1; done)
  rename_i l
  obtain ⟨hb, e2⟩ := bif_t e1
  have hb : l.length ≤ 140737488355328 := by simpa [Nat.ble_eq] using hb
  cases op <;> simp only [chkE] at hc <;> try (cases hc; done)
  rename_i s d x'
  simp only [Bool.and_eq_true] at hc
  obtain ⟨⟨cs, cd⟩, h1⟩ := hc
  obtain ⟨sd, hs, hp⟩ := chkT_ok hT cs
  obtain ⟨dd, hd, hq⟩ := chkT_ok hT cd
  cases sd <;> simp at hp
  cases dd <;> simp only at hq <;> try (cases hq; done)
  rename_i el
  obtain ⟨ed, he, hq⟩ := chkT_ok hT hq
  cases ed <;> simp at hq
  subst hq
  refine ⟨_, _, e2, fun S w0 ρ ac w o ho hF hI => ?_⟩
  obtain ⟨y, i1, hy⟩ := (hF.val h1 hu (ofOp_mem (by simp [Op.operands]))).inv_s
  have hsz : y.size = l.length := by rw [← hy, List.length_map, Array.length_toList]; rfl
  have hfr := hI.fresh
  obtain ⟨cap, hcap⟩ : ∃ cap, (Question.appendCap y.size 0 el).cut (w.tape w.drawn (.appendCap y.size 0 el)) = cap := ⟨_, rfl⟩
  obtain ⟨c1, c2⟩ : y.size ≤ cap ∧ cap ≤ maxLen := by rw [← hcap]; exact grownCap_le w (need := y.size) 0 el (by omega)
  let row : Array Value := (y.data.map fun b => Value.int .u8 b.toNat) ++ Array.replicate (cap - y.size) (.int .u8 0)
  have hrow : row.size = cap := by
    have : y.data.size = y.size := rfl
    simp [row, this]; omega
  have kd : Inv S w0 h ρ { w with drawn := w.drawn + 1 } := hI.drawn _
  have hR := bytes_VRs (ρ := ρ.put h.n ⟨w.heap.size, 0, cap⟩) y
  rw [hy] at hR
  have hnew := kd.new (q := ⟨w.heap.size, 0, cap⟩) (n' := h.n + 1) (a := .cells (putL .e 0 (bytesV l)) l.length) (o := .cells row el) hfr (by omega) (by omega) rfl trivial
    ⟨row, el, (0, 0), rfl, ⟨by simp [hrow], by simp only; omega, fun j v hv hj => by
      rw [get_putL, if_pos (by rw [bytesV_len]; omega)] at hv
      obtain ⟨u, h1, h2⟩ := hR.at_ hv
      refine ⟨u, ?_, h2⟩
      simp only [Nat.zero_add, Nat.sub_zero] at h1 ⊢
      have hjl : j < (y.data.map fun b => Value.int .u8 (b.toNat : Int)).size := by
        have : y.data.size = y.size := rfl
        simp [this]; omega
      simp only [row]
      rw [Array.getElem?_append_left hjl]
      unfold byteCells at h1
      simpa using h1, .inl rfl⟩⟩
  have hw2 : (World.alloc { w with drawn := w.drawn + 1 } (.cells row el)).heap[w.heap.size]? = some (.cells row el (0, 0)) := heap_alloc_new _ _
  have hset := hnew.set (w' := (World.alloc { w with drawn := w.drawn + 1 } (.cells row el)).freeze ⟨w.heap.size, row.size, none⟩ 1) (a := .cells (putL .e 0 (bytesV l)) l.length) (a' := .cells (putL .e 0 (bytesV l)) l.length) (id := h.n) (q := ⟨w.heap.size, 0, cap⟩) (by simp only [T.get_put_same]) trivial (M.put_same _ _ _) rfl rfl rfl (by simp [World.freeze]) (fun i hi => freeze_far rfl 1 hi) (freeze_row hw2)
    ⟨row, el, _, rfl, ⟨by simp [hrow], by simp only; omega, fun j v hv hj => by
      obtain ⟨q', hq', _, ob, hob, cs', e', fz', rfl, hcr⟩ := hnew.obj h.n (.cells (putL .e 0 (bytesV l)) l.length) (by simp only [T.get_put_same]) trivial
      rw [M.put_same] at hq'; injection hq' with hq'; subst hq'
      simp only at hob
      rw [hw2] at hob
      injection hob with hob
      injection hob with hob1 hob2 hob3
      subst hob1
      exact hcr.cell j v hv hj, by right; simp⟩⟩ trivial
  refine ⟨_, ρ.put h.n ⟨w.heap.size, 0, cap⟩, .inl ⟨.slice (some ⟨w.heap.size, 0, none⟩) y.size cap, ?_, by rw [hsz]; exact .sl _ _ _ _ _ _ ⟨w.heap.size, 0, cap⟩ _ _ (M.put_same _ _ _) (Nat.le_refl _) (by omega) (fun h => by cases h) c2 ⟨rfl, .inr ⟨rfl, by show 0 + cap * 1 ≤ cap; omega⟩⟩⟩, hset.congr rfl (fun i => by
    simp only [T.get_put]
    split <;> rfl), ExtN.put hfr (Nat.le_refl _), Nat.le_succ _⟩
  have hmk := run_mark (P := P) (w := World.alloc { w with drawn := w.drawn + 1 } (.cells row el)) (a := ⟨w.heap.size, 0, none⟩) rfl hw2
  have hcv : (Conv.stringToBytes el y).run P w = .ok (.slice (some ⟨w.heap.size, 0, none⟩) y.size cap) ((World.alloc { w with drawn := w.drawn + 1 } (.cells row el)).freeze ⟨w.heap.size, row.size, none⟩ 1) := by
    have hnf : (Question.appendCap y.size 0 el).forced = false := rfl
    simp only [Conv.stringToBytes, Sem.run_bind, run_choose, hnf, Bool.false_eq_true, if_false, Result.andThen_ok, hcap, newRow, run_newObj, Sem.run_pure]
    exact congrArg (fun r => Result.andThen r _) hmk
  simp only [execOp, ho, i1, convert, Sem.run_bind, run_und hs, run_und hd, run_und he, Result.andThen_ok, hcv, Sem.run_pure]
theorem eop_ok (hT : TyOk P tt) {f : EOp} {k : AV → Hp → Bool} (hc : chkE tt op f = true) (e : eop h fr f k = true) : ∃ r h', k r h' = true ∧ EffS P op h fr r h' := by
  cases f with
  | st n x v => exact e_st hT hc e
  | app z b x y => exact e_app hT hc e
  | apps x y => exact e_apps hT hc e
  | cpy z x y => exact e_cpy hT hc e
  | mup m key v => exact e_mup hT hc e
  | rng x => exact e_rng hT hc e
  | nxt x => exact e_nxt hc e
  | s2b x => exact e_s2b hT hc e
  | cvss x => exact e_cvss hT hc e
end
end
end Go.RE
