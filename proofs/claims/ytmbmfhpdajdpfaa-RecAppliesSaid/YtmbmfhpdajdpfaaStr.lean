/- Strings and bytes: conversions as laws for the walk; appends onto a converted row. -/
import Derived.Test.YtmbmfhpdajdpfaaRow
namespace Go.Proofs.Ytmbmfhpdajdpfaa
open Go.RowKit

/-- A string of bytes. -/
def sv (l : List UInt8) : Value := .string ⟨l.toArray⟩

section
variable {P : Program}
theorem run_bytes_str {w : World} {S : Nat → Prop} {A : Option Addr} {n c : Nat} {bs : List UInt8} (h : RdB w S A n bs) (src dst e : TypeId) (hs : P.underlying src = some (.slice e)) (he : P.underlying e = some (.int .u8)) (hd : P.underlying dst = some .string) :
    (convert src dst (.slice A n c)).run P w = .ok (.string ⟨bs.toArray⟩) w := by
  have hlen := h.len
  rcases Nat.eq_zero_or_pos n with rfl | hn
  · have : bs = [] := List.eq_nil_of_length_eq_zero hlen
    subst this
    cases A with
    | none => exact run_convert_bytes_nil w src e hs he 0 c dst hd
    | some ad =>
      have := run_convert_bytes_back (P := P) w src dst e ad c [] hs he hd (fun j hj => by simp at hj)
      simpa using this
  · obtain ⟨ad, rfl, _, hx⟩ := Rds.ex h hn
    have := run_convert_bytes_back (P := P) w src dst e ad c bs hs he hd (fun j hj => hx j _ (by simp [hj, bv]))
    rw [hlen] at this
    exact this

/-- '[]byte(s)'. -/
theorem row_of_str (w : World) (e : TypeId) (s : ByteArray) (C : Nat) (hC : s.size ≤ C) (hCm : C ≤ maxLen) :
    Row (w.drew.alloc (.cells (bytesRow s C) e ((bytesRow s C).size, (bytesRow s C).size + 1))) e 1 (.slice (some ⟨w.heap.size, 0, none⟩) s.size C) s.size (s.data.toList.map bv) := by
  refine ⟨by simp, .inr ⟨w.heap.size, C, (bytesRow s C).toList, (bytesRow s C).size, (bytesRow s C).size + 1, rfl, ?_, .inr (by simp), hC, hCm, ?_, ?_⟩⟩
  · exact (heap_alloc_new w.drew _).trans (by simp)
  · simp only [bytesRow, Array.length_toList, Array.size_append, Array.size_map, Array.size_replicate]
    have : s.data.size = s.size := rfl
    omega
  · simp only [bytesRow, Array.toList_append, Array.toList_map, Nat.mul_one]
    rw [List.take_left']
    · rfl
    · simp
theorem wpl_bytes {ops : Array Oper} {rest : List Oper} {o : Oper} {a : Act} {w : World} {Q : Exit → Act → World → Prop} (hgd : o.guard = none) (x : Operand) (src dst e : TypeId)
    (ho : o.op = .convert src dst x) (hs : P.underlying src = some .string) (hd : P.underlying dst = some (.slice e)) (he : P.underlying e = some (.int .u8)) (l : List UInt8) (hx : a.eval x = .string ⟨l.toArray⟩) (hm : l.length ≤ maxLen)
    (h : ∀ C w', l.length ≤ C → C ≤ maxLen → Row w' e 1 (.slice (some ⟨w.heap.size, 0, none⟩) l.length C) l.length (l.map bv) → Chg Nil w w' → w.heap.size < w'.heap.size → wpList P ops Q rest (a.put o.dst (.slice (some ⟨w.heap.size, 0, none⟩) l.length C)) w') :
    wpList P ops Q (o :: rest) a w := by
  refine wpList_plain hgd fun K hK => ?_
  have hsz : (ByteArray.mk l.toArray).size = l.length := by simp [ByteArray.size]
  have hrun := run_bytes_of_string (P := P) w src dst e ⟨l.toArray⟩ hs hd he
  have hge := grownCap_ge w l.length 0 e
  have hcm := grownCap_le_maxLen w l.length 0 e hm
  have hrow := row_of_str w e ⟨l.toArray⟩ (grownCap w l.length 0 e) (by rw [hsz]; exact hge) hcm
  rw [hsz] at hrun hrow
  unfold Oper.wp execOp
  simp only [ho, Sem.run_bind, hx, hrun, Result.andThen_ok]
  exact hK _ _ (h _ _ hge hcm hrow (((Chg.refl _ w).drew).alloc _) (by simp))

theorem wpl_append_row {ops : Array Oper} {rest : List Oper} {o : Oper} {a : Act} {w : World} {Q : Exit → Act → World → Prop} (hgd : o.guard = none) (s x : Operand) (t : TypeId)
    (ho : o.op = .call { callee := .builtin .append, args := #[s, x], argTypes := #[t, t] })
    (e : TypeId) (i : TypeInfo) (z : Value) (sz bytes : Nat) (ht : P.underlying t = some (.slice e)) (hi : P.info? e = some i) (hz : i.zero = some z)
    (hsize : i.size = sz) (hby : i.bytes = bytes) (hzs : z.cells.size = sz) (hsz : 0 < sz)
    (v : Value) (n : Nat) (xs : List Value) (hs : a.eval s = v) (hown : Row w e sz v n xs)
    (S : Nat → Prop) (A : Option Addr) (m c : Nat) (news : List Value) (hx : a.eval x = .slice A m c) (hr : Rds w S sz A m news) (h1 : ∀ u ∈ news, u.oneCell' = true)
    (h63 : n + m ≤ maxLen) (hbytes : (n + m) * bytes ≤ 140737488355328)
    (h : ∀ v' w', Row w' e sz v' (n + m) (xs ++ news) → Grew w v w' v' → wpList P ops Q rest (a.put o.dst v') w') : wpList P ops Q (o :: rest) a w := by
  refine wpList_plain hgd fun K hK => ?_
  obtain ⟨v', w', hrun, h2, h3⟩ := run_append_row (P := P) w t o.type e i z sz bytes ht hi hz hsize hby hzs hsz v n xs hown S A m c news hr h1 h63 hbytes
  unfold Oper.wp execOp
  simp only [ho, resolve, invoke, builtin, Sem.run_bind, Sem.run_pure, Result.andThen_ok, List.map_toArray, List.map_cons, List.map_nil, hs, hx, hrun]
  exact hK _ _ (h v' w' h2 h3)

theorem wpl_append_zeros {ops : Array Oper} {rest : List Oper} {o : Oper} {a : Act} {w : World} {Q : Exit → Act → World → Prop} (hgd : o.guard = none) (s x : Operand) (t u : TypeId)
    (ho : o.op = .call { callee := .builtin .append, args := #[s, x], argTypes := #[t, u] })
    (e : TypeId) (i : TypeInfo) (z : Value) (sz bytes : Nat) (ht : P.underlying t = some (.slice e)) (hu : P.underlying u = some (.int .i64)) (hi : P.info? e = some i) (hz : i.zero = some z)
    (hsize : i.size = sz) (hby : i.bytes = bytes) (hzs : z.cells.size = sz) (hsz : 0 < sz) (m : Nat) (hone : ∀ x ∈ (Builtin.zeroCells z.cells m).toList, x.oneCell' = true)
    (v : Value) (n : Nat) (xs : List Value) (hs : a.eval s = v) (hown : Row w e sz v n xs) (hx : a.eval x = .int .i64 (m : Int)) (hm : 0 < m)
    (h63 : n + m ≤ maxLen) (hbytes : (n + m) * bytes ≤ 140737488355328)
    (h : ∀ v' w', Row w' e sz v' (n + m) (xs ++ (Builtin.zeroCells z.cells m).toList) → Grew w v w' v' → wpList P ops Q rest (a.put o.dst v') w') : wpList P ops Q (o :: rest) a w := by
  refine wpList_plain hgd fun K hK => ?_
  obtain ⟨v', w', hrun, h2, h3⟩ := run_append_zeros (P := P) w m t u o.type e i z sz bytes ht hu hi hz hsize hby hzs hsz hone v n xs hown hm h63 hbytes
  unfold Oper.wp execOp
  simp only [ho, resolve, invoke, builtin, Sem.run_bind, Sem.run_pure, Result.andThen_ok, List.map_toArray, List.map_cons, List.map_nil, hs, hx, hrun]
  exact hK _ _ (h v' w' h2 h3)
end

theorem zero_bytes (m : Nat) : (Builtin.zeroCells (Value.int .u8 0).cells m).toList = (List.replicate m (0 : UInt8)).map bv := by
  apply List.ext_getElem?
  intro j
  by_cases hj : j < m
  · simp [Builtin.zeroCells, Value.cells, hj, Nat.mod_one, bv]
  · simp [Builtin.zeroCells, Value.cells, hj]
end Go.Proofs.Ytmbmfhpdajdpfaa
