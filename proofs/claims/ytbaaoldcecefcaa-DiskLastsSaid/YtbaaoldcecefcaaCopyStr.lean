/- copy of a string onto a part of a row. No condition. -/
import Derived.Test.YtbaaoldcecefcaaDk
import Derived.Lib.AppendStr
namespace Go.Proofs.Ytbaaoldcecefcaa
open Go.RowKit
section
variable {P : Program}
theorem run_copy_strat (w : World) (dT sT ty elem e : TypeId) (hu : P.underlying dT = some (.slice elem)) (hs : (P.info? elem).map (·.size) = some 1)
    (A : Option Addr) (n c off dc : Nat) (xs : List Value) (hrow : Row w e 1 (.slice A n c) n xs) (dp : Option Addr) (hdp : ∀ g, A = some ⟨g, 0, none⟩ → off < n → dp = some ⟨g, off, none⟩)
    (l : List UInt8) (hfit : off + l.length ≤ n) :
    ∃ w', (Builtin.copy_ #[dT, sT] ty #[.slice dp (n - off) dc, .string ⟨l.toArray⟩]).run P w = .ok (.int .i64 (l.length : Int)) w' ∧
      Row w' e 1 (.slice A n c) n (splice xs off (l.map bv)) ∧ Chg (Own (.slice A n c)) w w' := by
  have hsz : (ByteArray.mk l.toArray).size = l.length := by simp [ByteArray.size]
  have hmin : Nat.min l.length (n - off) = l.length := Nat.min_eq_left (by omega)
  have hall := Lib.run_firstCells_string (P := P) (w := w) 1 ⟨l.toArray⟩
  rw [hsz] at hall
  have hlm : (l.map bv).length = l.length := by simp
  have hcells : (Lib.strCells ⟨l.toArray⟩) = l.map bv := by simp [Lib.strCells, bv]
  rw [hcells] at hall
  cases hq : P.info? elem with
  | none => simp [hq] at hs
  | some i =>
    have hi' : i.size = 1 := by simpa [hq] using hs
    rcases Nat.eq_zero_or_pos l.length with h0 | hp
    · have hl : l = [] := List.eq_nil_of_length_eq_zero h0
      subst hl
      refine ⟨w, ?_, by simpa [splice_nil] using hrow, Chg.refl _ _⟩
      cases dp with
      | none => simp [Builtin.copy_, run_underlying hu, Builtin.lenOf, Builtin.firstCells, sizeOf, typeInfo, hq, goInt, ByteArray.size]
      | some ad => simp [Builtin.copy_, run_underlying hu, Builtin.lenOf, Builtin.firstCells, sizeOf, typeInfo, hq, goInt, ByteArray.size, storeCells]
    · rcases hrow.2 with ⟨he, h2⟩ | ⟨g, cap, cur, lo, hi, he, hg, hf, hnc, hcm, hcs, ht⟩
      · omega
      · injection he with hA _ hc
        subst hA hc
        have hdp' := hdp g rfl (by omega)
        subst hdp'
        have hxl : xs.length = n := by simpa using hrow.1
        obtain ⟨w', hst, hg', hch⟩ := run_store_row (P := P) g off e lo hi (l.map bv) 0 cur w hg hf (by rw [hlm]; omega) (bv_one l)
        refine ⟨w', ?_, ⟨?_, .inr ⟨g, c, _, lo, hi, rfl, hg', ?_, hnc, hcm, ?_, ?_⟩⟩, hch.wider (fun k _ hk => by subst hk; rfl)⟩
        · simp [Builtin.copy_, run_underlying hu, Builtin.lenOf, sizeOf, typeInfo, hq, hi', hsz, hmin, hall, hst, goInt]
        · rw [splice_len _ _ _ (by rw [hlm, hxl]; exact hfit)]; simpa using hxl
        · rcases hf with h | h
          · exact .inl h
          · exact .inr (by simp only [List.length_append, List.length_take, List.length_drop]; omega)
        · simp only [List.length_append, List.length_take, List.length_drop]
          omega
        · rw [← ht]
          simp only [splice, Nat.add_zero, Nat.mul_one, hlm]
          apply List.ext_getElem?
          intro j
          simp only [List.getElem?_take, List.getElem?_append, List.getElem?_drop, List.length_take, List.length_append, hlm]
          have hcl : cur.length = c := by simpa using hcs
          rw [hcl]
          (repeat' split) <;> first | rfl | omega | (congr 1; omega) | skip
          all_goals (try (exfalso; omega))
theorem wpl_copy_str {w : World} {ops : Array Oper} {rest : List Oper} {o : Oper} {a : Act} {Q : Exit → Act → World → Prop} (hgd : o.guard = none) (d s : Operand) (dT sT : TypeId)
    (ho : o.op = .call { callee := .builtin .copy, args := #[d, s], argTypes := #[dT, sT] }) (elem e : TypeId) (hu : P.underlying dT = some (.slice elem)) (hsz : (P.info? elem).map (·.size) = some 1)
    (A : Option Addr) (n c off dc : Nat) (xs : List Value) (hrow : Row w e 1 (.slice A n c) n xs) (dp : Option Addr) (hdp : ∀ g, A = some ⟨g, 0, none⟩ → off < n → dp = some ⟨g, off, none⟩)
    (l : List UInt8) (hfit : off + l.length ≤ n)
    (hd : a.eval d = .slice dp (n - off) dc) (hs : a.eval s = .string ⟨l.toArray⟩)
    (h : ∀ w', Row w' e 1 (.slice A n c) n (splice xs off (l.map bv)) → Chg (Own (.slice A n c)) w w' → wpList P ops Q rest (a.put o.dst (.int .i64 (l.length : Int))) w') : wpList P ops Q (o :: rest) a w := by
  refine wpList_plain hgd fun K hK => ?_
  obtain ⟨w', hrun, h2, h3⟩ := run_copy_strat (P := P) w dT sT o.type elem e hu hsz A n c off dc xs hrow dp hdp l hfit
  unfold Oper.wp execOp
  simp only [ho, resolve, invoke, builtin, Sem.run_bind, Sem.run_pure, Result.andThen_ok, List.map_toArray, List.map_cons, List.map_nil, hd, hs, hrun]
  exact hK _ _ (h w' h2 h3)
end
end Go.Proofs.Ytbaaoldcecefcaa
