/- Operations that only read: the one theorem. -/
import Derived.Test.YtfadbihdmohdiaaGreatDoorOsjC
namespace Go.Osj
open Go.RowKit
section
variable {P : Program} {c0 w : World} {S : St} {fr : Fr}

theorem run_guard_int (op : BinOp) (t : TypeId) (x y : Operand) (k k' : IntKind) (a b : Int) : (eqGuard op t x y (.int k a) (.int k' b)).run P w = .ok () w := by
  cases op <;> simp [eqGuard]
theorem run_guard_string (op : BinOp) (t : TypeId) (x y : Operand) (a b : ByteArray) : (eqGuard op t x y (.string a) (.string b)).run P w = .ok () w := by
  cases op <;> simp [eqGuard]

theorem run_binI {op : BinOp} {k : IntKind} {a b : Int} {v : Value} (t : TypeId) (h : binI op k a b = some v) : (binOp op t (.int k a) (.int k b)).run P w = .ok v w := by
  cases op <;> simp only [binI] at h <;> try (simp at h; done)
  all_goals first
    | (injection h with h; subst h; simp [binOp, Op.intArith, Op.intCmp, BEq.beq, bne]; done)
    | (injection h with h; subst h; simp [binOp, intBits_and, intBits_or, intBits_xor, intBits_andNot]; done)
    | (split at h
       · simp at h
       · injection h with h; subst h; rename_i hb; simp [binOp, Op.intDiv, hb])

theorem run_binV {op : BinOp} {x y v : Value} (t : TypeId) (ox oy : Operand) (h : binV op x y = some v) : ((do eqGuard op t ox oy x y; binOp op t x y) : Sem Value).run P w = .ok v w := by
  cases x <;> cases y <;> simp only [binV] at h <;> try (simp at h; done)
  case int.int k a k' b =>
    simp only [Sem.run_bind, run_guard_int, Result.andThen_ok]
    cases op
    case shl => simp only at h; split at h <;> simp at h; subst h; rename_i hb; simp [binOp, Op.shift, hb]
    case shr => simp only at h; split at h <;> simp at h; subst h; rename_i hb; simp [binOp, Op.shift, hb]
    all_goals
      simp only at h
      split at h
      · rename_i hk; subst hk; exact run_binI t h
      · simp at h
  case string.string a b =>
    simp only [Sem.run_bind, run_guard_string, Result.andThen_ok]
    cases op <;> simp only [binS] at h <;> try (simp at h; done)
    case add =>
      split at h
      · injection h with h; subst h
        rename_i hb
        have := run_string_add_sum (P := P) w a b hb
        simpa [binOp] using this
      · simp at h
    all_goals (injection h with h; subst h; simp [binOp, Op.stringOp, beq_toListBytes])

theorem run_fill {places : Nat → Option (Nat × Nat)} : ∀ {ps : List (Nat × Value)} {qs : List (Nat × Nat × Value)} {cs : Array Value} {r : List Value},
    ps.mapM (fun p => (places p.1).map fun q => (q.1, q.2, p.2)) = some qs → fillC cs.toList qs = some r → Instr.fill places cs ps = some r.toArray
  | [], qs, cs, r, hq, h => by
    simp at hq; subst hq
    simp [fillC] at h; subst h
    simp [Instr.fill]
  | (i, v) :: ps, qs, cs, r, hq, h => by
    simp only [List.mapM_cons, Option.bind_eq_bind, Option.pure_def] at hq
    cases hp : places i with
    | none => simp [hp] at hq
    | some q =>
      obtain ⟨off, n⟩ := q
      cases hr : ps.mapM (fun p => (places p.1).map fun q => (q.1, q.2, p.2)) with
      | none => simp [hp, hr] at hq
      | some qs' =>
        simp [hp, hr] at hq
        subst hq
        simp only [fillC] at h
        split at h
        · rename_i hc
          obtain ⟨hn, hle⟩ := hc
          simp only [Array.length_toList] at hle
          unfold Instr.fill
          simp only [hp]
          rw [if_neg (by simp [hn]; omega)]
          refine run_fill hr ?_
          rw [← h]
          congr 1
          -- the cells put in one by one
          have key : ∀ (vs : List Value) (j : Nat) (cs : Array Value), off + j + vs.length ≤ cs.size →
              ((vs.zipIdx j).foldl (fun (cs : Array Value) (p : Value × Nat) => cs.setIfInBounds (off + p.2) p.1) cs).toList = cs.toList.take (off + j) ++ vs ++ cs.toList.drop (off + j + vs.length) := by
            intro vs
            induction vs with
            | nil => intro j cs _; simp
            | cons u vs ih =>
              intro j cs hl
              simp only [List.length_cons] at hl
              simp only [List.zipIdx_cons, List.foldl_cons]
              rw [ih (j + 1) _ (by simp; omega)]
              apply List.ext_getElem?
              intro x
              simp only [Array.toList_setIfInBounds, List.append_assoc, List.getElem?_append, List.length_take, List.length_set, Array.length_toList, List.getElem?_take, List.getElem?_set, List.length_cons, List.getElem?_drop]
              by_cases h1 : x < off + j
              · simp [h1, show x < off + (j + 1) by omega, show off + j ≤ cs.size by omega, show off + (j + 1) ≤ cs.size by omega, show ¬ off + j = x by omega]
              · by_cases h2 : x = off + j
                · subst h2
                  simp [show off + j ≤ cs.size by omega, show off + (j + 1) ≤ cs.size by omega, show off + j < off + (j + 1) by omega, show off + j < cs.size by omega]
                · have e1 : min (off + j) cs.size = off + j := by omega
                  have e2 : min (off + (j + 1)) cs.size = off + (j + 1) := by omega
                  simp only [e1, e2, h1, show ¬ x < off + (j + 1) by omega, if_false]
                  obtain ⟨z, hz⟩ : ∃ z, x = off + (j + 1) + z := ⟨x - (off + (j + 1)), by omega⟩
                  subst hz
                  simp only [show off + (j + 1) + z - (off + (j + 1)) = z by omega, show off + (j + 1) + z - (off + j) = z + 1 by omega, List.getElem?_cons_succ]
                  by_cases h3 : z < vs.length
                  · simp [h3]
                  · simp only [h3, if_false, show ¬ z + 1 < vs.length + 1 by omega]
                    rw [if_neg (by omega)]
                    congr 1
                    omega
          have := key v.cells.toList 0 cs (by simp [hn]; omega)
          simp only [Nat.add_zero, Array.length_toList, hn] at this
          rw [← this, ← Array.foldl_toList]
          simp [Array.toList_zipIdx]
        · simp at h
end
end Go.Osj
