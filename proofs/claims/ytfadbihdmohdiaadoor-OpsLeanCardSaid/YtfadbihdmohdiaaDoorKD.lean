/- osierref07.Check. -/
import Derived.Test.YtfadbihdmohdiaaDoorKC
set_option linter.unusedVariables false
set_option linter.unusedSimpArgs false
set_option maxHeartbeats 4000000
namespace Go.Osj
theorem F.osierref07_Check_J {S : St} {o : OpA} {dv : Value} (hd : SlT dotE S dv o.deps) (hL : o.deps.length < 9223372036854775808) : J PR F.osierref07_Check [opV o dv] S fun v S' => v = .bool (decide (mayO o)) ∧ S = S' := by
  refine J.back (J_by PR.mixed F.osierref07_Check.ok (by simp) ?_)
  simp (disch := omega) only [go_sem, ↓reduceIte, Nat.reduceEqDiff, Nat.reduceAdd, Nat.reduceMul, Nat.reduceSub, Nat.reduceLT, Nat.reduceLeDiff, Nat.reduceBEq, reduceCtorEq, Int.reduceLT, Int.reduceEq, Int.reduceLE, Int.reduceAdd, Int.reduceSub, Int.reduceToNat, Int.reduceNeg]
  refine wE_boxO (o := o) (dv := dv) rfl fun w S1 he hwb hw => ?_
  have hd1 := hd.ext dotE he
  have hc := hwb.c
  simp (disch := omega) only [go_sem, ↓reduceIte, Nat.reduceEqDiff, Nat.reduceAdd, Nat.reduceMul, Nat.reduceSub, Nat.reduceLT, Nat.reduceLeDiff, Nat.reduceBEq, reduceCtorEq, Int.reduceLT, Int.reduceEq, Int.reduceLE, Int.reduceAdd, Int.reduceSub, Int.reduceToNat, Int.reduceNeg, hc]
  refine wJ_of F.osierref03_May_P ?_; rintro _ _ ⟨rfl, rfl⟩
  simp (disch := omega) only [go_sem, ↓reduceIte, Nat.reduceEqDiff, Nat.reduceAdd, Nat.reduceMul, Nat.reduceSub, Nat.reduceLT, Nat.reduceLeDiff, Nat.reduceBEq, reduceCtorEq, Int.reduceLT, Int.reduceEq, Int.reduceLE, Int.reduceAdd, Int.reduceSub, Int.reduceToNat, Int.reduceNeg, hc]
  refine wJ_of (F.osierref04_May_J hd1 hL) ?_; rintro _ _ ⟨rfl, rfl⟩
  have yes : mayO o → Value.bool true = Value.bool (decide (mayO o)) := fun h => by rw [decide_eq_true h]
  have nk : ¬ mayO o → Value.bool false = Value.bool (decide (mayO o)) := fun h => by rw [decide_eq_false h]
  by_cases m1 : mayP o.id
  rotate_left
  · simp (disch := omega) only [go_sem, ↓reduceIte, Nat.reduceEqDiff, Nat.reduceAdd, Nat.reduceMul, Nat.reduceSub, Nat.reduceLT, Nat.reduceLeDiff, Nat.reduceBEq, reduceCtorEq, Int.reduceLT, Int.reduceEq, Int.reduceLE, Int.reduceAdd, Int.reduceSub, Int.reduceToNat, Int.reduceNeg, hc, m1]
    exact ⟨nk fun h => m1 h.1.1, he⟩
  by_cases m4 : isV o.deps
  rotate_left
  · simp (disch := omega) only [go_sem, ↓reduceIte, Nat.reduceEqDiff, Nat.reduceAdd, Nat.reduceMul, Nat.reduceSub, Nat.reduceLT, Nat.reduceLeDiff, Nat.reduceBEq, reduceCtorEq, Int.reduceLT, Int.reduceEq, Int.reduceLE, Int.reduceAdd, Int.reduceSub, Int.reduceToNat, Int.reduceNeg, hc, m1, m4]
    exact ⟨nk fun h => m4 h.1.2.2.2.1, he⟩
  by_cases m2 : o.time < 1
  · simp (disch := omega) only [go_sem, ↓reduceIte, Nat.reduceEqDiff, Nat.reduceAdd, Nat.reduceMul, Nat.reduceSub, Nat.reduceLT, Nat.reduceLeDiff, Nat.reduceBEq, reduceCtorEq, Int.reduceLT, Int.reduceEq, Int.reduceLE, Int.reduceAdd, Int.reduceSub, Int.reduceToNat, Int.reduceNeg, hc, m1, m2, m4]
    exact ⟨nk fun h => by have := h.1.2.1; omega, he⟩
  by_cases m3 : 1099511627776 < o.time
  · simp (disch := omega) only [go_sem, ↓reduceIte, Nat.reduceEqDiff, Nat.reduceAdd, Nat.reduceMul, Nat.reduceSub, Nat.reduceLT, Nat.reduceLeDiff, Nat.reduceBEq, reduceCtorEq, Int.reduceLT, Int.reduceEq, Int.reduceLE, Int.reduceAdd, Int.reduceSub, Int.reduceToNat, Int.reduceNeg, hc, m1, m2, m3, m4]
    exact ⟨nk fun h => by have := h.1.2.2.1; omega, he⟩
  simp (disch := omega) only [go_sem, ↓reduceIte, Nat.reduceEqDiff, Nat.reduceAdd, Nat.reduceMul, Nat.reduceSub, Nat.reduceLT, Nat.reduceLeDiff, Nat.reduceBEq, reduceCtorEq, Int.reduceLT, Int.reduceEq, Int.reduceLE, Int.reduceAdd, Int.reduceSub, Int.reduceToNat, Int.reduceNeg, hc, m1, m2, m3, m4]
  refine wJ_of (F.osierref04_Get_J hd1 hL) ?_; rintro _ _ ⟨rfl, rfl⟩
  have e1 : IntKind.i64.wrap (o.id.2 - 1) = o.id.2 - 1 := by have := m1.2.2; exact wrap64 (by omega) (by omega)
  by_cases m5 : getV o.deps o.id.1 = o.id.2 - 1
  rotate_left
  · simp (disch := omega) only [go_sem, ↓reduceIte, Nat.reduceEqDiff, Nat.reduceAdd, Nat.reduceMul, Nat.reduceSub, Nat.reduceLT, Nat.reduceLeDiff, Nat.reduceBEq, reduceCtorEq, Int.reduceLT, Int.reduceEq, Int.reduceLE, Int.reduceAdd, Int.reduceSub, Int.reduceToNat, Int.reduceNeg, hc, m4, m5, e1]
    exact ⟨nk fun h => m5 h.1.2.2.2.2, he⟩
  have hmh : mayH o := ⟨m1, by omega, by omega, m4, m5⟩
  simp (disch := omega) only [go_sem, ↓reduceIte, Nat.reduceEqDiff, Nat.reduceAdd, Nat.reduceMul, Nat.reduceSub, Nat.reduceLT, Nat.reduceLeDiff, Nat.reduceBEq, reduceCtorEq, Int.reduceLT, Int.reduceEq, Int.reduceLE, Int.reduceAdd, Int.reduceSub, Int.reduceToNat, Int.reduceNeg, hc, m4, m5, e1]
  refine wJ_of (F.osierref04_Has_J (d := o.block) hd1 hL) ?_; rintro _ _ ⟨rfl, rfl⟩
  simp (disch := omega) only [go_sem, ↓reduceIte, Nat.reduceEqDiff, Nat.reduceAdd, Nat.reduceMul, Nat.reduceSub, Nat.reduceLT, Nat.reduceLeDiff, Nat.reduceBEq, reduceCtorEq, Int.reduceLT, Int.reduceEq, Int.reduceLE, Int.reduceAdd, Int.reduceSub, Int.reduceToNat, Int.reduceNeg, hc]
  refine wJ_of (F.osierref04_Has_J (d := o.at_) hd1 hL) ?_; rintro _ _ ⟨rfl, rfl⟩
  simp (disch := omega) only [go_sem, ↓reduceIte, Nat.reduceEqDiff, Nat.reduceAdd, Nat.reduceMul, Nat.reduceSub, Nat.reduceLT, Nat.reduceLeDiff, Nat.reduceBEq, reduceCtorEq, Int.reduceLT, Int.reduceEq, Int.reduceLE, Int.reduceAdd, Int.reduceSub, Int.reduceToNat, Int.reduceNeg, hc]
  refine wJ_of (F.osierref04_Has_J (d := o.parent) hd1 hL) ?_; rintro _ _ ⟨rfl, rfl⟩
  simp (disch := omega) only [go_sem, ↓reduceIte, Nat.reduceEqDiff, Nat.reduceAdd, Nat.reduceMul, Nat.reduceSub, Nat.reduceLT, Nat.reduceLeDiff, Nat.reduceBEq, reduceCtorEq, Int.reduceLT, Int.reduceEq, Int.reduceLE, Int.reduceAdd, Int.reduceSub, Int.reduceToNat, Int.reduceNeg, hc]
  refine wJ_of F.osierref06_May_J ?_; rintro _ _ ⟨rfl, rfl⟩
  simp (disch := omega) only [go_sem, ↓reduceIte, Nat.reduceEqDiff, Nat.reduceAdd, Nat.reduceMul, Nat.reduceSub, Nat.reduceLT, Nat.reduceLeDiff, Nat.reduceBEq, reduceCtorEq, Int.reduceLT, Int.reduceEq, Int.reduceLE, Int.reduceAdd, Int.reduceSub, Int.reduceToNat, Int.reduceNeg, hc]
  refine wfresh_of fun y hy => ?_
  simp (disch := omega) only [go_sem, ↓reduceIte, Nat.reduceEqDiff, Nat.reduceAdd, Nat.reduceMul, Nat.reduceSub, Nat.reduceLT, Nat.reduceLeDiff, Nat.reduceBEq, reduceCtorEq, Int.reduceLT, Int.reduceEq, Int.reduceLE, Int.reduceAdd, Int.reduceSub, Int.reduceToNat, Int.reduceNeg]
  refine wfresh_of fun z hz => ?_
  simp (disch := omega) only [go_sem, ↓reduceIte, Nat.reduceEqDiff, Nat.reduceAdd, Nat.reduceMul, Nat.reduceSub, Nat.reduceLT, Nat.reduceLeDiff, Nat.reduceBEq, reduceCtorEq, Int.reduceLT, Int.reduceEq, Int.reduceLE, Int.reduceAdd, Int.reduceSub, Int.reduceToNat, Int.reduceNeg]
  refine wfresh_of fun u hu => ?_
  simp (disch := omega) only [go_sem, ↓reduceIte, Nat.reduceEqDiff, Nat.reduceAdd, Nat.reduceMul, Nat.reduceSub, Nat.reduceLT, Nat.reduceLeDiff, Nat.reduceBEq, reduceCtorEq, Int.reduceLT, Int.reduceEq, Int.reduceLE, Int.reduceAdd, Int.reduceSub, Int.reduceToNat, Int.reduceNeg]
  have hzy : z ≠ y := by have := St.lt_put_self S1 y (.cells true 2 [.int .i64 0, .int .i64 0]); omega
  have huz : u ≠ z := by have := St.lt_put_self (S1.put y (.cells true 2 [.int .i64 0, .int .i64 0])) z (.cells true 2 [.int .i64 0, .int .i64 (-1)]); omega
  have huy : u ≠ y := by have := St.lt_put_self S1 y (.cells true 2 [.int .i64 0, .int .i64 0]); have := St.put_n (S1.put y (.cells true 2 [.int .i64 0, .int .i64 0])) z (.cells true 2 [.int .i64 0, .int .i64 (-1)]); omega
  have he2 := (((St.Ext.refl S1).put hy (.cells true 2 [.int .i64 0, .int .i64 0])).put hz (.cells true 2 [.int .i64 0, .int .i64 (-1)])).put hu (.cells true 2 [.int .i64 0, .int .i64 (-2)])
  have he12 := he.trans he2
  have hwb2 := hwb.ext he2
  have hn : (((S1.put y (.cells true 2 [.int .i64 0, .int .i64 0])).put z (.cells true 2 [.int .i64 0, .int .i64 (-1)])).put u (.cells true 2 [.int .i64 0, .int .i64 (-2)])).loadN ⟨y, 0, none⟩ 2 = some [.int .i64 0, .int .i64 0] ∧
      (((S1.put y (.cells true 2 [.int .i64 0, .int .i64 0])).put z (.cells true 2 [.int .i64 0, .int .i64 (-1)])).put u (.cells true 2 [.int .i64 0, .int .i64 (-2)])).loadN ⟨z, 0, none⟩ 2 = some [.int .i64 0, .int .i64 (-1)] ∧
      (((S1.put y (.cells true 2 [.int .i64 0, .int .i64 0])).put z (.cells true 2 [.int .i64 0, .int .i64 (-1)])).put u (.cells true 2 [.int .i64 0, .int .i64 (-2)])).loadN ⟨u, 0, none⟩ 2 = some [.int .i64 0, .int .i64 (-2)] := by
    simp only [St.loadN_def, St.put_obj, if_neg hzy.symm, if_neg huy.symm, if_neg huz.symm, if_true]
    simp
  have hc2 := hwb2.c
  have eqD : ∀ a : Dot, eqV [.i .i64, .i .i64] true (dotV a) (.agg #[.int .i64 0, .int .i64 0]) = some (decide (a = (0, 0))) := fun a => eqV_dot a (0, 0)
  have eqR : ∀ a : Dot, eqV [.i .i64, .i .i64] true (dotV a) (.agg #[.int .i64 0, .int .i64 (-1)]) = some (decide (a = (0, -1))) := fun a => eqV_dot a (0, -1)
  have eqT : ∀ a : Dot, eqV [.i .i64, .i .i64] true (dotV a) (.agg #[.int .i64 0, .int .i64 (-2)]) = some (decide (a = (0, -2))) := fun a => eqV_dot a (0, -2)
  generalize ((S1.put y (.cells true 2 [.int .i64 0, .int .i64 0])).put z (.cells true 2 [.int .i64 0, .int .i64 (-1)])).put u (.cells true 2 [.int .i64 0, .int .i64 (-2)]) = S2 at *
  by_cases k1 : o.kind = 1
  · have K : mayO o → may1 o := fun h => by
      rcases h.2 with h | h | h
      · exact h.2
      · exact absurd h.1 (by omega)
      · exact absurd h.1 (by omega)
    by_cases a0 : o.at_ = (0, 0)
    · have ea := (eqD o.at_).trans (congrArg some (decide_eq_true a0))
      by_cases s1 : o.side = 1
      rotate_left
      · simp (disch := omega) only [go_sem, ↓reduceIte, Nat.reduceEqDiff, Nat.reduceAdd, Nat.reduceMul, Nat.reduceSub, Nat.reduceLT, Nat.reduceLeDiff, Nat.reduceBEq, reduceCtorEq, Int.reduceLT, Int.reduceEq, Int.reduceLE, Int.reduceAdd, Int.reduceSub, Int.reduceToNat, Int.reduceNeg, hc2, hn, k1, ea, s1]
        exact ⟨nk fun h => s1 ((K h).1 a0), he12⟩
      by_cases b2 : 0 ≤ o.char
      rotate_left
      · by_cases b1 : hasP o.deps o.block
        rotate_left
        · simp (disch := omega) only [go_sem, ↓reduceIte, Nat.reduceEqDiff, Nat.reduceAdd, Nat.reduceMul, Nat.reduceSub, Nat.reduceLT, Nat.reduceLeDiff, Nat.reduceBEq, reduceCtorEq, Int.reduceLT, Int.reduceEq, Int.reduceLE, Int.reduceAdd, Int.reduceSub, Int.reduceToNat, Int.reduceNeg, hc2, hn, k1, ea, s1, b2, b1]
          exact ⟨nk fun h => b2 (K h).2.2.2.2.1, he12⟩
        simp (disch := omega) only [go_sem, ↓reduceIte, Nat.reduceEqDiff, Nat.reduceAdd, Nat.reduceMul, Nat.reduceSub, Nat.reduceLT, Nat.reduceLeDiff, Nat.reduceBEq, reduceCtorEq, Int.reduceLT, Int.reduceEq, Int.reduceLE, Int.reduceAdd, Int.reduceSub, Int.reduceToNat, Int.reduceNeg, hc2, hn, k1, ea, s1, b2, b1]
        exact ⟨nk fun h => b2 (K h).2.2.2.2.1, he12⟩
      by_cases b3 : o.char ≤ 1114111
      rotate_left
      · by_cases b1 : hasP o.deps o.block
        rotate_left
        · simp (disch := omega) only [go_sem, ↓reduceIte, Nat.reduceEqDiff, Nat.reduceAdd, Nat.reduceMul, Nat.reduceSub, Nat.reduceLT, Nat.reduceLeDiff, Nat.reduceBEq, reduceCtorEq, Int.reduceLT, Int.reduceEq, Int.reduceLE, Int.reduceAdd, Int.reduceSub, Int.reduceToNat, Int.reduceNeg, hc2, hn, k1, ea, s1, b2, b3, b1]
          exact ⟨nk fun h => b3 (K h).2.2.2.2.2.1, he12⟩
        simp (disch := omega) only [go_sem, ↓reduceIte, Nat.reduceEqDiff, Nat.reduceAdd, Nat.reduceMul, Nat.reduceSub, Nat.reduceLT, Nat.reduceLeDiff, Nat.reduceBEq, reduceCtorEq, Int.reduceLT, Int.reduceEq, Int.reduceLE, Int.reduceAdd, Int.reduceSub, Int.reduceToNat, Int.reduceNeg, hc2, hn, k1, ea, s1, b2, b3, b1]
        exact ⟨nk fun h => b3 (K h).2.2.2.2.2.1, he12⟩
      by_cases b4 : o.char < 55296
      · by_cases b1 : hasP o.deps o.block
        rotate_left
        · simp (disch := omega) only [go_sem, ↓reduceIte, Nat.reduceEqDiff, Nat.reduceAdd, Nat.reduceMul, Nat.reduceSub, Nat.reduceLT, Nat.reduceLeDiff, Nat.reduceBEq, reduceCtorEq, Int.reduceLT, Int.reduceEq, Int.reduceLE, Int.reduceAdd, Int.reduceSub, Int.reduceToNat, Int.reduceNeg, hc2, hn, k1, ea, s1, b2, b3, b4, b1]
          exact ⟨nk fun h => b1 (K h).2.2.2.1, he12⟩
        by_cases p1 : o.parent = (0, 0)
        rotate_left
        · have ep1 := (eqD o.parent).trans (congrArg some (decide_eq_false p1))
          simp (disch := omega) only [go_sem, ↓reduceIte, Nat.reduceEqDiff, Nat.reduceAdd, Nat.reduceMul, Nat.reduceSub, Nat.reduceLT, Nat.reduceLeDiff, Nat.reduceBEq, reduceCtorEq, Int.reduceLT, Int.reduceEq, Int.reduceLE, Int.reduceAdd, Int.reduceSub, Int.reduceToNat, Int.reduceNeg, hc2, hn, k1, ea, s1, b2, b3, b4, b1, ep1]
          exact ⟨nk fun h => p1 (K h).2.2.2.2.2.2.2.1, he12⟩
        have ep1 := (eqD o.parent).trans (congrArg some (decide_eq_true p1))
        have ek : (o.key == ⟨#[]⟩) = decide (o.key = ⟨#[]⟩) := ba_beq _ _
        by_cases y1 : o.key = ⟨#[]⟩
        rotate_left
        · rw [decide_eq_false y1] at ek
          simp (disch := omega) only [go_sem, ↓reduceIte, Nat.reduceEqDiff, Nat.reduceAdd, Nat.reduceMul, Nat.reduceSub, Nat.reduceLT, Nat.reduceLeDiff, Nat.reduceBEq, reduceCtorEq, Int.reduceLT, Int.reduceEq, Int.reduceLE, Int.reduceAdd, Int.reduceSub, Int.reduceToNat, Int.reduceNeg, hc2, hn, k1, ea, s1, b2, b3, b4, b1, ep1, ek]
          exact ⟨nk fun h => y1 (K h).2.2.2.2.2.2.2.2, he12⟩
        rw [decide_eq_true y1] at ek
        simp (disch := omega) only [go_sem, ↓reduceIte, Nat.reduceEqDiff, Nat.reduceAdd, Nat.reduceMul, Nat.reduceSub, Nat.reduceLT, Nat.reduceLeDiff, Nat.reduceBEq, reduceCtorEq, Int.reduceLT, Int.reduceEq, Int.reduceLE, Int.reduceAdd, Int.reduceSub, Int.reduceToNat, Int.reduceNeg, hc2, hn, k1, ea, s1, b2, b3, b4, b1, ep1, ek]
        exact ⟨yes ⟨hmh, .inl ⟨k1, fun _ => s1, fun h => absurd a0 h, .inr s1, b1, b2, b3, .inl b4, p1, y1⟩⟩, he12⟩
      · by_cases b5 : 57343 < o.char
        rotate_left
        · by_cases b1 : hasP o.deps o.block
          rotate_left
          · simp (disch := omega) only [go_sem, ↓reduceIte, Nat.reduceEqDiff, Nat.reduceAdd, Nat.reduceMul, Nat.reduceSub, Nat.reduceLT, Nat.reduceLeDiff, Nat.reduceBEq, reduceCtorEq, Int.reduceLT, Int.reduceEq, Int.reduceLE, Int.reduceAdd, Int.reduceSub, Int.reduceToNat, Int.reduceNeg, hc2, hn, k1, ea, s1, b2, b3, b4, b5, b1]
            exact ⟨nk fun h => by have := (K h).2.2.2.2.2.2.1; omega, he12⟩
          simp (disch := omega) only [go_sem, ↓reduceIte, Nat.reduceEqDiff, Nat.reduceAdd, Nat.reduceMul, Nat.reduceSub, Nat.reduceLT, Nat.reduceLeDiff, Nat.reduceBEq, reduceCtorEq, Int.reduceLT, Int.reduceEq, Int.reduceLE, Int.reduceAdd, Int.reduceSub, Int.reduceToNat, Int.reduceNeg, hc2, hn, k1, ea, s1, b2, b3, b4, b5, b1]
          exact ⟨nk fun h => by have := (K h).2.2.2.2.2.2.1; omega, he12⟩
        by_cases b1 : hasP o.deps o.block
        rotate_left
        · simp (disch := omega) only [go_sem, ↓reduceIte, Nat.reduceEqDiff, Nat.reduceAdd, Nat.reduceMul, Nat.reduceSub, Nat.reduceLT, Nat.reduceLeDiff, Nat.reduceBEq, reduceCtorEq, Int.reduceLT, Int.reduceEq, Int.reduceLE, Int.reduceAdd, Int.reduceSub, Int.reduceToNat, Int.reduceNeg, hc2, hn, k1, ea, s1, b2, b3, b4, b5, b1]
          exact ⟨nk fun h => b1 (K h).2.2.2.1, he12⟩
        by_cases p1 : o.parent = (0, 0)
        rotate_left
        · have ep1 := (eqD o.parent).trans (congrArg some (decide_eq_false p1))
          simp (disch := omega) only [go_sem, ↓reduceIte, Nat.reduceEqDiff, Nat.reduceAdd, Nat.reduceMul, Nat.reduceSub, Nat.reduceLT, Nat.reduceLeDiff, Nat.reduceBEq, reduceCtorEq, Int.reduceLT, Int.reduceEq, Int.reduceLE, Int.reduceAdd, Int.reduceSub, Int.reduceToNat, Int.reduceNeg, hc2, hn, k1, ea, s1, b2, b3, b4, b5, b1, ep1]
          exact ⟨nk fun h => p1 (K h).2.2.2.2.2.2.2.1, he12⟩
        have ep1 := (eqD o.parent).trans (congrArg some (decide_eq_true p1))
        have ek : (o.key == ⟨#[]⟩) = decide (o.key = ⟨#[]⟩) := ba_beq _ _
        by_cases y1 : o.key = ⟨#[]⟩
        rotate_left
        · rw [decide_eq_false y1] at ek
          simp (disch := omega) only [go_sem, ↓reduceIte, Nat.reduceEqDiff, Nat.reduceAdd, Nat.reduceMul, Nat.reduceSub, Nat.reduceLT, Nat.reduceLeDiff, Nat.reduceBEq, reduceCtorEq, Int.reduceLT, Int.reduceEq, Int.reduceLE, Int.reduceAdd, Int.reduceSub, Int.reduceToNat, Int.reduceNeg, hc2, hn, k1, ea, s1, b2, b3, b4, b5, b1, ep1, ek]
          exact ⟨nk fun h => y1 (K h).2.2.2.2.2.2.2.2, he12⟩
        rw [decide_eq_true y1] at ek
        simp (disch := omega) only [go_sem, ↓reduceIte, Nat.reduceEqDiff, Nat.reduceAdd, Nat.reduceMul, Nat.reduceSub, Nat.reduceLT, Nat.reduceLeDiff, Nat.reduceBEq, reduceCtorEq, Int.reduceLT, Int.reduceEq, Int.reduceLE, Int.reduceAdd, Int.reduceSub, Int.reduceToNat, Int.reduceNeg, hc2, hn, k1, ea, s1, b2, b3, b4, b5, b1, ep1, ek]
        exact ⟨yes ⟨hmh, .inl ⟨k1, fun _ => s1, fun h => absurd a0 h, .inr s1, b1, b2, b3, .inr b5, p1, y1⟩⟩, he12⟩
    · have ea := (eqD o.at_).trans (congrArg some (decide_eq_false a0))
      by_cases b2 : 0 ≤ o.char
      rotate_left
      · by_cases b1 : hasP o.deps o.block
        rotate_left
        · simp (disch := omega) only [go_sem, ↓reduceIte, Nat.reduceEqDiff, Nat.reduceAdd, Nat.reduceMul, Nat.reduceSub, Nat.reduceLT, Nat.reduceLeDiff, Nat.reduceBEq, reduceCtorEq, Int.reduceLT, Int.reduceEq, Int.reduceLE, Int.reduceAdd, Int.reduceSub, Int.reduceToNat, Int.reduceNeg, hc2, hn, k1, ea, b2, b1]
          exact ⟨nk fun h => b2 (K h).2.2.2.2.1, he12⟩
        by_cases a1 : hasP o.deps o.at_
        rotate_left
        · simp (disch := omega) only [go_sem, ↓reduceIte, Nat.reduceEqDiff, Nat.reduceAdd, Nat.reduceMul, Nat.reduceSub, Nat.reduceLT, Nat.reduceLeDiff, Nat.reduceBEq, reduceCtorEq, Int.reduceLT, Int.reduceEq, Int.reduceLE, Int.reduceAdd, Int.reduceSub, Int.reduceToNat, Int.reduceNeg, hc2, hn, k1, ea, b2, b1, a1]
          exact ⟨nk fun h => b2 (K h).2.2.2.2.1, he12⟩
        by_cases s0 : o.side = 0
        · simp (disch := omega) only [go_sem, ↓reduceIte, Nat.reduceEqDiff, Nat.reduceAdd, Nat.reduceMul, Nat.reduceSub, Nat.reduceLT, Nat.reduceLeDiff, Nat.reduceBEq, reduceCtorEq, Int.reduceLT, Int.reduceEq, Int.reduceLE, Int.reduceAdd, Int.reduceSub, Int.reduceToNat, Int.reduceNeg, hc2, hn, k1, ea, b2, b1, a1, s0]
          exact ⟨nk fun h => b2 (K h).2.2.2.2.1, he12⟩
        by_cases s1 : o.side = 1
        · simp (disch := omega) only [go_sem, ↓reduceIte, Nat.reduceEqDiff, Nat.reduceAdd, Nat.reduceMul, Nat.reduceSub, Nat.reduceLT, Nat.reduceLeDiff, Nat.reduceBEq, reduceCtorEq, Int.reduceLT, Int.reduceEq, Int.reduceLE, Int.reduceAdd, Int.reduceSub, Int.reduceToNat, Int.reduceNeg, hc2, hn, k1, ea, b2, b1, a1, s0, s1]
          exact ⟨nk fun h => b2 (K h).2.2.2.2.1, he12⟩
        simp (disch := omega) only [go_sem, ↓reduceIte, Nat.reduceEqDiff, Nat.reduceAdd, Nat.reduceMul, Nat.reduceSub, Nat.reduceLT, Nat.reduceLeDiff, Nat.reduceBEq, reduceCtorEq, Int.reduceLT, Int.reduceEq, Int.reduceLE, Int.reduceAdd, Int.reduceSub, Int.reduceToNat, Int.reduceNeg, hc2, hn, k1, ea, b2, b1, a1, s0, s1]
        exact ⟨nk fun h => b2 (K h).2.2.2.2.1, he12⟩
      by_cases b3 : o.char ≤ 1114111
      rotate_left
      · by_cases b1 : hasP o.deps o.block
        rotate_left
        · simp (disch := omega) only [go_sem, ↓reduceIte, Nat.reduceEqDiff, Nat.reduceAdd, Nat.reduceMul, Nat.reduceSub, Nat.reduceLT, Nat.reduceLeDiff, Nat.reduceBEq, reduceCtorEq, Int.reduceLT, Int.reduceEq, Int.reduceLE, Int.reduceAdd, Int.reduceSub, Int.reduceToNat, Int.reduceNeg, hc2, hn, k1, ea, b2, b3, b1]
          exact ⟨nk fun h => b3 (K h).2.2.2.2.2.1, he12⟩
        by_cases a1 : hasP o.deps o.at_
        rotate_left
        · simp (disch := omega) only [go_sem, ↓reduceIte, Nat.reduceEqDiff, Nat.reduceAdd, Nat.reduceMul, Nat.reduceSub, Nat.reduceLT, Nat.reduceLeDiff, Nat.reduceBEq, reduceCtorEq, Int.reduceLT, Int.reduceEq, Int.reduceLE, Int.reduceAdd, Int.reduceSub, Int.reduceToNat, Int.reduceNeg, hc2, hn, k1, ea, b2, b3, b1, a1]
          exact ⟨nk fun h => b3 (K h).2.2.2.2.2.1, he12⟩
        by_cases s0 : o.side = 0
        · simp (disch := omega) only [go_sem, ↓reduceIte, Nat.reduceEqDiff, Nat.reduceAdd, Nat.reduceMul, Nat.reduceSub, Nat.reduceLT, Nat.reduceLeDiff, Nat.reduceBEq, reduceCtorEq, Int.reduceLT, Int.reduceEq, Int.reduceLE, Int.reduceAdd, Int.reduceSub, Int.reduceToNat, Int.reduceNeg, hc2, hn, k1, ea, b2, b3, b1, a1, s0]
          exact ⟨nk fun h => b3 (K h).2.2.2.2.2.1, he12⟩
        by_cases s1 : o.side = 1
        · simp (disch := omega) only [go_sem, ↓reduceIte, Nat.reduceEqDiff, Nat.reduceAdd, Nat.reduceMul, Nat.reduceSub, Nat.reduceLT, Nat.reduceLeDiff, Nat.reduceBEq, reduceCtorEq, Int.reduceLT, Int.reduceEq, Int.reduceLE, Int.reduceAdd, Int.reduceSub, Int.reduceToNat, Int.reduceNeg, hc2, hn, k1, ea, b2, b3, b1, a1, s0, s1]
          exact ⟨nk fun h => b3 (K h).2.2.2.2.2.1, he12⟩
        simp (disch := omega) only [go_sem, ↓reduceIte, Nat.reduceEqDiff, Nat.reduceAdd, Nat.reduceMul, Nat.reduceSub, Nat.reduceLT, Nat.reduceLeDiff, Nat.reduceBEq, reduceCtorEq, Int.reduceLT, Int.reduceEq, Int.reduceLE, Int.reduceAdd, Int.reduceSub, Int.reduceToNat, Int.reduceNeg, hc2, hn, k1, ea, b2, b3, b1, a1, s0, s1]
        exact ⟨nk fun h => b3 (K h).2.2.2.2.2.1, he12⟩
      by_cases b4 : o.char < 55296
      · by_cases b1 : hasP o.deps o.block
        rotate_left
        · simp (disch := omega) only [go_sem, ↓reduceIte, Nat.reduceEqDiff, Nat.reduceAdd, Nat.reduceMul, Nat.reduceSub, Nat.reduceLT, Nat.reduceLeDiff, Nat.reduceBEq, reduceCtorEq, Int.reduceLT, Int.reduceEq, Int.reduceLE, Int.reduceAdd, Int.reduceSub, Int.reduceToNat, Int.reduceNeg, hc2, hn, k1, ea, b2, b3, b4, b1]
          exact ⟨nk fun h => b1 (K h).2.2.2.1, he12⟩
        by_cases a1 : hasP o.deps o.at_
        rotate_left
        · simp (disch := omega) only [go_sem, ↓reduceIte, Nat.reduceEqDiff, Nat.reduceAdd, Nat.reduceMul, Nat.reduceSub, Nat.reduceLT, Nat.reduceLeDiff, Nat.reduceBEq, reduceCtorEq, Int.reduceLT, Int.reduceEq, Int.reduceLE, Int.reduceAdd, Int.reduceSub, Int.reduceToNat, Int.reduceNeg, hc2, hn, k1, ea, b2, b3, b4, b1, a1]
          exact ⟨nk fun h => a1 ((K h).2.1 a0), he12⟩
        by_cases s0 : o.side = 0
        · by_cases p1 : o.parent = (0, 0)
          rotate_left
          · have ep1 := (eqD o.parent).trans (congrArg some (decide_eq_false p1))
            simp (disch := omega) only [go_sem, ↓reduceIte, Nat.reduceEqDiff, Nat.reduceAdd, Nat.reduceMul, Nat.reduceSub, Nat.reduceLT, Nat.reduceLeDiff, Nat.reduceBEq, reduceCtorEq, Int.reduceLT, Int.reduceEq, Int.reduceLE, Int.reduceAdd, Int.reduceSub, Int.reduceToNat, Int.reduceNeg, hc2, hn, k1, ea, b2, b3, b4, b1, a1, s0, ep1]
            exact ⟨nk fun h => p1 (K h).2.2.2.2.2.2.2.1, he12⟩
          have ep1 := (eqD o.parent).trans (congrArg some (decide_eq_true p1))
          have ek : (o.key == ⟨#[]⟩) = decide (o.key = ⟨#[]⟩) := ba_beq _ _
          by_cases y1 : o.key = ⟨#[]⟩
          rotate_left
          · rw [decide_eq_false y1] at ek
            simp (disch := omega) only [go_sem, ↓reduceIte, Nat.reduceEqDiff, Nat.reduceAdd, Nat.reduceMul, Nat.reduceSub, Nat.reduceLT, Nat.reduceLeDiff, Nat.reduceBEq, reduceCtorEq, Int.reduceLT, Int.reduceEq, Int.reduceLE, Int.reduceAdd, Int.reduceSub, Int.reduceToNat, Int.reduceNeg, hc2, hn, k1, ea, b2, b3, b4, b1, a1, s0, ep1, ek]
            exact ⟨nk fun h => y1 (K h).2.2.2.2.2.2.2.2, he12⟩
          rw [decide_eq_true y1] at ek
          simp (disch := omega) only [go_sem, ↓reduceIte, Nat.reduceEqDiff, Nat.reduceAdd, Nat.reduceMul, Nat.reduceSub, Nat.reduceLT, Nat.reduceLeDiff, Nat.reduceBEq, reduceCtorEq, Int.reduceLT, Int.reduceEq, Int.reduceLE, Int.reduceAdd, Int.reduceSub, Int.reduceToNat, Int.reduceNeg, hc2, hn, k1, ea, b2, b3, b4, b1, a1, s0, ep1, ek]
          exact ⟨yes ⟨hmh, .inl ⟨k1, fun h => absurd h a0, fun _ => a1, .inl s0, b1, b2, b3, .inl b4, p1, y1⟩⟩, he12⟩
        · by_cases s1 : o.side = 1
          rotate_left
          · simp (disch := omega) only [go_sem, ↓reduceIte, Nat.reduceEqDiff, Nat.reduceAdd, Nat.reduceMul, Nat.reduceSub, Nat.reduceLT, Nat.reduceLeDiff, Nat.reduceBEq, reduceCtorEq, Int.reduceLT, Int.reduceEq, Int.reduceLE, Int.reduceAdd, Int.reduceSub, Int.reduceToNat, Int.reduceNeg, hc2, hn, k1, ea, b2, b3, b4, b1, a1, s0, s1]
            exact ⟨nk fun h => ((K h).2.2.1).elim s0 s1, he12⟩
          by_cases p1 : o.parent = (0, 0)
          rotate_left
          · have ep1 := (eqD o.parent).trans (congrArg some (decide_eq_false p1))
            simp (disch := omega) only [go_sem, ↓reduceIte, Nat.reduceEqDiff, Nat.reduceAdd, Nat.reduceMul, Nat.reduceSub, Nat.reduceLT, Nat.reduceLeDiff, Nat.reduceBEq, reduceCtorEq, Int.reduceLT, Int.reduceEq, Int.reduceLE, Int.reduceAdd, Int.reduceSub, Int.reduceToNat, Int.reduceNeg, hc2, hn, k1, ea, b2, b3, b4, b1, a1, s0, s1, ep1]
            exact ⟨nk fun h => p1 (K h).2.2.2.2.2.2.2.1, he12⟩
          have ep1 := (eqD o.parent).trans (congrArg some (decide_eq_true p1))
          have ek : (o.key == ⟨#[]⟩) = decide (o.key = ⟨#[]⟩) := ba_beq _ _
          by_cases y1 : o.key = ⟨#[]⟩
          rotate_left
          · rw [decide_eq_false y1] at ek
            simp (disch := omega) only [go_sem, ↓reduceIte, Nat.reduceEqDiff, Nat.reduceAdd, Nat.reduceMul, Nat.reduceSub, Nat.reduceLT, Nat.reduceLeDiff, Nat.reduceBEq, reduceCtorEq, Int.reduceLT, Int.reduceEq, Int.reduceLE, Int.reduceAdd, Int.reduceSub, Int.reduceToNat, Int.reduceNeg, hc2, hn, k1, ea, b2, b3, b4, b1, a1, s0, s1, ep1, ek]
            exact ⟨nk fun h => y1 (K h).2.2.2.2.2.2.2.2, he12⟩
          rw [decide_eq_true y1] at ek
          simp (disch := omega) only [go_sem, ↓reduceIte, Nat.reduceEqDiff, Nat.reduceAdd, Nat.reduceMul, Nat.reduceSub, Nat.reduceLT, Nat.reduceLeDiff, Nat.reduceBEq, reduceCtorEq, Int.reduceLT, Int.reduceEq, Int.reduceLE, Int.reduceAdd, Int.reduceSub, Int.reduceToNat, Int.reduceNeg, hc2, hn, k1, ea, b2, b3, b4, b1, a1, s0, s1, ep1, ek]
          exact ⟨yes ⟨hmh, .inl ⟨k1, fun h => absurd h a0, fun _ => a1, .inr s1, b1, b2, b3, .inl b4, p1, y1⟩⟩, he12⟩
      · by_cases b5 : 57343 < o.char
        rotate_left
        · by_cases b1 : hasP o.deps o.block
          rotate_left
          · simp (disch := omega) only [go_sem, ↓reduceIte, Nat.reduceEqDiff, Nat.reduceAdd, Nat.reduceMul, Nat.reduceSub, Nat.reduceLT, Nat.reduceLeDiff, Nat.reduceBEq, reduceCtorEq, Int.reduceLT, Int.reduceEq, Int.reduceLE, Int.reduceAdd, Int.reduceSub, Int.reduceToNat, Int.reduceNeg, hc2, hn, k1, ea, b2, b3, b4, b5, b1]
            exact ⟨nk fun h => by have := (K h).2.2.2.2.2.2.1; omega, he12⟩
          by_cases a1 : hasP o.deps o.at_
          rotate_left
          · simp (disch := omega) only [go_sem, ↓reduceIte, Nat.reduceEqDiff, Nat.reduceAdd, Nat.reduceMul, Nat.reduceSub, Nat.reduceLT, Nat.reduceLeDiff, Nat.reduceBEq, reduceCtorEq, Int.reduceLT, Int.reduceEq, Int.reduceLE, Int.reduceAdd, Int.reduceSub, Int.reduceToNat, Int.reduceNeg, hc2, hn, k1, ea, b2, b3, b4, b5, b1, a1]
            exact ⟨nk fun h => by have := (K h).2.2.2.2.2.2.1; omega, he12⟩
          by_cases s0 : o.side = 0
          · simp (disch := omega) only [go_sem, ↓reduceIte, Nat.reduceEqDiff, Nat.reduceAdd, Nat.reduceMul, Nat.reduceSub, Nat.reduceLT, Nat.reduceLeDiff, Nat.reduceBEq, reduceCtorEq, Int.reduceLT, Int.reduceEq, Int.reduceLE, Int.reduceAdd, Int.reduceSub, Int.reduceToNat, Int.reduceNeg, hc2, hn, k1, ea, b2, b3, b4, b5, b1, a1, s0]
            exact ⟨nk fun h => by have := (K h).2.2.2.2.2.2.1; omega, he12⟩
          by_cases s1 : o.side = 1
          · simp (disch := omega) only [go_sem, ↓reduceIte, Nat.reduceEqDiff, Nat.reduceAdd, Nat.reduceMul, Nat.reduceSub, Nat.reduceLT, Nat.reduceLeDiff, Nat.reduceBEq, reduceCtorEq, Int.reduceLT, Int.reduceEq, Int.reduceLE, Int.reduceAdd, Int.reduceSub, Int.reduceToNat, Int.reduceNeg, hc2, hn, k1, ea, b2, b3, b4, b5, b1, a1, s0, s1]
            exact ⟨nk fun h => by have := (K h).2.2.2.2.2.2.1; omega, he12⟩
          simp (disch := omega) only [go_sem, ↓reduceIte, Nat.reduceEqDiff, Nat.reduceAdd, Nat.reduceMul, Nat.reduceSub, Nat.reduceLT, Nat.reduceLeDiff, Nat.reduceBEq, reduceCtorEq, Int.reduceLT, Int.reduceEq, Int.reduceLE, Int.reduceAdd, Int.reduceSub, Int.reduceToNat, Int.reduceNeg, hc2, hn, k1, ea, b2, b3, b4, b5, b1, a1, s0, s1]
          exact ⟨nk fun h => by have := (K h).2.2.2.2.2.2.1; omega, he12⟩
        by_cases b1 : hasP o.deps o.block
        rotate_left
        · simp (disch := omega) only [go_sem, ↓reduceIte, Nat.reduceEqDiff, Nat.reduceAdd, Nat.reduceMul, Nat.reduceSub, Nat.reduceLT, Nat.reduceLeDiff, Nat.reduceBEq, reduceCtorEq, Int.reduceLT, Int.reduceEq, Int.reduceLE, Int.reduceAdd, Int.reduceSub, Int.reduceToNat, Int.reduceNeg, hc2, hn, k1, ea, b2, b3, b4, b5, b1]
          exact ⟨nk fun h => b1 (K h).2.2.2.1, he12⟩
        by_cases a1 : hasP o.deps o.at_
        rotate_left
        · simp (disch := omega) only [go_sem, ↓reduceIte, Nat.reduceEqDiff, Nat.reduceAdd, Nat.reduceMul, Nat.reduceSub, Nat.reduceLT, Nat.reduceLeDiff, Nat.reduceBEq, reduceCtorEq, Int.reduceLT, Int.reduceEq, Int.reduceLE, Int.reduceAdd, Int.reduceSub, Int.reduceToNat, Int.reduceNeg, hc2, hn, k1, ea, b2, b3, b4, b5, b1, a1]
          exact ⟨nk fun h => a1 ((K h).2.1 a0), he12⟩
        by_cases s0 : o.side = 0
        · by_cases p1 : o.parent = (0, 0)
          rotate_left
          · have ep1 := (eqD o.parent).trans (congrArg some (decide_eq_false p1))
            simp (disch := omega) only [go_sem, ↓reduceIte, Nat.reduceEqDiff, Nat.reduceAdd, Nat.reduceMul, Nat.reduceSub, Nat.reduceLT, Nat.reduceLeDiff, Nat.reduceBEq, reduceCtorEq, Int.reduceLT, Int.reduceEq, Int.reduceLE, Int.reduceAdd, Int.reduceSub, Int.reduceToNat, Int.reduceNeg, hc2, hn, k1, ea, b2, b3, b4, b5, b1, a1, s0, ep1]
            exact ⟨nk fun h => p1 (K h).2.2.2.2.2.2.2.1, he12⟩
          have ep1 := (eqD o.parent).trans (congrArg some (decide_eq_true p1))
          have ek : (o.key == ⟨#[]⟩) = decide (o.key = ⟨#[]⟩) := ba_beq _ _
          by_cases y1 : o.key = ⟨#[]⟩
          rotate_left
          · rw [decide_eq_false y1] at ek
            simp (disch := omega) only [go_sem, ↓reduceIte, Nat.reduceEqDiff, Nat.reduceAdd, Nat.reduceMul, Nat.reduceSub, Nat.reduceLT, Nat.reduceLeDiff, Nat.reduceBEq, reduceCtorEq, Int.reduceLT, Int.reduceEq, Int.reduceLE, Int.reduceAdd, Int.reduceSub, Int.reduceToNat, Int.reduceNeg, hc2, hn, k1, ea, b2, b3, b4, b5, b1, a1, s0, ep1, ek]
            exact ⟨nk fun h => y1 (K h).2.2.2.2.2.2.2.2, he12⟩
          rw [decide_eq_true y1] at ek
          simp (disch := omega) only [go_sem, ↓reduceIte, Nat.reduceEqDiff, Nat.reduceAdd, Nat.reduceMul, Nat.reduceSub, Nat.reduceLT, Nat.reduceLeDiff, Nat.reduceBEq, reduceCtorEq, Int.reduceLT, Int.reduceEq, Int.reduceLE, Int.reduceAdd, Int.reduceSub, Int.reduceToNat, Int.reduceNeg, hc2, hn, k1, ea, b2, b3, b4, b5, b1, a1, s0, ep1, ek]
          exact ⟨yes ⟨hmh, .inl ⟨k1, fun h => absurd h a0, fun _ => a1, .inl s0, b1, b2, b3, .inr b5, p1, y1⟩⟩, he12⟩
        · by_cases s1 : o.side = 1
          rotate_left
          · simp (disch := omega) only [go_sem, ↓reduceIte, Nat.reduceEqDiff, Nat.reduceAdd, Nat.reduceMul, Nat.reduceSub, Nat.reduceLT, Nat.reduceLeDiff, Nat.reduceBEq, reduceCtorEq, Int.reduceLT, Int.reduceEq, Int.reduceLE, Int.reduceAdd, Int.reduceSub, Int.reduceToNat, Int.reduceNeg, hc2, hn, k1, ea, b2, b3, b4, b5, b1, a1, s0, s1]
            exact ⟨nk fun h => ((K h).2.2.1).elim s0 s1, he12⟩
          by_cases p1 : o.parent = (0, 0)
          rotate_left
          · have ep1 := (eqD o.parent).trans (congrArg some (decide_eq_false p1))
            simp (disch := omega) only [go_sem, ↓reduceIte, Nat.reduceEqDiff, Nat.reduceAdd, Nat.reduceMul, Nat.reduceSub, Nat.reduceLT, Nat.reduceLeDiff, Nat.reduceBEq, reduceCtorEq, Int.reduceLT, Int.reduceEq, Int.reduceLE, Int.reduceAdd, Int.reduceSub, Int.reduceToNat, Int.reduceNeg, hc2, hn, k1, ea, b2, b3, b4, b5, b1, a1, s0, s1, ep1]
            exact ⟨nk fun h => p1 (K h).2.2.2.2.2.2.2.1, he12⟩
          have ep1 := (eqD o.parent).trans (congrArg some (decide_eq_true p1))
          have ek : (o.key == ⟨#[]⟩) = decide (o.key = ⟨#[]⟩) := ba_beq _ _
          by_cases y1 : o.key = ⟨#[]⟩
          rotate_left
          · rw [decide_eq_false y1] at ek
            simp (disch := omega) only [go_sem, ↓reduceIte, Nat.reduceEqDiff, Nat.reduceAdd, Nat.reduceMul, Nat.reduceSub, Nat.reduceLT, Nat.reduceLeDiff, Nat.reduceBEq, reduceCtorEq, Int.reduceLT, Int.reduceEq, Int.reduceLE, Int.reduceAdd, Int.reduceSub, Int.reduceToNat, Int.reduceNeg, hc2, hn, k1, ea, b2, b3, b4, b5, b1, a1, s0, s1, ep1, ek]
            exact ⟨nk fun h => y1 (K h).2.2.2.2.2.2.2.2, he12⟩
          rw [decide_eq_true y1] at ek
          simp (disch := omega) only [go_sem, ↓reduceIte, Nat.reduceEqDiff, Nat.reduceAdd, Nat.reduceMul, Nat.reduceSub, Nat.reduceLT, Nat.reduceLeDiff, Nat.reduceBEq, reduceCtorEq, Int.reduceLT, Int.reduceEq, Int.reduceLE, Int.reduceAdd, Int.reduceSub, Int.reduceToNat, Int.reduceNeg, hc2, hn, k1, ea, b2, b3, b4, b5, b1, a1, s0, s1, ep1, ek]
          exact ⟨yes ⟨hmh, .inl ⟨k1, fun h => absurd h a0, fun _ => a1, .inr s1, b1, b2, b3, .inr b5, p1, y1⟩⟩, he12⟩
  by_cases k2 : o.kind = 2
  · have K : mayO o → may2 o := fun h => by
      rcases h.2 with h | h | h
      · exact absurd h.1 (by omega)
      · exact h.2
      · exact absurd h.1 (by omega)
    by_cases b1 : hasP o.deps o.block
    rotate_left
    · simp (disch := omega) only [go_sem, ↓reduceIte, Nat.reduceEqDiff, Nat.reduceAdd, Nat.reduceMul, Nat.reduceSub, Nat.reduceLT, Nat.reduceLeDiff, Nat.reduceBEq, reduceCtorEq, Int.reduceLT, Int.reduceEq, Int.reduceLE, Int.reduceAdd, Int.reduceSub, Int.reduceToNat, Int.reduceNeg, hc2, hn, k2, b1]
      exact ⟨nk fun h => b1 (K h).1, he12⟩
    by_cases a1 : hasP o.deps o.at_
    rotate_left
    · simp (disch := omega) only [go_sem, ↓reduceIte, Nat.reduceEqDiff, Nat.reduceAdd, Nat.reduceMul, Nat.reduceSub, Nat.reduceLT, Nat.reduceLeDiff, Nat.reduceBEq, reduceCtorEq, Int.reduceLT, Int.reduceEq, Int.reduceLE, Int.reduceAdd, Int.reduceSub, Int.reduceToNat, Int.reduceNeg, hc2, hn, k2, b1, a1]
      exact ⟨nk fun h => a1 (K h).2.1, he12⟩
    by_cases s0 : o.side = 0
    rotate_left
    · simp (disch := omega) only [go_sem, ↓reduceIte, Nat.reduceEqDiff, Nat.reduceAdd, Nat.reduceMul, Nat.reduceSub, Nat.reduceLT, Nat.reduceLeDiff, Nat.reduceBEq, reduceCtorEq, Int.reduceLT, Int.reduceEq, Int.reduceLE, Int.reduceAdd, Int.reduceSub, Int.reduceToNat, Int.reduceNeg, hc2, hn, k2, b1, a1, s0]
      exact ⟨nk fun h => s0 (K h).2.2.1, he12⟩
    by_cases c0 : o.char = 0
    rotate_left
    · simp (disch := omega) only [go_sem, ↓reduceIte, Nat.reduceEqDiff, Nat.reduceAdd, Nat.reduceMul, Nat.reduceSub, Nat.reduceLT, Nat.reduceLeDiff, Nat.reduceBEq, reduceCtorEq, Int.reduceLT, Int.reduceEq, Int.reduceLE, Int.reduceAdd, Int.reduceSub, Int.reduceToNat, Int.reduceNeg, hc2, hn, k2, b1, a1, s0, c0]
      exact ⟨nk fun h => c0 (K h).2.2.2.1, he12⟩
    by_cases p1 : o.parent = (0, 0)
    rotate_left
    · have ep1 := (eqD o.parent).trans (congrArg some (decide_eq_false p1))
      simp (disch := omega) only [go_sem, ↓reduceIte, Nat.reduceEqDiff, Nat.reduceAdd, Nat.reduceMul, Nat.reduceSub, Nat.reduceLT, Nat.reduceLeDiff, Nat.reduceBEq, reduceCtorEq, Int.reduceLT, Int.reduceEq, Int.reduceLE, Int.reduceAdd, Int.reduceSub, Int.reduceToNat, Int.reduceNeg, hc2, hn, k2, b1, a1, s0, c0, ep1]
      exact ⟨nk fun h => p1 (K h).2.2.2.2.1, he12⟩
    have ep1 := (eqD o.parent).trans (congrArg some (decide_eq_true p1))
    have ek : (o.key == ⟨#[]⟩) = decide (o.key = ⟨#[]⟩) := ba_beq _ _
    by_cases y1 : o.key = ⟨#[]⟩
    rotate_left
    · rw [decide_eq_false y1] at ek
      simp (disch := omega) only [go_sem, ↓reduceIte, Nat.reduceEqDiff, Nat.reduceAdd, Nat.reduceMul, Nat.reduceSub, Nat.reduceLT, Nat.reduceLeDiff, Nat.reduceBEq, reduceCtorEq, Int.reduceLT, Int.reduceEq, Int.reduceLE, Int.reduceAdd, Int.reduceSub, Int.reduceToNat, Int.reduceNeg, hc2, hn, k2, b1, a1, s0, c0, ep1, ek]
      exact ⟨nk fun h => y1 (K h).2.2.2.2.2, he12⟩
    rw [decide_eq_true y1] at ek
    simp (disch := omega) only [go_sem, ↓reduceIte, Nat.reduceEqDiff, Nat.reduceAdd, Nat.reduceMul, Nat.reduceSub, Nat.reduceLT, Nat.reduceLeDiff, Nat.reduceBEq, reduceCtorEq, Int.reduceLT, Int.reduceEq, Int.reduceLE, Int.reduceAdd, Int.reduceSub, Int.reduceToNat, Int.reduceNeg, hc2, hn, k2, b1, a1, s0, c0, ep1, ek]
    exact ⟨yes ⟨hmh, .inr (.inl ⟨k2, b1, a1, s0, c0, p1, y1⟩)⟩, he12⟩
  by_cases k3 : o.kind = 3
  · have K : mayO o → may3 o := fun h => by
      rcases h.2 with h | h | h
      · exact absurd h.1 (by omega)
      · exact absurd h.1 (by omega)
      · exact h.2
    by_cases b0 : o.block = o.id
    · have eb := (eqV_dot o.block o.id).trans (congrArg some (decide_eq_true b0))
      by_cases r1 : o.parent = (0, -1)
      · have er1 := (eqR o.parent).trans (congrArg some (decide_eq_true r1))
        by_cases q1 : o.parent = o.block
        · have eq1 := (eqV_dot o.parent o.block).trans (congrArg some (decide_eq_true q1))
          simp (disch := omega) only [go_sem, ↓reduceIte, Nat.reduceEqDiff, Nat.reduceAdd, Nat.reduceMul, Nat.reduceSub, Nat.reduceLT, Nat.reduceLeDiff, Nat.reduceBEq, reduceCtorEq, Int.reduceLT, Int.reduceEq, Int.reduceLE, Int.reduceAdd, Int.reduceSub, Int.reduceToNat, Int.reduceNeg, hc2, hn, k3, eb, er1, eq1]
          exact ⟨nk fun h => (K h).2.2.1 q1, he12⟩
        have eq1 := (eqV_dot o.parent o.block).trans (congrArg some (decide_eq_false q1))
        by_cases y1 : keyP o.key
        rotate_left
        · simp (disch := omega) only [go_sem, ↓reduceIte, Nat.reduceEqDiff, Nat.reduceAdd, Nat.reduceMul, Nat.reduceSub, Nat.reduceLT, Nat.reduceLeDiff, Nat.reduceBEq, reduceCtorEq, Int.reduceLT, Int.reduceEq, Int.reduceLE, Int.reduceAdd, Int.reduceSub, Int.reduceToNat, Int.reduceNeg, hc2, hn, k3, eb, er1, eq1, y1]
          exact ⟨nk fun h => y1 (K h).2.2.2.1, he12⟩
        by_cases a0 : o.at_ = (0, 0)
        rotate_left
        · have ea0 := (eqD o.at_).trans (congrArg some (decide_eq_false a0))
          simp (disch := omega) only [go_sem, ↓reduceIte, Nat.reduceEqDiff, Nat.reduceAdd, Nat.reduceMul, Nat.reduceSub, Nat.reduceLT, Nat.reduceLeDiff, Nat.reduceBEq, reduceCtorEq, Int.reduceLT, Int.reduceEq, Int.reduceLE, Int.reduceAdd, Int.reduceSub, Int.reduceToNat, Int.reduceNeg, hc2, hn, k3, eb, er1, eq1, y1, ea0]
          exact ⟨nk fun h => a0 (K h).2.2.2.2.1, he12⟩
        have ea0 := (eqD o.at_).trans (congrArg some (decide_eq_true a0))
        by_cases s0 : o.side = 0
        rotate_left
        · simp (disch := omega) only [go_sem, ↓reduceIte, Nat.reduceEqDiff, Nat.reduceAdd, Nat.reduceMul, Nat.reduceSub, Nat.reduceLT, Nat.reduceLeDiff, Nat.reduceBEq, reduceCtorEq, Int.reduceLT, Int.reduceEq, Int.reduceLE, Int.reduceAdd, Int.reduceSub, Int.reduceToNat, Int.reduceNeg, hc2, hn, k3, eb, er1, eq1, y1, ea0, s0]
          exact ⟨nk fun h => s0 (K h).2.2.2.2.2.1, he12⟩
        by_cases c0 : o.char = 0
        rotate_left
        · simp (disch := omega) only [go_sem, ↓reduceIte, Nat.reduceEqDiff, Nat.reduceAdd, Nat.reduceMul, Nat.reduceSub, Nat.reduceLT, Nat.reduceLeDiff, Nat.reduceBEq, reduceCtorEq, Int.reduceLT, Int.reduceEq, Int.reduceLE, Int.reduceAdd, Int.reduceSub, Int.reduceToNat, Int.reduceNeg, hc2, hn, k3, eb, er1, eq1, y1, ea0, s0, c0]
          exact ⟨nk fun h => c0 (K h).2.2.2.2.2.2, he12⟩
        simp (disch := omega) only [go_sem, ↓reduceIte, Nat.reduceEqDiff, Nat.reduceAdd, Nat.reduceMul, Nat.reduceSub, Nat.reduceLT, Nat.reduceLeDiff, Nat.reduceBEq, reduceCtorEq, Int.reduceLT, Int.reduceEq, Int.reduceLE, Int.reduceAdd, Int.reduceSub, Int.reduceToNat, Int.reduceNeg, hc2, hn, k3, eb, er1, eq1, y1, ea0, s0, c0]
        exact ⟨yes ⟨hmh, .inr (.inr ⟨k3, .inl b0, .inl r1, q1, y1, a0, s0, c0⟩)⟩, he12⟩
      · have er1 := (eqR o.parent).trans (congrArg some (decide_eq_false r1))
        by_cases r2 : o.parent = (0, -2)
        · have er2 := (eqT o.parent).trans (congrArg some (decide_eq_true r2))
          by_cases q1 : o.parent = o.block
          · have eq1 := (eqV_dot o.parent o.block).trans (congrArg some (decide_eq_true q1))
            simp (disch := omega) only [go_sem, ↓reduceIte, Nat.reduceEqDiff, Nat.reduceAdd, Nat.reduceMul, Nat.reduceSub, Nat.reduceLT, Nat.reduceLeDiff, Nat.reduceBEq, reduceCtorEq, Int.reduceLT, Int.reduceEq, Int.reduceLE, Int.reduceAdd, Int.reduceSub, Int.reduceToNat, Int.reduceNeg, hc2, hn, k3, eb, er1, er2, eq1]
            exact ⟨nk fun h => (K h).2.2.1 q1, he12⟩
          have eq1 := (eqV_dot o.parent o.block).trans (congrArg some (decide_eq_false q1))
          by_cases y1 : keyP o.key
          rotate_left
          · simp (disch := omega) only [go_sem, ↓reduceIte, Nat.reduceEqDiff, Nat.reduceAdd, Nat.reduceMul, Nat.reduceSub, Nat.reduceLT, Nat.reduceLeDiff, Nat.reduceBEq, reduceCtorEq, Int.reduceLT, Int.reduceEq, Int.reduceLE, Int.reduceAdd, Int.reduceSub, Int.reduceToNat, Int.reduceNeg, hc2, hn, k3, eb, er1, er2, eq1, y1]
            exact ⟨nk fun h => y1 (K h).2.2.2.1, he12⟩
          by_cases a0 : o.at_ = (0, 0)
          rotate_left
          · have ea0 := (eqD o.at_).trans (congrArg some (decide_eq_false a0))
            simp (disch := omega) only [go_sem, ↓reduceIte, Nat.reduceEqDiff, Nat.reduceAdd, Nat.reduceMul, Nat.reduceSub, Nat.reduceLT, Nat.reduceLeDiff, Nat.reduceBEq, reduceCtorEq, Int.reduceLT, Int.reduceEq, Int.reduceLE, Int.reduceAdd, Int.reduceSub, Int.reduceToNat, Int.reduceNeg, hc2, hn, k3, eb, er1, er2, eq1, y1, ea0]
            exact ⟨nk fun h => a0 (K h).2.2.2.2.1, he12⟩
          have ea0 := (eqD o.at_).trans (congrArg some (decide_eq_true a0))
          by_cases s0 : o.side = 0
          rotate_left
          · simp (disch := omega) only [go_sem, ↓reduceIte, Nat.reduceEqDiff, Nat.reduceAdd, Nat.reduceMul, Nat.reduceSub, Nat.reduceLT, Nat.reduceLeDiff, Nat.reduceBEq, reduceCtorEq, Int.reduceLT, Int.reduceEq, Int.reduceLE, Int.reduceAdd, Int.reduceSub, Int.reduceToNat, Int.reduceNeg, hc2, hn, k3, eb, er1, er2, eq1, y1, ea0, s0]
            exact ⟨nk fun h => s0 (K h).2.2.2.2.2.1, he12⟩
          by_cases c0 : o.char = 0
          rotate_left
          · simp (disch := omega) only [go_sem, ↓reduceIte, Nat.reduceEqDiff, Nat.reduceAdd, Nat.reduceMul, Nat.reduceSub, Nat.reduceLT, Nat.reduceLeDiff, Nat.reduceBEq, reduceCtorEq, Int.reduceLT, Int.reduceEq, Int.reduceLE, Int.reduceAdd, Int.reduceSub, Int.reduceToNat, Int.reduceNeg, hc2, hn, k3, eb, er1, er2, eq1, y1, ea0, s0, c0]
            exact ⟨nk fun h => c0 (K h).2.2.2.2.2.2, he12⟩
          simp (disch := omega) only [go_sem, ↓reduceIte, Nat.reduceEqDiff, Nat.reduceAdd, Nat.reduceMul, Nat.reduceSub, Nat.reduceLT, Nat.reduceLeDiff, Nat.reduceBEq, reduceCtorEq, Int.reduceLT, Int.reduceEq, Int.reduceLE, Int.reduceAdd, Int.reduceSub, Int.reduceToNat, Int.reduceNeg, hc2, hn, k3, eb, er1, er2, eq1, y1, ea0, s0, c0]
          exact ⟨yes ⟨hmh, .inr (.inr ⟨k3, .inl b0, .inr (.inl r2), q1, y1, a0, s0, c0⟩)⟩, he12⟩
        · have er2 := (eqT o.parent).trans (congrArg some (decide_eq_false r2))
          by_cases r3 : hasP o.deps o.parent
          rotate_left
          · simp (disch := omega) only [go_sem, ↓reduceIte, Nat.reduceEqDiff, Nat.reduceAdd, Nat.reduceMul, Nat.reduceSub, Nat.reduceLT, Nat.reduceLeDiff, Nat.reduceBEq, reduceCtorEq, Int.reduceLT, Int.reduceEq, Int.reduceLE, Int.reduceAdd, Int.reduceSub, Int.reduceToNat, Int.reduceNeg, hc2, hn, k3, eb, er1, er2, r3]
            exact ⟨nk fun h => ((K h).2.1).elim r1 fun h => h.elim r2 r3, he12⟩
          by_cases q1 : o.parent = o.block
          · have eq1 := (eqV_dot o.parent o.block).trans (congrArg some (decide_eq_true q1))
            simp (disch := omega) only [go_sem, ↓reduceIte, Nat.reduceEqDiff, Nat.reduceAdd, Nat.reduceMul, Nat.reduceSub, Nat.reduceLT, Nat.reduceLeDiff, Nat.reduceBEq, reduceCtorEq, Int.reduceLT, Int.reduceEq, Int.reduceLE, Int.reduceAdd, Int.reduceSub, Int.reduceToNat, Int.reduceNeg, hc2, hn, k3, eb, er1, er2, r3, eq1]
            exact ⟨nk fun h => (K h).2.2.1 q1, he12⟩
          have eq1 := (eqV_dot o.parent o.block).trans (congrArg some (decide_eq_false q1))
          by_cases y1 : keyP o.key
          rotate_left
          · simp (disch := omega) only [go_sem, ↓reduceIte, Nat.reduceEqDiff, Nat.reduceAdd, Nat.reduceMul, Nat.reduceSub, Nat.reduceLT, Nat.reduceLeDiff, Nat.reduceBEq, reduceCtorEq, Int.reduceLT, Int.reduceEq, Int.reduceLE, Int.reduceAdd, Int.reduceSub, Int.reduceToNat, Int.reduceNeg, hc2, hn, k3, eb, er1, er2, r3, eq1, y1]
            exact ⟨nk fun h => y1 (K h).2.2.2.1, he12⟩
          by_cases a0 : o.at_ = (0, 0)
          rotate_left
          · have ea0 := (eqD o.at_).trans (congrArg some (decide_eq_false a0))
            simp (disch := omega) only [go_sem, ↓reduceIte, Nat.reduceEqDiff, Nat.reduceAdd, Nat.reduceMul, Nat.reduceSub, Nat.reduceLT, Nat.reduceLeDiff, Nat.reduceBEq, reduceCtorEq, Int.reduceLT, Int.reduceEq, Int.reduceLE, Int.reduceAdd, Int.reduceSub, Int.reduceToNat, Int.reduceNeg, hc2, hn, k3, eb, er1, er2, r3, eq1, y1, ea0]
            exact ⟨nk fun h => a0 (K h).2.2.2.2.1, he12⟩
          have ea0 := (eqD o.at_).trans (congrArg some (decide_eq_true a0))
          by_cases s0 : o.side = 0
          rotate_left
          · simp (disch := omega) only [go_sem, ↓reduceIte, Nat.reduceEqDiff, Nat.reduceAdd, Nat.reduceMul, Nat.reduceSub, Nat.reduceLT, Nat.reduceLeDiff, Nat.reduceBEq, reduceCtorEq, Int.reduceLT, Int.reduceEq, Int.reduceLE, Int.reduceAdd, Int.reduceSub, Int.reduceToNat, Int.reduceNeg, hc2, hn, k3, eb, er1, er2, r3, eq1, y1, ea0, s0]
            exact ⟨nk fun h => s0 (K h).2.2.2.2.2.1, he12⟩
          by_cases c0 : o.char = 0
          rotate_left
          · simp (disch := omega) only [go_sem, ↓reduceIte, Nat.reduceEqDiff, Nat.reduceAdd, Nat.reduceMul, Nat.reduceSub, Nat.reduceLT, Nat.reduceLeDiff, Nat.reduceBEq, reduceCtorEq, Int.reduceLT, Int.reduceEq, Int.reduceLE, Int.reduceAdd, Int.reduceSub, Int.reduceToNat, Int.reduceNeg, hc2, hn, k3, eb, er1, er2, r3, eq1, y1, ea0, s0, c0]
            exact ⟨nk fun h => c0 (K h).2.2.2.2.2.2, he12⟩
          simp (disch := omega) only [go_sem, ↓reduceIte, Nat.reduceEqDiff, Nat.reduceAdd, Nat.reduceMul, Nat.reduceSub, Nat.reduceLT, Nat.reduceLeDiff, Nat.reduceBEq, reduceCtorEq, Int.reduceLT, Int.reduceEq, Int.reduceLE, Int.reduceAdd, Int.reduceSub, Int.reduceToNat, Int.reduceNeg, hc2, hn, k3, eb, er1, er2, r3, eq1, y1, ea0, s0, c0]
          exact ⟨yes ⟨hmh, .inr (.inr ⟨k3, .inl b0, .inr (.inr r3), q1, y1, a0, s0, c0⟩)⟩, he12⟩
    · have eb := (eqV_dot o.block o.id).trans (congrArg some (decide_eq_false b0))
      by_cases b1 : hasP o.deps o.block
      rotate_left
      · simp (disch := omega) only [go_sem, ↓reduceIte, Nat.reduceEqDiff, Nat.reduceAdd, Nat.reduceMul, Nat.reduceSub, Nat.reduceLT, Nat.reduceLeDiff, Nat.reduceBEq, reduceCtorEq, Int.reduceLT, Int.reduceEq, Int.reduceLE, Int.reduceAdd, Int.reduceSub, Int.reduceToNat, Int.reduceNeg, hc2, hn, k3, eb, b1]
        exact ⟨nk fun h => ((K h).1).elim b0 b1, he12⟩
      by_cases r1 : o.parent = (0, -1)
      · have er1 := (eqR o.parent).trans (congrArg some (decide_eq_true r1))
        by_cases q1 : o.parent = o.block
        · have eq1 := (eqV_dot o.parent o.block).trans (congrArg some (decide_eq_true q1))
          simp (disch := omega) only [go_sem, ↓reduceIte, Nat.reduceEqDiff, Nat.reduceAdd, Nat.reduceMul, Nat.reduceSub, Nat.reduceLT, Nat.reduceLeDiff, Nat.reduceBEq, reduceCtorEq, Int.reduceLT, Int.reduceEq, Int.reduceLE, Int.reduceAdd, Int.reduceSub, Int.reduceToNat, Int.reduceNeg, hc2, hn, k3, eb, b1, er1, eq1]
          exact ⟨nk fun h => (K h).2.2.1 q1, he12⟩
        have eq1 := (eqV_dot o.parent o.block).trans (congrArg some (decide_eq_false q1))
        by_cases y1 : keyP o.key
        rotate_left
        · simp (disch := omega) only [go_sem, ↓reduceIte, Nat.reduceEqDiff, Nat.reduceAdd, Nat.reduceMul, Nat.reduceSub, Nat.reduceLT, Nat.reduceLeDiff, Nat.reduceBEq, reduceCtorEq, Int.reduceLT, Int.reduceEq, Int.reduceLE, Int.reduceAdd, Int.reduceSub, Int.reduceToNat, Int.reduceNeg, hc2, hn, k3, eb, b1, er1, eq1, y1]
          exact ⟨nk fun h => y1 (K h).2.2.2.1, he12⟩
        by_cases a0 : o.at_ = (0, 0)
        rotate_left
        · have ea0 := (eqD o.at_).trans (congrArg some (decide_eq_false a0))
          simp (disch := omega) only [go_sem, ↓reduceIte, Nat.reduceEqDiff, Nat.reduceAdd, Nat.reduceMul, Nat.reduceSub, Nat.reduceLT, Nat.reduceLeDiff, Nat.reduceBEq, reduceCtorEq, Int.reduceLT, Int.reduceEq, Int.reduceLE, Int.reduceAdd, Int.reduceSub, Int.reduceToNat, Int.reduceNeg, hc2, hn, k3, eb, b1, er1, eq1, y1, ea0]
          exact ⟨nk fun h => a0 (K h).2.2.2.2.1, he12⟩
        have ea0 := (eqD o.at_).trans (congrArg some (decide_eq_true a0))
        by_cases s0 : o.side = 0
        rotate_left
        · simp (disch := omega) only [go_sem, ↓reduceIte, Nat.reduceEqDiff, Nat.reduceAdd, Nat.reduceMul, Nat.reduceSub, Nat.reduceLT, Nat.reduceLeDiff, Nat.reduceBEq, reduceCtorEq, Int.reduceLT, Int.reduceEq, Int.reduceLE, Int.reduceAdd, Int.reduceSub, Int.reduceToNat, Int.reduceNeg, hc2, hn, k3, eb, b1, er1, eq1, y1, ea0, s0]
          exact ⟨nk fun h => s0 (K h).2.2.2.2.2.1, he12⟩
        by_cases c0 : o.char = 0
        rotate_left
        · simp (disch := omega) only [go_sem, ↓reduceIte, Nat.reduceEqDiff, Nat.reduceAdd, Nat.reduceMul, Nat.reduceSub, Nat.reduceLT, Nat.reduceLeDiff, Nat.reduceBEq, reduceCtorEq, Int.reduceLT, Int.reduceEq, Int.reduceLE, Int.reduceAdd, Int.reduceSub, Int.reduceToNat, Int.reduceNeg, hc2, hn, k3, eb, b1, er1, eq1, y1, ea0, s0, c0]
          exact ⟨nk fun h => c0 (K h).2.2.2.2.2.2, he12⟩
        simp (disch := omega) only [go_sem, ↓reduceIte, Nat.reduceEqDiff, Nat.reduceAdd, Nat.reduceMul, Nat.reduceSub, Nat.reduceLT, Nat.reduceLeDiff, Nat.reduceBEq, reduceCtorEq, Int.reduceLT, Int.reduceEq, Int.reduceLE, Int.reduceAdd, Int.reduceSub, Int.reduceToNat, Int.reduceNeg, hc2, hn, k3, eb, b1, er1, eq1, y1, ea0, s0, c0]
        exact ⟨yes ⟨hmh, .inr (.inr ⟨k3, .inr b1, .inl r1, q1, y1, a0, s0, c0⟩)⟩, he12⟩
      · have er1 := (eqR o.parent).trans (congrArg some (decide_eq_false r1))
        by_cases r2 : o.parent = (0, -2)
        · have er2 := (eqT o.parent).trans (congrArg some (decide_eq_true r2))
          by_cases q1 : o.parent = o.block
          · have eq1 := (eqV_dot o.parent o.block).trans (congrArg some (decide_eq_true q1))
            simp (disch := omega) only [go_sem, ↓reduceIte, Nat.reduceEqDiff, Nat.reduceAdd, Nat.reduceMul, Nat.reduceSub, Nat.reduceLT, Nat.reduceLeDiff, Nat.reduceBEq, reduceCtorEq, Int.reduceLT, Int.reduceEq, Int.reduceLE, Int.reduceAdd, Int.reduceSub, Int.reduceToNat, Int.reduceNeg, hc2, hn, k3, eb, b1, er1, er2, eq1]
            exact ⟨nk fun h => (K h).2.2.1 q1, he12⟩
          have eq1 := (eqV_dot o.parent o.block).trans (congrArg some (decide_eq_false q1))
          by_cases y1 : keyP o.key
          rotate_left
          · simp (disch := omega) only [go_sem, ↓reduceIte, Nat.reduceEqDiff, Nat.reduceAdd, Nat.reduceMul, Nat.reduceSub, Nat.reduceLT, Nat.reduceLeDiff, Nat.reduceBEq, reduceCtorEq, Int.reduceLT, Int.reduceEq, Int.reduceLE, Int.reduceAdd, Int.reduceSub, Int.reduceToNat, Int.reduceNeg, hc2, hn, k3, eb, b1, er1, er2, eq1, y1]
            exact ⟨nk fun h => y1 (K h).2.2.2.1, he12⟩
          by_cases a0 : o.at_ = (0, 0)
          rotate_left
          · have ea0 := (eqD o.at_).trans (congrArg some (decide_eq_false a0))
            simp (disch := omega) only [go_sem, ↓reduceIte, Nat.reduceEqDiff, Nat.reduceAdd, Nat.reduceMul, Nat.reduceSub, Nat.reduceLT, Nat.reduceLeDiff, Nat.reduceBEq, reduceCtorEq, Int.reduceLT, Int.reduceEq, Int.reduceLE, Int.reduceAdd, Int.reduceSub, Int.reduceToNat, Int.reduceNeg, hc2, hn, k3, eb, b1, er1, er2, eq1, y1, ea0]
            exact ⟨nk fun h => a0 (K h).2.2.2.2.1, he12⟩
          have ea0 := (eqD o.at_).trans (congrArg some (decide_eq_true a0))
          by_cases s0 : o.side = 0
          rotate_left
          · simp (disch := omega) only [go_sem, ↓reduceIte, Nat.reduceEqDiff, Nat.reduceAdd, Nat.reduceMul, Nat.reduceSub, Nat.reduceLT, Nat.reduceLeDiff, Nat.reduceBEq, reduceCtorEq, Int.reduceLT, Int.reduceEq, Int.reduceLE, Int.reduceAdd, Int.reduceSub, Int.reduceToNat, Int.reduceNeg, hc2, hn, k3, eb, b1, er1, er2, eq1, y1, ea0, s0]
            exact ⟨nk fun h => s0 (K h).2.2.2.2.2.1, he12⟩
          by_cases c0 : o.char = 0
          rotate_left
          · simp (disch := omega) only [go_sem, ↓reduceIte, Nat.reduceEqDiff, Nat.reduceAdd, Nat.reduceMul, Nat.reduceSub, Nat.reduceLT, Nat.reduceLeDiff, Nat.reduceBEq, reduceCtorEq, Int.reduceLT, Int.reduceEq, Int.reduceLE, Int.reduceAdd, Int.reduceSub, Int.reduceToNat, Int.reduceNeg, hc2, hn, k3, eb, b1, er1, er2, eq1, y1, ea0, s0, c0]
            exact ⟨nk fun h => c0 (K h).2.2.2.2.2.2, he12⟩
          simp (disch := omega) only [go_sem, ↓reduceIte, Nat.reduceEqDiff, Nat.reduceAdd, Nat.reduceMul, Nat.reduceSub, Nat.reduceLT, Nat.reduceLeDiff, Nat.reduceBEq, reduceCtorEq, Int.reduceLT, Int.reduceEq, Int.reduceLE, Int.reduceAdd, Int.reduceSub, Int.reduceToNat, Int.reduceNeg, hc2, hn, k3, eb, b1, er1, er2, eq1, y1, ea0, s0, c0]
          exact ⟨yes ⟨hmh, .inr (.inr ⟨k3, .inr b1, .inr (.inl r2), q1, y1, a0, s0, c0⟩)⟩, he12⟩
        · have er2 := (eqT o.parent).trans (congrArg some (decide_eq_false r2))
          by_cases r3 : hasP o.deps o.parent
          rotate_left
          · simp (disch := omega) only [go_sem, ↓reduceIte, Nat.reduceEqDiff, Nat.reduceAdd, Nat.reduceMul, Nat.reduceSub, Nat.reduceLT, Nat.reduceLeDiff, Nat.reduceBEq, reduceCtorEq, Int.reduceLT, Int.reduceEq, Int.reduceLE, Int.reduceAdd, Int.reduceSub, Int.reduceToNat, Int.reduceNeg, hc2, hn, k3, eb, b1, er1, er2, r3]
            exact ⟨nk fun h => ((K h).2.1).elim r1 fun h => h.elim r2 r3, he12⟩
          by_cases q1 : o.parent = o.block
          · have eq1 := (eqV_dot o.parent o.block).trans (congrArg some (decide_eq_true q1))
            simp (disch := omega) only [go_sem, ↓reduceIte, Nat.reduceEqDiff, Nat.reduceAdd, Nat.reduceMul, Nat.reduceSub, Nat.reduceLT, Nat.reduceLeDiff, Nat.reduceBEq, reduceCtorEq, Int.reduceLT, Int.reduceEq, Int.reduceLE, Int.reduceAdd, Int.reduceSub, Int.reduceToNat, Int.reduceNeg, hc2, hn, k3, eb, b1, er1, er2, r3, eq1]
            exact ⟨nk fun h => (K h).2.2.1 q1, he12⟩
          have eq1 := (eqV_dot o.parent o.block).trans (congrArg some (decide_eq_false q1))
          by_cases y1 : keyP o.key
          rotate_left
          · simp (disch := omega) only [go_sem, ↓reduceIte, Nat.reduceEqDiff, Nat.reduceAdd, Nat.reduceMul, Nat.reduceSub, Nat.reduceLT, Nat.reduceLeDiff, Nat.reduceBEq, reduceCtorEq, Int.reduceLT, Int.reduceEq, Int.reduceLE, Int.reduceAdd, Int.reduceSub, Int.reduceToNat, Int.reduceNeg, hc2, hn, k3, eb, b1, er1, er2, r3, eq1, y1]
            exact ⟨nk fun h => y1 (K h).2.2.2.1, he12⟩
          by_cases a0 : o.at_ = (0, 0)
          rotate_left
          · have ea0 := (eqD o.at_).trans (congrArg some (decide_eq_false a0))
            simp (disch := omega) only [go_sem, ↓reduceIte, Nat.reduceEqDiff, Nat.reduceAdd, Nat.reduceMul, Nat.reduceSub, Nat.reduceLT, Nat.reduceLeDiff, Nat.reduceBEq, reduceCtorEq, Int.reduceLT, Int.reduceEq, Int.reduceLE, Int.reduceAdd, Int.reduceSub, Int.reduceToNat, Int.reduceNeg, hc2, hn, k3, eb, b1, er1, er2, r3, eq1, y1, ea0]
            exact ⟨nk fun h => a0 (K h).2.2.2.2.1, he12⟩
          have ea0 := (eqD o.at_).trans (congrArg some (decide_eq_true a0))
          by_cases s0 : o.side = 0
          rotate_left
          · simp (disch := omega) only [go_sem, ↓reduceIte, Nat.reduceEqDiff, Nat.reduceAdd, Nat.reduceMul, Nat.reduceSub, Nat.reduceLT, Nat.reduceLeDiff, Nat.reduceBEq, reduceCtorEq, Int.reduceLT, Int.reduceEq, Int.reduceLE, Int.reduceAdd, Int.reduceSub, Int.reduceToNat, Int.reduceNeg, hc2, hn, k3, eb, b1, er1, er2, r3, eq1, y1, ea0, s0]
            exact ⟨nk fun h => s0 (K h).2.2.2.2.2.1, he12⟩
          by_cases c0 : o.char = 0
          rotate_left
          · simp (disch := omega) only [go_sem, ↓reduceIte, Nat.reduceEqDiff, Nat.reduceAdd, Nat.reduceMul, Nat.reduceSub, Nat.reduceLT, Nat.reduceLeDiff, Nat.reduceBEq, reduceCtorEq, Int.reduceLT, Int.reduceEq, Int.reduceLE, Int.reduceAdd, Int.reduceSub, Int.reduceToNat, Int.reduceNeg, hc2, hn, k3, eb, b1, er1, er2, r3, eq1, y1, ea0, s0, c0]
            exact ⟨nk fun h => c0 (K h).2.2.2.2.2.2, he12⟩
          simp (disch := omega) only [go_sem, ↓reduceIte, Nat.reduceEqDiff, Nat.reduceAdd, Nat.reduceMul, Nat.reduceSub, Nat.reduceLT, Nat.reduceLeDiff, Nat.reduceBEq, reduceCtorEq, Int.reduceLT, Int.reduceEq, Int.reduceLE, Int.reduceAdd, Int.reduceSub, Int.reduceToNat, Int.reduceNeg, hc2, hn, k3, eb, b1, er1, er2, r3, eq1, y1, ea0, s0, c0]
          exact ⟨yes ⟨hmh, .inr (.inr ⟨k3, .inr b1, .inr (.inr r3), q1, y1, a0, s0, c0⟩)⟩, he12⟩
  simp (disch := omega) only [go_sem, ↓reduceIte, Nat.reduceEqDiff, Nat.reduceAdd, Nat.reduceMul, Nat.reduceSub, Nat.reduceLT, Nat.reduceLeDiff, Nat.reduceBEq, reduceCtorEq, Int.reduceLT, Int.reduceEq, Int.reduceLE, Int.reduceAdd, Int.reduceSub, Int.reduceToNat, Int.reduceNeg, hc2, k1, k2, k3]
  exact ⟨nk fun h => by rcases h.2 with h | h | h <;> exact absurd h.1 (by omega), he12⟩
end Go.Osj
