/- Operations: whether one may be. -/
import Derived.Test.YtfadbihdmohdiaaDoorKB
set_option linter.unusedVariables false
set_option linter.unusedSimpArgs false
namespace Go.Osj
structure OpA where
  id : Dot
  time : Int
  deps : List Dot
  kind : Int
  block : Dot
  at_ : Dot
  side : Int
  char : Int
  parent : Dot
  key : ByteArray
def opC (o : OpA) (d : Value) : List Value := [.int .i64 o.id.1, .int .i64 o.id.2, .int .i64 o.time, d, .int .i64 o.kind, .int .i64 o.block.1, .int .i64 o.block.2, .int .i64 o.at_.1, .int .i64 o.at_.2, .int .i64 o.side, .int .i64 o.char, .int .i64 o.parent.1, .int .i64 o.parent.2, .string o.key]
abbrev opV (o : OpA) (d : Value) : Value := .agg (opC o d).toArray
theorem opC_len (o : OpA) (d : Value) : (opC o d).length = 14 := rfl
theorem opC_toList (o : OpA) (d : Value) : (opC o d).toArray.toList = opC o d := rfl
theorem opC_take (o : OpA) (d : Value) : (opC o d).take 14 = opC o d := rfl
def opB (S : St) (w : Nat) (o : OpA) (d : Value) : Prop := w < S.n ∧ S.obj w = some (.cells true 14 (opC o d))
theorem opB.ext {S S' : St} {w : Nat} {o : OpA} {d : Value} (h : opB S w o d) (he : S.Ext S') : opB S' w o d := ⟨Nat.lt_of_lt_of_le h.1 he.n, (he.obj w h.1).trans h.2⟩
theorem opB.put {S : St} {w : Nat} {o : OpA} {d : Value} : opB (S.put w (.cells true 14 (opC o d))) w o d := ⟨St.lt_put_self _ _ _, St.put_same _ _ _⟩
theorem opB.c {S : St} {w : Nat} {o : OpA} {d : Value} (h : opB S w o d) :
    (S.cell ⟨w, 0, none⟩ = some (.int .i64 o.id.1) ∧ S.cell ⟨w, 1, none⟩ = some (.int .i64 o.id.2) ∧ S.cell ⟨w, 2, none⟩ = some (.int .i64 o.time) ∧ S.cell ⟨w, 3, none⟩ = some d ∧ S.cell ⟨w, 4, none⟩ = some (.int .i64 o.kind) ∧ S.cell ⟨w, 9, none⟩ = some (.int .i64 o.side) ∧ S.cell ⟨w, 10, none⟩ = some (.int .i64 o.char) ∧ S.cell ⟨w, 13, none⟩ = some (.string o.key)) ∧
    (S.loadN ⟨w, 0, none⟩ 2 = some [.int .i64 o.id.1, .int .i64 o.id.2] ∧ S.loadN ⟨w, 5, none⟩ 2 = some [.int .i64 o.block.1, .int .i64 o.block.2] ∧ S.loadN ⟨w, 7, none⟩ 2 = some [.int .i64 o.at_.1, .int .i64 o.at_.2] ∧ S.loadN ⟨w, 11, none⟩ 2 = some [.int .i64 o.parent.1, .int .i64 o.parent.2]) ∧
    S.loadN ⟨w, 0, none⟩ 14 = some (opC o d) := by
  simp only [St.cell_def, St.loadN_def, h.2]
  simp [opC]
/-- an operation that may be -/
def mayH (o : OpA) : Prop := mayP o.id ∧ 1 ≤ o.time ∧ o.time ≤ 1099511627776 ∧ isV o.deps ∧ getV o.deps o.id.1 = o.id.2 - 1
def may1 (o : OpA) : Prop := (o.at_ = (0, 0) → o.side = 1) ∧ (o.at_ ≠ (0, 0) → hasP o.deps o.at_) ∧ (o.side = 0 ∨ o.side = 1) ∧ hasP o.deps o.block ∧ 0 ≤ o.char ∧ o.char ≤ 1114111 ∧ (o.char < 55296 ∨ 57343 < o.char) ∧ o.parent = (0, 0) ∧ o.key = ⟨#[]⟩
def may2 (o : OpA) : Prop := hasP o.deps o.block ∧ hasP o.deps o.at_ ∧ o.side = 0 ∧ o.char = 0 ∧ o.parent = (0, 0) ∧ o.key = ⟨#[]⟩
def may3 (o : OpA) : Prop := (o.block = o.id ∨ hasP o.deps o.block) ∧ (o.parent = (0, -1) ∨ o.parent = (0, -2) ∨ hasP o.deps o.parent) ∧ o.parent ≠ o.block ∧ keyP o.key ∧ o.at_ = (0, 0) ∧ o.side = 0 ∧ o.char = 0
instance (o : OpA) : Decidable (may1 o) := inferInstanceAs (Decidable (_ ∧ _))
instance (o : OpA) : Decidable (may2 o) := inferInstanceAs (Decidable (_ ∧ _))
instance (o : OpA) : Decidable (may3 o) := inferInstanceAs (Decidable (_ ∧ _))
instance (o : OpA) : Decidable (mayH o) := inferInstanceAs (Decidable (_ ∧ _))
def mayO (o : OpA) : Prop := mayH o ∧ ((o.kind = 1 ∧ may1 o) ∨ (o.kind = 2 ∧ may2 o) ∨ (o.kind = 3 ∧ may3 o))
instance (o : OpA) : Decidable (mayO o) := inferInstanceAs (Decidable (_ ∧ _))

theorem F.ops_Check_c1_J {S : St} {w : Nat} {o : OpA} {dv : Value} {d : Dot} (hw : opB S w o dv) (hd : SlT dotE S dv o.deps) (hL : o.deps.length < 9223372036854775808) : J PR F.ops_Check_c1 [dotV d, ptrV w] S fun v S' => v = .bool (decide (hasP o.deps d)) ∧ S = S' := by
  refine J.back (J_by PR.mixed F.ops_Check_c1.ok (by simp) ?_)
  simp (disch := omega) only [go_sem, ↓reduceIte, Nat.reduceEqDiff, Nat.reduceAdd, Nat.reduceMul, Nat.reduceSub, Nat.reduceLT, Nat.reduceLeDiff, Nat.reduceBEq, reduceCtorEq, Int.reduceLT, Int.reduceEq, Int.reduceLE, Int.reduceAdd, Int.reduceSub, Int.reduceToNat, Int.reduceNeg]
  refine wfresh_of fun x hx => ?_
  have he := (St.Ext.refl S).put hx (.cells true 2 [.int .i64 d.1, .int .i64 d.2])
  have hc := (hw.ext he).c
  simp (disch := omega) only [go_sem, ↓reduceIte, Nat.reduceEqDiff, Nat.reduceAdd, Nat.reduceMul, Nat.reduceSub, Nat.reduceLT, Nat.reduceLeDiff, Nat.reduceBEq, reduceCtorEq, Int.reduceLT, Int.reduceEq, Int.reduceLE, Int.reduceAdd, Int.reduceSub, Int.reduceToNat, Int.reduceNeg, hc]
  refine wJ_of (F.vector_Has_J (hd.ext dotE he) hL) ?_; rintro _ _ ⟨rfl, rfl⟩
  simp (disch := omega) only [go_sem, ↓reduceIte, Nat.reduceEqDiff, Nat.reduceAdd, Nat.reduceMul, Nat.reduceSub, Nat.reduceLT, Nat.reduceLeDiff, Nat.reduceBEq, reduceCtorEq, Int.reduceLT, Int.reduceEq, Int.reduceLE, Int.reduceAdd, Int.reduceSub, Int.reduceToNat, Int.reduceNeg]
  exact he
theorem F.ops_Check_c1_call {S : St} {w : Nat} {o : OpA} {dv : Value} {d : Dot} {k : KV} (hw : opB S w o dv) (hd : SlT dotE S dv o.deps) (hL : o.deps.length < 9223372036854775808) (hk : k.run (.bool (decide (hasP o.deps d))) S) :
    @wcallv PR (.func (.func F.ops_Check_c1) #[] #[ptrV w]) [dotV d] S k :=
  ⟨F.ops_Check_c1.cl, (F.ops_Check_c1_J hw hd hL).mono fun v S' ⟨h1, h2⟩ => by subst h1 h2; exact hk⟩
theorem F.api_Root_J {S : St} : J PR F.api_Root [] S fun v S' => v = dotV (0, -1) ∧ S = S' := by
  refine J.back (J_by PR.mixed F.api_Root.ok (by simp) ?_)
  simp (disch := omega) only [go_sem, ↓reduceIte, Nat.reduceEqDiff, Nat.reduceAdd, Nat.reduceMul, Nat.reduceSub, Nat.reduceLT, Nat.reduceLeDiff, Nat.reduceBEq, reduceCtorEq, Int.reduceLT, Int.reduceEq, Int.reduceLE, Int.reduceAdd, Int.reduceSub, Int.reduceToNat, Int.reduceNeg]
  refine wfresh_of fun x hx => ?_
  simp (disch := omega) only [go_sem, ↓reduceIte, Nat.reduceEqDiff, Nat.reduceAdd, Nat.reduceMul, Nat.reduceSub, Nat.reduceLT, Nat.reduceLeDiff, Nat.reduceBEq, reduceCtorEq, Int.reduceLT, Int.reduceEq, Int.reduceLE, Int.reduceAdd, Int.reduceSub, Int.reduceToNat, Int.reduceNeg]
  exact (St.Ext.refl S).put hx _
theorem F.api_Trash_J {S : St} : J PR F.api_Trash [] S fun v S' => v = dotV (0, -2) ∧ S = S' := by
  refine J.back (J_by PR.mixed F.api_Trash.ok (by simp) ?_)
  simp (disch := omega) only [go_sem, ↓reduceIte, Nat.reduceEqDiff, Nat.reduceAdd, Nat.reduceMul, Nat.reduceSub, Nat.reduceLT, Nat.reduceLeDiff, Nat.reduceBEq, reduceCtorEq, Int.reduceLT, Int.reduceEq, Int.reduceLE, Int.reduceAdd, Int.reduceSub, Int.reduceToNat, Int.reduceNeg]
  refine wfresh_of fun x hx => ?_
  simp (disch := omega) only [go_sem, ↓reduceIte, Nat.reduceEqDiff, Nat.reduceAdd, Nat.reduceMul, Nat.reduceSub, Nat.reduceLT, Nat.reduceLeDiff, Nat.reduceBEq, reduceCtorEq, Int.reduceLT, Int.reduceEq, Int.reduceLE, Int.reduceAdd, Int.reduceSub, Int.reduceToNat, Int.reduceNeg]
  exact (St.Ext.refl S).put hx _
theorem wE_boxO {fr : Fr} {S : St} {x : Operand} {k : KV} {o : OpA} {dv : Value} (hx : ev fr x = opV o dv) (hk : ∀ w S1, S.Ext S1 → opB S1 w o dv → S.n ≤ w → k.run (ptrV w) S1) :
    @wfresh S.n ⟨fun b => k.run (.pointer (some ⟨b, 0, none⟩)) (S.put b (.cells true (ev fr x).cells.toList.length (ev fr x).cells.toList))⟩ := by
  refine wfresh_of fun b hb => ?_
  rw [hx]
  exact hk b _ ((St.Ext.refl S).put hb _) opB.put hb
theorem F.ops_Check_J {S : St} {o : OpA} {dv : Value} (hd : SlT dotE S dv o.deps) (hL : o.deps.length < 9223372036854775808) : J PR F.ops_Check [opV o dv] S fun v S' => v = .bool (decide (mayO o)) ∧ S = S' := by
  refine J.back (J_by PR.mixed F.ops_Check.ok (by simp) ?_)
  simp (disch := omega) only [go_sem, ↓reduceIte, Nat.reduceEqDiff, Nat.reduceAdd, Nat.reduceMul, Nat.reduceSub, Nat.reduceLT, Nat.reduceLeDiff, Nat.reduceBEq, reduceCtorEq, Int.reduceLT, Int.reduceEq, Int.reduceLE, Int.reduceAdd, Int.reduceSub, Int.reduceToNat, Int.reduceNeg]
  refine wE_boxO (o := o) (dv := dv) rfl fun w S1 he hwb hw => ?_
  have hd1 := hd.ext dotE he
  have hc := hwb.c
  simp (disch := omega) only [go_sem, ↓reduceIte, Nat.reduceEqDiff, Nat.reduceAdd, Nat.reduceMul, Nat.reduceSub, Nat.reduceLT, Nat.reduceLeDiff, Nat.reduceBEq, reduceCtorEq, Int.reduceLT, Int.reduceEq, Int.reduceLE, Int.reduceAdd, Int.reduceSub, Int.reduceToNat, Int.reduceNeg, hc]
  refine wJ_of F.dots_May_P ?_; rintro _ _ ⟨rfl, rfl⟩
  have yes : mayO o → Value.bool true = Value.bool (decide (mayO o)) := fun h => by rw [decide_eq_true h]
  have nk : ¬ mayO o → Value.bool false = Value.bool (decide (mayO o)) := fun h => by rw [decide_eq_false h]
  by_cases m1 : mayP o.id
  rotate_left
  · simp (disch := omega) only [go_sem, ↓reduceIte, Nat.reduceEqDiff, Nat.reduceAdd, Nat.reduceMul, Nat.reduceSub, Nat.reduceLT, Nat.reduceLeDiff, Nat.reduceBEq, reduceCtorEq, Int.reduceLT, Int.reduceEq, Int.reduceLE, Int.reduceAdd, Int.reduceSub, Int.reduceToNat, Int.reduceNeg, hc, m1]
    exact ⟨nk fun h => m1 h.1.1, he⟩
  by_cases m2 : o.time < 1
  · simp (disch := omega) only [go_sem, ↓reduceIte, Nat.reduceEqDiff, Nat.reduceAdd, Nat.reduceMul, Nat.reduceSub, Nat.reduceLT, Nat.reduceLeDiff, Nat.reduceBEq, reduceCtorEq, Int.reduceLT, Int.reduceEq, Int.reduceLE, Int.reduceAdd, Int.reduceSub, Int.reduceToNat, Int.reduceNeg, hc, m1, m2]
    exact ⟨nk fun h => by have := h.1.2.1; omega, he⟩
  by_cases m3 : 1099511627776 < o.time
  · simp (disch := omega) only [go_sem, ↓reduceIte, Nat.reduceEqDiff, Nat.reduceAdd, Nat.reduceMul, Nat.reduceSub, Nat.reduceLT, Nat.reduceLeDiff, Nat.reduceBEq, reduceCtorEq, Int.reduceLT, Int.reduceEq, Int.reduceLE, Int.reduceAdd, Int.reduceSub, Int.reduceToNat, Int.reduceNeg, hc, m1, m2, m3]
    exact ⟨nk fun h => by have := h.1.2.2.1; omega, he⟩
  simp (disch := omega) only [go_sem, ↓reduceIte, Nat.reduceEqDiff, Nat.reduceAdd, Nat.reduceMul, Nat.reduceSub, Nat.reduceLT, Nat.reduceLeDiff, Nat.reduceBEq, reduceCtorEq, Int.reduceLT, Int.reduceEq, Int.reduceLE, Int.reduceAdd, Int.reduceSub, Int.reduceToNat, Int.reduceNeg, hc, m1, m2, m3]
  refine wJ_of (F.vector_May_J hd1 hL) ?_; rintro _ _ ⟨rfl, rfl⟩
  by_cases m4 : isV o.deps
  rotate_left
  · simp (disch := omega) only [go_sem, ↓reduceIte, Nat.reduceEqDiff, Nat.reduceAdd, Nat.reduceMul, Nat.reduceSub, Nat.reduceLT, Nat.reduceLeDiff, Nat.reduceBEq, reduceCtorEq, Int.reduceLT, Int.reduceEq, Int.reduceLE, Int.reduceAdd, Int.reduceSub, Int.reduceToNat, Int.reduceNeg, hc, m4]
    exact ⟨nk fun h => m4 h.1.2.2.2.1, he⟩
  simp (disch := omega) only [go_sem, ↓reduceIte, Nat.reduceEqDiff, Nat.reduceAdd, Nat.reduceMul, Nat.reduceSub, Nat.reduceLT, Nat.reduceLeDiff, Nat.reduceBEq, reduceCtorEq, Int.reduceLT, Int.reduceEq, Int.reduceLE, Int.reduceAdd, Int.reduceSub, Int.reduceToNat, Int.reduceNeg, hc, m4]
  refine wJ_of (F.vector_Get_J hd1 hL) ?_; rintro _ _ ⟨rfl, rfl⟩
  have e1 : IntKind.i64.wrap (o.id.2 - 1) = o.id.2 - 1 := by have := m1.2.2; exact wrap64 (by omega) (by omega)
  by_cases m5 : getV o.deps o.id.1 = o.id.2 - 1
  rotate_left
  · simp (disch := omega) only [go_sem, ↓reduceIte, Nat.reduceEqDiff, Nat.reduceAdd, Nat.reduceMul, Nat.reduceSub, Nat.reduceLT, Nat.reduceLeDiff, Nat.reduceBEq, reduceCtorEq, Int.reduceLT, Int.reduceEq, Int.reduceLE, Int.reduceAdd, Int.reduceSub, Int.reduceToNat, Int.reduceNeg, hc, m4, m5, e1]
    exact ⟨nk fun h => m5 h.1.2.2.2.2, he⟩
  have hmh : mayH o := ⟨m1, by omega, by omega, m4, m5⟩
  simp (disch := omega) only [go_sem, ↓reduceIte, Nat.reduceEqDiff, Nat.reduceAdd, Nat.reduceMul, Nat.reduceSub, Nat.reduceLT, Nat.reduceLeDiff, Nat.reduceBEq, reduceCtorEq, Int.reduceLT, Int.reduceEq, Int.reduceLE, Int.reduceAdd, Int.reduceSub, Int.reduceToNat, Int.reduceNeg, hc, m4, m5, e1]
  refine wfresh_of fun y hy => ?_
  have he2 := (St.Ext.refl S1).put hy (.cells true 2 [.int .i64 0, .int .i64 0])
  have he12 := he.trans he2
  have hwb2 := hwb.ext he2
  have hd2 := hd1.ext dotE he2
  have hn2 : (S1.put y (.cells true 2 [.int .i64 0, .int .i64 0])).loadN ⟨y, 0, none⟩ 2 = some [.int .i64 0, .int .i64 0] := by simp (disch := omega) only [go_sem, ↓reduceIte, Nat.reduceEqDiff, Nat.reduceAdd, Nat.reduceMul, Nat.reduceSub, Nat.reduceLT, Nat.reduceLeDiff, Nat.reduceBEq, reduceCtorEq, Int.reduceLT, Int.reduceEq, Int.reduceLE, Int.reduceAdd, Int.reduceSub, Int.reduceToNat, Int.reduceNeg]
  have hc2 := hwb2.c
  have eqD : ∀ a : Dot, eqV [.i .i64, .i .i64] true (dotV a) (.agg #[.int .i64 0, .int .i64 0]) = some (decide (a = (0, 0))) := fun a => eqV_dot a (0, 0)
  simp (disch := omega) only [go_sem, ↓reduceIte, Nat.reduceEqDiff, Nat.reduceAdd, Nat.reduceMul, Nat.reduceSub, Nat.reduceLT, Nat.reduceLeDiff, Nat.reduceBEq, reduceCtorEq, Int.reduceLT, Int.reduceEq, Int.reduceLE, Int.reduceAdd, Int.reduceSub, Int.reduceToNat, Int.reduceNeg]
  generalize S1.put y (.cells true 2 [.int .i64 0, .int .i64 0]) = S2 at *
  by_cases k1 : o.kind = 1
  · have K : mayO o → may1 o := fun h => by
      rcases h.2 with h | h | h
      · exact h.2
      · exact absurd h.1 (by omega)
      · exact absurd h.1 (by omega)
    by_cases a0 : o.at_ = (0, 0)
    · have ea := (eqD o.at_).trans (congrArg some (decide_eq_true a0))
      by_cases s1 : o.side = 1
      rotate_left
      · simp (disch := omega) only [go_sem, ↓reduceIte, Nat.reduceEqDiff, Nat.reduceAdd, Nat.reduceMul, Nat.reduceSub, Nat.reduceLT, Nat.reduceLeDiff, Nat.reduceBEq, reduceCtorEq, Int.reduceLT, Int.reduceEq, Int.reduceLE, Int.reduceAdd, Int.reduceSub, Int.reduceToNat, Int.reduceNeg, hc2, hn2, k1, ea, s1]
        exact ⟨nk fun h => s1 ((K h).1 a0), he12⟩
      simp (disch := omega) only [go_sem, ↓reduceIte, Nat.reduceEqDiff, Nat.reduceAdd, Nat.reduceMul, Nat.reduceSub, Nat.reduceLT, Nat.reduceLeDiff, Nat.reduceBEq, reduceCtorEq, Int.reduceLT, Int.reduceEq, Int.reduceLE, Int.reduceAdd, Int.reduceSub, Int.reduceToNat, Int.reduceNeg, hc2, hn2, k1, ea, s1]
      refine F.ops_Check_c1_call hwb2 hd2 hL ?_
      by_cases b1 : hasP o.deps o.block
      rotate_left
      · simp (disch := omega) only [go_sem, ↓reduceIte, Nat.reduceEqDiff, Nat.reduceAdd, Nat.reduceMul, Nat.reduceSub, Nat.reduceLT, Nat.reduceLeDiff, Nat.reduceBEq, reduceCtorEq, Int.reduceLT, Int.reduceEq, Int.reduceLE, Int.reduceAdd, Int.reduceSub, Int.reduceToNat, Int.reduceNeg, hc2, hn2, k1, ea, s1, b1]
        exact ⟨nk fun h => b1 (K h).2.2.2.1, he12⟩
      by_cases b2 : 0 ≤ o.char
      rotate_left
      · simp (disch := omega) only [go_sem, ↓reduceIte, Nat.reduceEqDiff, Nat.reduceAdd, Nat.reduceMul, Nat.reduceSub, Nat.reduceLT, Nat.reduceLeDiff, Nat.reduceBEq, reduceCtorEq, Int.reduceLT, Int.reduceEq, Int.reduceLE, Int.reduceAdd, Int.reduceSub, Int.reduceToNat, Int.reduceNeg, hc2, hn2, k1, ea, s1, b1, b2]
        exact ⟨nk fun h => b2 (K h).2.2.2.2.1, he12⟩
      by_cases b3 : o.char ≤ 1114111
      rotate_left
      · simp (disch := omega) only [go_sem, ↓reduceIte, Nat.reduceEqDiff, Nat.reduceAdd, Nat.reduceMul, Nat.reduceSub, Nat.reduceLT, Nat.reduceLeDiff, Nat.reduceBEq, reduceCtorEq, Int.reduceLT, Int.reduceEq, Int.reduceLE, Int.reduceAdd, Int.reduceSub, Int.reduceToNat, Int.reduceNeg, hc2, hn2, k1, ea, s1, b1, b2, b3]
        exact ⟨nk fun h => b3 (K h).2.2.2.2.2.1, he12⟩
      have esh : o.char.fdiv (2 ^ min 11 64) = o.char / 2048 := by rw [show ((2 : Int) ^ min 11 64) = 2048 from by decide]; exact Int.fdiv_eq_ediv_of_nonneg _ (by decide)
      by_cases b4 : o.char.fdiv (2 ^ min 11 64) = 27
      · simp (disch := omega) only [go_sem, ↓reduceIte, Nat.reduceEqDiff, Nat.reduceAdd, Nat.reduceMul, Nat.reduceSub, Nat.reduceLT, Nat.reduceLeDiff, Nat.reduceBEq, reduceCtorEq, Int.reduceLT, Int.reduceEq, Int.reduceLE, Int.reduceAdd, Int.reduceSub, Int.reduceToNat, Int.reduceNeg, hc2, hn2, k1, ea, s1, b1, b2, b3, b4]
        rw [esh] at b4
        exact ⟨nk fun h => by have := (K h).2.2.2.2.2.2.1; omega, he12⟩
      have b4' := b4
      rw [esh] at b4'
      by_cases p1 : o.parent = (0, 0)
      rotate_left
      · have ep1 := (eqD o.parent).trans (congrArg some (decide_eq_false p1))
        simp (disch := omega) only [go_sem, ↓reduceIte, Nat.reduceEqDiff, Nat.reduceAdd, Nat.reduceMul, Nat.reduceSub, Nat.reduceLT, Nat.reduceLeDiff, Nat.reduceBEq, reduceCtorEq, Int.reduceLT, Int.reduceEq, Int.reduceLE, Int.reduceAdd, Int.reduceSub, Int.reduceToNat, Int.reduceNeg, hc2, hn2, k1, ea, s1, b1, b2, b3, b4, ep1]
        exact ⟨nk fun h => p1 (K h).2.2.2.2.2.2.2.1, he12⟩
      have ep1 := (eqD o.parent).trans (congrArg some (decide_eq_true p1))
      have ek : (o.key == ⟨#[]⟩) = decide (o.key = ⟨#[]⟩) := ba_beq _ _
      by_cases y1 : o.key = ⟨#[]⟩
      rotate_left
      · rw [decide_eq_false y1] at ek
        simp (disch := omega) only [go_sem, ↓reduceIte, Nat.reduceEqDiff, Nat.reduceAdd, Nat.reduceMul, Nat.reduceSub, Nat.reduceLT, Nat.reduceLeDiff, Nat.reduceBEq, reduceCtorEq, Int.reduceLT, Int.reduceEq, Int.reduceLE, Int.reduceAdd, Int.reduceSub, Int.reduceToNat, Int.reduceNeg, hc2, hn2, k1, ea, s1, b1, b2, b3, b4, ep1, ek]
        exact ⟨nk fun h => y1 (K h).2.2.2.2.2.2.2.2, he12⟩
      rw [decide_eq_true y1] at ek
      simp (disch := omega) only [go_sem, ↓reduceIte, Nat.reduceEqDiff, Nat.reduceAdd, Nat.reduceMul, Nat.reduceSub, Nat.reduceLT, Nat.reduceLeDiff, Nat.reduceBEq, reduceCtorEq, Int.reduceLT, Int.reduceEq, Int.reduceLE, Int.reduceAdd, Int.reduceSub, Int.reduceToNat, Int.reduceNeg, hc2, hn2, k1, ea, s1, b1, b2, b3, b4, ep1, ek]
      exact ⟨yes ⟨hmh, .inl ⟨k1, fun _ => s1, fun h => absurd a0 h, .inr s1, b1, b2, b3, by omega, p1, y1⟩⟩, he12⟩
    · have ea := (eqD o.at_).trans (congrArg some (decide_eq_false a0))
      simp (disch := omega) only [go_sem, ↓reduceIte, Nat.reduceEqDiff, Nat.reduceAdd, Nat.reduceMul, Nat.reduceSub, Nat.reduceLT, Nat.reduceLeDiff, Nat.reduceBEq, reduceCtorEq, Int.reduceLT, Int.reduceEq, Int.reduceLE, Int.reduceAdd, Int.reduceSub, Int.reduceToNat, Int.reduceNeg, hc2, hn2, k1, ea]
      refine F.ops_Check_c1_call hwb2 hd2 hL ?_
      by_cases a1 : hasP o.deps o.at_
      rotate_left
      · simp (disch := omega) only [go_sem, ↓reduceIte, Nat.reduceEqDiff, Nat.reduceAdd, Nat.reduceMul, Nat.reduceSub, Nat.reduceLT, Nat.reduceLeDiff, Nat.reduceBEq, reduceCtorEq, Int.reduceLT, Int.reduceEq, Int.reduceLE, Int.reduceAdd, Int.reduceSub, Int.reduceToNat, Int.reduceNeg, hc2, hn2, k1, ea, a1]
        exact ⟨nk fun h => a1 ((K h).2.1 a0), he12⟩
      by_cases s0 : o.side = 0
      · have s0' : ¬ o.side = 1 := by omega
        simp (disch := omega) only [go_sem, ↓reduceIte, Nat.reduceEqDiff, Nat.reduceAdd, Nat.reduceMul, Nat.reduceSub, Nat.reduceLT, Nat.reduceLeDiff, Nat.reduceBEq, reduceCtorEq, Int.reduceLT, Int.reduceEq, Int.reduceLE, Int.reduceAdd, Int.reduceSub, Int.reduceToNat, Int.reduceNeg, hc2, hn2, k1, ea, a1, s0]
        refine F.ops_Check_c1_call hwb2 hd2 hL ?_
        by_cases b1 : hasP o.deps o.block
        rotate_left
        · simp (disch := omega) only [go_sem, ↓reduceIte, Nat.reduceEqDiff, Nat.reduceAdd, Nat.reduceMul, Nat.reduceSub, Nat.reduceLT, Nat.reduceLeDiff, Nat.reduceBEq, reduceCtorEq, Int.reduceLT, Int.reduceEq, Int.reduceLE, Int.reduceAdd, Int.reduceSub, Int.reduceToNat, Int.reduceNeg, hc2, hn2, k1, ea, a1, s0, b1]
          exact ⟨nk fun h => b1 (K h).2.2.2.1, he12⟩
        by_cases b2 : 0 ≤ o.char
        rotate_left
        · simp (disch := omega) only [go_sem, ↓reduceIte, Nat.reduceEqDiff, Nat.reduceAdd, Nat.reduceMul, Nat.reduceSub, Nat.reduceLT, Nat.reduceLeDiff, Nat.reduceBEq, reduceCtorEq, Int.reduceLT, Int.reduceEq, Int.reduceLE, Int.reduceAdd, Int.reduceSub, Int.reduceToNat, Int.reduceNeg, hc2, hn2, k1, ea, a1, s0, b1, b2]
          exact ⟨nk fun h => b2 (K h).2.2.2.2.1, he12⟩
        by_cases b3 : o.char ≤ 1114111
        rotate_left
        · simp (disch := omega) only [go_sem, ↓reduceIte, Nat.reduceEqDiff, Nat.reduceAdd, Nat.reduceMul, Nat.reduceSub, Nat.reduceLT, Nat.reduceLeDiff, Nat.reduceBEq, reduceCtorEq, Int.reduceLT, Int.reduceEq, Int.reduceLE, Int.reduceAdd, Int.reduceSub, Int.reduceToNat, Int.reduceNeg, hc2, hn2, k1, ea, a1, s0, b1, b2, b3]
          exact ⟨nk fun h => b3 (K h).2.2.2.2.2.1, he12⟩
        have esh : o.char.fdiv (2 ^ min 11 64) = o.char / 2048 := by rw [show ((2 : Int) ^ min 11 64) = 2048 from by decide]; exact Int.fdiv_eq_ediv_of_nonneg _ (by decide)
        by_cases b4 : o.char.fdiv (2 ^ min 11 64) = 27
        · simp (disch := omega) only [go_sem, ↓reduceIte, Nat.reduceEqDiff, Nat.reduceAdd, Nat.reduceMul, Nat.reduceSub, Nat.reduceLT, Nat.reduceLeDiff, Nat.reduceBEq, reduceCtorEq, Int.reduceLT, Int.reduceEq, Int.reduceLE, Int.reduceAdd, Int.reduceSub, Int.reduceToNat, Int.reduceNeg, hc2, hn2, k1, ea, a1, s0, b1, b2, b3, b4]
          rw [esh] at b4
          exact ⟨nk fun h => by have := (K h).2.2.2.2.2.2.1; omega, he12⟩
        have b4' := b4
        rw [esh] at b4'
        by_cases p1 : o.parent = (0, 0)
        rotate_left
        · have ep1 := (eqD o.parent).trans (congrArg some (decide_eq_false p1))
          simp (disch := omega) only [go_sem, ↓reduceIte, Nat.reduceEqDiff, Nat.reduceAdd, Nat.reduceMul, Nat.reduceSub, Nat.reduceLT, Nat.reduceLeDiff, Nat.reduceBEq, reduceCtorEq, Int.reduceLT, Int.reduceEq, Int.reduceLE, Int.reduceAdd, Int.reduceSub, Int.reduceToNat, Int.reduceNeg, hc2, hn2, k1, ea, a1, s0, b1, b2, b3, b4, ep1]
          exact ⟨nk fun h => p1 (K h).2.2.2.2.2.2.2.1, he12⟩
        have ep1 := (eqD o.parent).trans (congrArg some (decide_eq_true p1))
        have ek : (o.key == ⟨#[]⟩) = decide (o.key = ⟨#[]⟩) := ba_beq _ _
        by_cases y1 : o.key = ⟨#[]⟩
        rotate_left
        · rw [decide_eq_false y1] at ek
          simp (disch := omega) only [go_sem, ↓reduceIte, Nat.reduceEqDiff, Nat.reduceAdd, Nat.reduceMul, Nat.reduceSub, Nat.reduceLT, Nat.reduceLeDiff, Nat.reduceBEq, reduceCtorEq, Int.reduceLT, Int.reduceEq, Int.reduceLE, Int.reduceAdd, Int.reduceSub, Int.reduceToNat, Int.reduceNeg, hc2, hn2, k1, ea, a1, s0, b1, b2, b3, b4, ep1, ek]
          exact ⟨nk fun h => y1 (K h).2.2.2.2.2.2.2.2, he12⟩
        rw [decide_eq_true y1] at ek
        simp (disch := omega) only [go_sem, ↓reduceIte, Nat.reduceEqDiff, Nat.reduceAdd, Nat.reduceMul, Nat.reduceSub, Nat.reduceLT, Nat.reduceLeDiff, Nat.reduceBEq, reduceCtorEq, Int.reduceLT, Int.reduceEq, Int.reduceLE, Int.reduceAdd, Int.reduceSub, Int.reduceToNat, Int.reduceNeg, hc2, hn2, k1, ea, a1, s0, b1, b2, b3, b4, ep1, ek]
        exact ⟨yes ⟨hmh, .inl ⟨k1, fun h => absurd h a0, fun _ => a1, .inl s0, b1, b2, b3, by omega, p1, y1⟩⟩, he12⟩
      · by_cases s1 : o.side = 1
        rotate_left
        · simp (disch := omega) only [go_sem, ↓reduceIte, Nat.reduceEqDiff, Nat.reduceAdd, Nat.reduceMul, Nat.reduceSub, Nat.reduceLT, Nat.reduceLeDiff, Nat.reduceBEq, reduceCtorEq, Int.reduceLT, Int.reduceEq, Int.reduceLE, Int.reduceAdd, Int.reduceSub, Int.reduceToNat, Int.reduceNeg, hc2, hn2, k1, ea, a1, s0, s1]
          exact ⟨nk fun h => ((K h).2.2.1).elim s0 s1, he12⟩
        simp (disch := omega) only [go_sem, ↓reduceIte, Nat.reduceEqDiff, Nat.reduceAdd, Nat.reduceMul, Nat.reduceSub, Nat.reduceLT, Nat.reduceLeDiff, Nat.reduceBEq, reduceCtorEq, Int.reduceLT, Int.reduceEq, Int.reduceLE, Int.reduceAdd, Int.reduceSub, Int.reduceToNat, Int.reduceNeg, hc2, hn2, k1, ea, a1, s0, s1]
        refine F.ops_Check_c1_call hwb2 hd2 hL ?_
        by_cases b1 : hasP o.deps o.block
        rotate_left
        · simp (disch := omega) only [go_sem, ↓reduceIte, Nat.reduceEqDiff, Nat.reduceAdd, Nat.reduceMul, Nat.reduceSub, Nat.reduceLT, Nat.reduceLeDiff, Nat.reduceBEq, reduceCtorEq, Int.reduceLT, Int.reduceEq, Int.reduceLE, Int.reduceAdd, Int.reduceSub, Int.reduceToNat, Int.reduceNeg, hc2, hn2, k1, ea, a1, s0, s1, b1]
          exact ⟨nk fun h => b1 (K h).2.2.2.1, he12⟩
        by_cases b2 : 0 ≤ o.char
        rotate_left
        · simp (disch := omega) only [go_sem, ↓reduceIte, Nat.reduceEqDiff, Nat.reduceAdd, Nat.reduceMul, Nat.reduceSub, Nat.reduceLT, Nat.reduceLeDiff, Nat.reduceBEq, reduceCtorEq, Int.reduceLT, Int.reduceEq, Int.reduceLE, Int.reduceAdd, Int.reduceSub, Int.reduceToNat, Int.reduceNeg, hc2, hn2, k1, ea, a1, s0, s1, b1, b2]
          exact ⟨nk fun h => b2 (K h).2.2.2.2.1, he12⟩
        by_cases b3 : o.char ≤ 1114111
        rotate_left
        · simp (disch := omega) only [go_sem, ↓reduceIte, Nat.reduceEqDiff, Nat.reduceAdd, Nat.reduceMul, Nat.reduceSub, Nat.reduceLT, Nat.reduceLeDiff, Nat.reduceBEq, reduceCtorEq, Int.reduceLT, Int.reduceEq, Int.reduceLE, Int.reduceAdd, Int.reduceSub, Int.reduceToNat, Int.reduceNeg, hc2, hn2, k1, ea, a1, s0, s1, b1, b2, b3]
          exact ⟨nk fun h => b3 (K h).2.2.2.2.2.1, he12⟩
        have esh : o.char.fdiv (2 ^ min 11 64) = o.char / 2048 := by rw [show ((2 : Int) ^ min 11 64) = 2048 from by decide]; exact Int.fdiv_eq_ediv_of_nonneg _ (by decide)
        by_cases b4 : o.char.fdiv (2 ^ min 11 64) = 27
        · simp (disch := omega) only [go_sem, ↓reduceIte, Nat.reduceEqDiff, Nat.reduceAdd, Nat.reduceMul, Nat.reduceSub, Nat.reduceLT, Nat.reduceLeDiff, Nat.reduceBEq, reduceCtorEq, Int.reduceLT, Int.reduceEq, Int.reduceLE, Int.reduceAdd, Int.reduceSub, Int.reduceToNat, Int.reduceNeg, hc2, hn2, k1, ea, a1, s0, s1, b1, b2, b3, b4]
          rw [esh] at b4
          exact ⟨nk fun h => by have := (K h).2.2.2.2.2.2.1; omega, he12⟩
        have b4' := b4
        rw [esh] at b4'
        by_cases p1 : o.parent = (0, 0)
        rotate_left
        · have ep1 := (eqD o.parent).trans (congrArg some (decide_eq_false p1))
          simp (disch := omega) only [go_sem, ↓reduceIte, Nat.reduceEqDiff, Nat.reduceAdd, Nat.reduceMul, Nat.reduceSub, Nat.reduceLT, Nat.reduceLeDiff, Nat.reduceBEq, reduceCtorEq, Int.reduceLT, Int.reduceEq, Int.reduceLE, Int.reduceAdd, Int.reduceSub, Int.reduceToNat, Int.reduceNeg, hc2, hn2, k1, ea, a1, s0, s1, b1, b2, b3, b4, ep1]
          exact ⟨nk fun h => p1 (K h).2.2.2.2.2.2.2.1, he12⟩
        have ep1 := (eqD o.parent).trans (congrArg some (decide_eq_true p1))
        have ek : (o.key == ⟨#[]⟩) = decide (o.key = ⟨#[]⟩) := ba_beq _ _
        by_cases y1 : o.key = ⟨#[]⟩
        rotate_left
        · rw [decide_eq_false y1] at ek
          simp (disch := omega) only [go_sem, ↓reduceIte, Nat.reduceEqDiff, Nat.reduceAdd, Nat.reduceMul, Nat.reduceSub, Nat.reduceLT, Nat.reduceLeDiff, Nat.reduceBEq, reduceCtorEq, Int.reduceLT, Int.reduceEq, Int.reduceLE, Int.reduceAdd, Int.reduceSub, Int.reduceToNat, Int.reduceNeg, hc2, hn2, k1, ea, a1, s0, s1, b1, b2, b3, b4, ep1, ek]
          exact ⟨nk fun h => y1 (K h).2.2.2.2.2.2.2.2, he12⟩
        rw [decide_eq_true y1] at ek
        simp (disch := omega) only [go_sem, ↓reduceIte, Nat.reduceEqDiff, Nat.reduceAdd, Nat.reduceMul, Nat.reduceSub, Nat.reduceLT, Nat.reduceLeDiff, Nat.reduceBEq, reduceCtorEq, Int.reduceLT, Int.reduceEq, Int.reduceLE, Int.reduceAdd, Int.reduceSub, Int.reduceToNat, Int.reduceNeg, hc2, hn2, k1, ea, a1, s0, s1, b1, b2, b3, b4, ep1, ek]
        exact ⟨yes ⟨hmh, .inl ⟨k1, fun h => absurd h a0, fun _ => a1, .inr s1, b1, b2, b3, by omega, p1, y1⟩⟩, he12⟩
  by_cases k2 : o.kind = 2
  · have K : mayO o → may2 o := fun h => by
      rcases h.2 with h | h | h
      · exact absurd h.1 (by omega)
      · exact h.2
      · exact absurd h.1 (by omega)
    simp (disch := omega) only [go_sem, ↓reduceIte, Nat.reduceEqDiff, Nat.reduceAdd, Nat.reduceMul, Nat.reduceSub, Nat.reduceLT, Nat.reduceLeDiff, Nat.reduceBEq, reduceCtorEq, Int.reduceLT, Int.reduceEq, Int.reduceLE, Int.reduceAdd, Int.reduceSub, Int.reduceToNat, Int.reduceNeg, hc2, hn2, k2]
    refine F.ops_Check_c1_call hwb2 hd2 hL ?_
    by_cases b1 : hasP o.deps o.block
    rotate_left
    · simp (disch := omega) only [go_sem, ↓reduceIte, Nat.reduceEqDiff, Nat.reduceAdd, Nat.reduceMul, Nat.reduceSub, Nat.reduceLT, Nat.reduceLeDiff, Nat.reduceBEq, reduceCtorEq, Int.reduceLT, Int.reduceEq, Int.reduceLE, Int.reduceAdd, Int.reduceSub, Int.reduceToNat, Int.reduceNeg, hc2, hn2, k2, b1]
      exact ⟨nk fun h => b1 (K h).1, he12⟩
    simp (disch := omega) only [go_sem, ↓reduceIte, Nat.reduceEqDiff, Nat.reduceAdd, Nat.reduceMul, Nat.reduceSub, Nat.reduceLT, Nat.reduceLeDiff, Nat.reduceBEq, reduceCtorEq, Int.reduceLT, Int.reduceEq, Int.reduceLE, Int.reduceAdd, Int.reduceSub, Int.reduceToNat, Int.reduceNeg, hc2, hn2, k2, b1]
    refine F.ops_Check_c1_call hwb2 hd2 hL ?_
    by_cases a1 : hasP o.deps o.at_
    rotate_left
    · simp (disch := omega) only [go_sem, ↓reduceIte, Nat.reduceEqDiff, Nat.reduceAdd, Nat.reduceMul, Nat.reduceSub, Nat.reduceLT, Nat.reduceLeDiff, Nat.reduceBEq, reduceCtorEq, Int.reduceLT, Int.reduceEq, Int.reduceLE, Int.reduceAdd, Int.reduceSub, Int.reduceToNat, Int.reduceNeg, hc2, hn2, k2, b1, a1]
      exact ⟨nk fun h => a1 (K h).2.1, he12⟩
    by_cases s0 : o.side = 0
    rotate_left
    · simp (disch := omega) only [go_sem, ↓reduceIte, Nat.reduceEqDiff, Nat.reduceAdd, Nat.reduceMul, Nat.reduceSub, Nat.reduceLT, Nat.reduceLeDiff, Nat.reduceBEq, reduceCtorEq, Int.reduceLT, Int.reduceEq, Int.reduceLE, Int.reduceAdd, Int.reduceSub, Int.reduceToNat, Int.reduceNeg, hc2, hn2, k2, b1, a1, s0]
      exact ⟨nk fun h => s0 (K h).2.2.1, he12⟩
    by_cases c0 : o.char = 0
    rotate_left
    · simp (disch := omega) only [go_sem, ↓reduceIte, Nat.reduceEqDiff, Nat.reduceAdd, Nat.reduceMul, Nat.reduceSub, Nat.reduceLT, Nat.reduceLeDiff, Nat.reduceBEq, reduceCtorEq, Int.reduceLT, Int.reduceEq, Int.reduceLE, Int.reduceAdd, Int.reduceSub, Int.reduceToNat, Int.reduceNeg, hc2, hn2, k2, b1, a1, s0, c0]
      exact ⟨nk fun h => c0 (K h).2.2.2.1, he12⟩
    by_cases p1 : o.parent = (0, 0)
    rotate_left
    · have ep1 := (eqD o.parent).trans (congrArg some (decide_eq_false p1))
      simp (disch := omega) only [go_sem, ↓reduceIte, Nat.reduceEqDiff, Nat.reduceAdd, Nat.reduceMul, Nat.reduceSub, Nat.reduceLT, Nat.reduceLeDiff, Nat.reduceBEq, reduceCtorEq, Int.reduceLT, Int.reduceEq, Int.reduceLE, Int.reduceAdd, Int.reduceSub, Int.reduceToNat, Int.reduceNeg, hc2, hn2, k2, b1, a1, s0, c0, ep1]
      exact ⟨nk fun h => p1 (K h).2.2.2.2.1, he12⟩
    have ep1 := (eqD o.parent).trans (congrArg some (decide_eq_true p1))
    have ek : (o.key == ⟨#[]⟩) = decide (o.key = ⟨#[]⟩) := ba_beq _ _
    by_cases y1 : o.key = ⟨#[]⟩
    rotate_left
    · rw [decide_eq_false y1] at ek
      simp (disch := omega) only [go_sem, ↓reduceIte, Nat.reduceEqDiff, Nat.reduceAdd, Nat.reduceMul, Nat.reduceSub, Nat.reduceLT, Nat.reduceLeDiff, Nat.reduceBEq, reduceCtorEq, Int.reduceLT, Int.reduceEq, Int.reduceLE, Int.reduceAdd, Int.reduceSub, Int.reduceToNat, Int.reduceNeg, hc2, hn2, k2, b1, a1, s0, c0, ep1, ek]
      exact ⟨nk fun h => y1 (K h).2.2.2.2.2, he12⟩
    rw [decide_eq_true y1] at ek
    simp (disch := omega) only [go_sem, ↓reduceIte, Nat.reduceEqDiff, Nat.reduceAdd, Nat.reduceMul, Nat.reduceSub, Nat.reduceLT, Nat.reduceLeDiff, Nat.reduceBEq, reduceCtorEq, Int.reduceLT, Int.reduceEq, Int.reduceLE, Int.reduceAdd, Int.reduceSub, Int.reduceToNat, Int.reduceNeg, hc2, hn2, k2, b1, a1, s0, c0, ep1, ek]
    exact ⟨yes ⟨hmh, .inr (.inl ⟨k2, b1, a1, s0, c0, p1, y1⟩)⟩, he12⟩
  by_cases k3 : o.kind = 3
  · have K : mayO o → may3 o := fun h => by
      rcases h.2 with h | h | h
      · exact absurd h.1 (by omega)
      · exact absurd h.1 (by omega)
      · exact h.2
    by_cases b0 : o.block = o.id
    · have eb := (eqV_dot o.block o.id).trans (congrArg some (decide_eq_true b0))
      simp (disch := omega) only [go_sem, ↓reduceIte, Nat.reduceEqDiff, Nat.reduceAdd, Nat.reduceMul, Nat.reduceSub, Nat.reduceLT, Nat.reduceLeDiff, Nat.reduceBEq, reduceCtorEq, Int.reduceLT, Int.reduceEq, Int.reduceLE, Int.reduceAdd, Int.reduceSub, Int.reduceToNat, Int.reduceNeg, hc2, hn2, k3, eb]
      refine wJ_of F.api_Root_J ?_; rintro _ _ ⟨rfl, rfl⟩
      by_cases r1 : o.parent = (0, -1)
      · have er1 := (eqV_dot o.parent (0, -1)).trans (congrArg some (decide_eq_true r1))
        by_cases q1 : o.parent = o.block
        · have eq1 := (eqV_dot o.parent o.block).trans (congrArg some (decide_eq_true q1))
          simp (disch := omega) only [go_sem, ↓reduceIte, Nat.reduceEqDiff, Nat.reduceAdd, Nat.reduceMul, Nat.reduceSub, Nat.reduceLT, Nat.reduceLeDiff, Nat.reduceBEq, reduceCtorEq, Int.reduceLT, Int.reduceEq, Int.reduceLE, Int.reduceAdd, Int.reduceSub, Int.reduceToNat, Int.reduceNeg, hc2, hn2, k3, eb, er1, eq1]
          exact ⟨nk fun h => (K h).2.2.1 q1, he12⟩
        have eq1 := (eqV_dot o.parent o.block).trans (congrArg some (decide_eq_false q1))
        simp (disch := omega) only [go_sem, ↓reduceIte, Nat.reduceEqDiff, Nat.reduceAdd, Nat.reduceMul, Nat.reduceSub, Nat.reduceLT, Nat.reduceLeDiff, Nat.reduceBEq, reduceCtorEq, Int.reduceLT, Int.reduceEq, Int.reduceLE, Int.reduceAdd, Int.reduceSub, Int.reduceToNat, Int.reduceNeg, hc2, hn2, k3, eb, er1, eq1]
        refine wJ_of F.keys_May_J ?_; rintro _ _ ⟨rfl, rfl⟩
        by_cases y1 : keyP o.key
        rotate_left
        · simp (disch := omega) only [go_sem, ↓reduceIte, Nat.reduceEqDiff, Nat.reduceAdd, Nat.reduceMul, Nat.reduceSub, Nat.reduceLT, Nat.reduceLeDiff, Nat.reduceBEq, reduceCtorEq, Int.reduceLT, Int.reduceEq, Int.reduceLE, Int.reduceAdd, Int.reduceSub, Int.reduceToNat, Int.reduceNeg, hc2, hn2, k3, eb, er1, eq1, y1]
          exact ⟨nk fun h => y1 (K h).2.2.2.1, he12⟩
        by_cases a0 : o.at_ = (0, 0)
        rotate_left
        · have ea0 := (eqD o.at_).trans (congrArg some (decide_eq_false a0))
          simp (disch := omega) only [go_sem, ↓reduceIte, Nat.reduceEqDiff, Nat.reduceAdd, Nat.reduceMul, Nat.reduceSub, Nat.reduceLT, Nat.reduceLeDiff, Nat.reduceBEq, reduceCtorEq, Int.reduceLT, Int.reduceEq, Int.reduceLE, Int.reduceAdd, Int.reduceSub, Int.reduceToNat, Int.reduceNeg, hc2, hn2, k3, eb, er1, eq1, y1, ea0]
          exact ⟨nk fun h => a0 (K h).2.2.2.2.1, he12⟩
        have ea0 := (eqD o.at_).trans (congrArg some (decide_eq_true a0))
        by_cases s0 : o.side = 0
        rotate_left
        · simp (disch := omega) only [go_sem, ↓reduceIte, Nat.reduceEqDiff, Nat.reduceAdd, Nat.reduceMul, Nat.reduceSub, Nat.reduceLT, Nat.reduceLeDiff, Nat.reduceBEq, reduceCtorEq, Int.reduceLT, Int.reduceEq, Int.reduceLE, Int.reduceAdd, Int.reduceSub, Int.reduceToNat, Int.reduceNeg, hc2, hn2, k3, eb, er1, eq1, y1, ea0, s0]
          exact ⟨nk fun h => s0 (K h).2.2.2.2.2.1, he12⟩
        by_cases c0 : o.char = 0
        rotate_left
        · simp (disch := omega) only [go_sem, ↓reduceIte, Nat.reduceEqDiff, Nat.reduceAdd, Nat.reduceMul, Nat.reduceSub, Nat.reduceLT, Nat.reduceLeDiff, Nat.reduceBEq, reduceCtorEq, Int.reduceLT, Int.reduceEq, Int.reduceLE, Int.reduceAdd, Int.reduceSub, Int.reduceToNat, Int.reduceNeg, hc2, hn2, k3, eb, er1, eq1, y1, ea0, s0, c0]
          exact ⟨nk fun h => c0 (K h).2.2.2.2.2.2, he12⟩
        simp (disch := omega) only [go_sem, ↓reduceIte, Nat.reduceEqDiff, Nat.reduceAdd, Nat.reduceMul, Nat.reduceSub, Nat.reduceLT, Nat.reduceLeDiff, Nat.reduceBEq, reduceCtorEq, Int.reduceLT, Int.reduceEq, Int.reduceLE, Int.reduceAdd, Int.reduceSub, Int.reduceToNat, Int.reduceNeg, hc2, hn2, k3, eb, er1, eq1, y1, ea0, s0, c0]
        exact ⟨yes ⟨hmh, .inr (.inr ⟨k3, .inl b0, .inl r1, q1, y1, a0, s0, c0⟩)⟩, he12⟩
      · have er1 := (eqV_dot o.parent (0, -1)).trans (congrArg some (decide_eq_false r1))
        simp (disch := omega) only [go_sem, ↓reduceIte, Nat.reduceEqDiff, Nat.reduceAdd, Nat.reduceMul, Nat.reduceSub, Nat.reduceLT, Nat.reduceLeDiff, Nat.reduceBEq, reduceCtorEq, Int.reduceLT, Int.reduceEq, Int.reduceLE, Int.reduceAdd, Int.reduceSub, Int.reduceToNat, Int.reduceNeg, hc2, hn2, k3, eb, er1]
        refine wJ_of F.api_Trash_J ?_; rintro _ _ ⟨rfl, rfl⟩
        by_cases r2 : o.parent = (0, -2)
        · have er2 := (eqV_dot o.parent (0, -2)).trans (congrArg some (decide_eq_true r2))
          by_cases q1 : o.parent = o.block
          · have eq1 := (eqV_dot o.parent o.block).trans (congrArg some (decide_eq_true q1))
            simp (disch := omega) only [go_sem, ↓reduceIte, Nat.reduceEqDiff, Nat.reduceAdd, Nat.reduceMul, Nat.reduceSub, Nat.reduceLT, Nat.reduceLeDiff, Nat.reduceBEq, reduceCtorEq, Int.reduceLT, Int.reduceEq, Int.reduceLE, Int.reduceAdd, Int.reduceSub, Int.reduceToNat, Int.reduceNeg, hc2, hn2, k3, eb, er1, er2, eq1]
            exact ⟨nk fun h => (K h).2.2.1 q1, he12⟩
          have eq1 := (eqV_dot o.parent o.block).trans (congrArg some (decide_eq_false q1))
          simp (disch := omega) only [go_sem, ↓reduceIte, Nat.reduceEqDiff, Nat.reduceAdd, Nat.reduceMul, Nat.reduceSub, Nat.reduceLT, Nat.reduceLeDiff, Nat.reduceBEq, reduceCtorEq, Int.reduceLT, Int.reduceEq, Int.reduceLE, Int.reduceAdd, Int.reduceSub, Int.reduceToNat, Int.reduceNeg, hc2, hn2, k3, eb, er1, er2, eq1]
          refine wJ_of F.keys_May_J ?_; rintro _ _ ⟨rfl, rfl⟩
          by_cases y1 : keyP o.key
          rotate_left
          · simp (disch := omega) only [go_sem, ↓reduceIte, Nat.reduceEqDiff, Nat.reduceAdd, Nat.reduceMul, Nat.reduceSub, Nat.reduceLT, Nat.reduceLeDiff, Nat.reduceBEq, reduceCtorEq, Int.reduceLT, Int.reduceEq, Int.reduceLE, Int.reduceAdd, Int.reduceSub, Int.reduceToNat, Int.reduceNeg, hc2, hn2, k3, eb, er1, er2, eq1, y1]
            exact ⟨nk fun h => y1 (K h).2.2.2.1, he12⟩
          by_cases a0 : o.at_ = (0, 0)
          rotate_left
          · have ea0 := (eqD o.at_).trans (congrArg some (decide_eq_false a0))
            simp (disch := omega) only [go_sem, ↓reduceIte, Nat.reduceEqDiff, Nat.reduceAdd, Nat.reduceMul, Nat.reduceSub, Nat.reduceLT, Nat.reduceLeDiff, Nat.reduceBEq, reduceCtorEq, Int.reduceLT, Int.reduceEq, Int.reduceLE, Int.reduceAdd, Int.reduceSub, Int.reduceToNat, Int.reduceNeg, hc2, hn2, k3, eb, er1, er2, eq1, y1, ea0]
            exact ⟨nk fun h => a0 (K h).2.2.2.2.1, he12⟩
          have ea0 := (eqD o.at_).trans (congrArg some (decide_eq_true a0))
          by_cases s0 : o.side = 0
          rotate_left
          · simp (disch := omega) only [go_sem, ↓reduceIte, Nat.reduceEqDiff, Nat.reduceAdd, Nat.reduceMul, Nat.reduceSub, Nat.reduceLT, Nat.reduceLeDiff, Nat.reduceBEq, reduceCtorEq, Int.reduceLT, Int.reduceEq, Int.reduceLE, Int.reduceAdd, Int.reduceSub, Int.reduceToNat, Int.reduceNeg, hc2, hn2, k3, eb, er1, er2, eq1, y1, ea0, s0]
            exact ⟨nk fun h => s0 (K h).2.2.2.2.2.1, he12⟩
          by_cases c0 : o.char = 0
          rotate_left
          · simp (disch := omega) only [go_sem, ↓reduceIte, Nat.reduceEqDiff, Nat.reduceAdd, Nat.reduceMul, Nat.reduceSub, Nat.reduceLT, Nat.reduceLeDiff, Nat.reduceBEq, reduceCtorEq, Int.reduceLT, Int.reduceEq, Int.reduceLE, Int.reduceAdd, Int.reduceSub, Int.reduceToNat, Int.reduceNeg, hc2, hn2, k3, eb, er1, er2, eq1, y1, ea0, s0, c0]
            exact ⟨nk fun h => c0 (K h).2.2.2.2.2.2, he12⟩
          simp (disch := omega) only [go_sem, ↓reduceIte, Nat.reduceEqDiff, Nat.reduceAdd, Nat.reduceMul, Nat.reduceSub, Nat.reduceLT, Nat.reduceLeDiff, Nat.reduceBEq, reduceCtorEq, Int.reduceLT, Int.reduceEq, Int.reduceLE, Int.reduceAdd, Int.reduceSub, Int.reduceToNat, Int.reduceNeg, hc2, hn2, k3, eb, er1, er2, eq1, y1, ea0, s0, c0]
          exact ⟨yes ⟨hmh, .inr (.inr ⟨k3, .inl b0, .inr (.inl r2), q1, y1, a0, s0, c0⟩)⟩, he12⟩
        · have er2 := (eqV_dot o.parent (0, -2)).trans (congrArg some (decide_eq_false r2))
          simp (disch := omega) only [go_sem, ↓reduceIte, Nat.reduceEqDiff, Nat.reduceAdd, Nat.reduceMul, Nat.reduceSub, Nat.reduceLT, Nat.reduceLeDiff, Nat.reduceBEq, reduceCtorEq, Int.reduceLT, Int.reduceEq, Int.reduceLE, Int.reduceAdd, Int.reduceSub, Int.reduceToNat, Int.reduceNeg, hc2, hn2, k3, eb, er1, er2]
          refine F.ops_Check_c1_call hwb2 hd2 hL ?_
          by_cases r3 : hasP o.deps o.parent
          rotate_left
          · simp (disch := omega) only [go_sem, ↓reduceIte, Nat.reduceEqDiff, Nat.reduceAdd, Nat.reduceMul, Nat.reduceSub, Nat.reduceLT, Nat.reduceLeDiff, Nat.reduceBEq, reduceCtorEq, Int.reduceLT, Int.reduceEq, Int.reduceLE, Int.reduceAdd, Int.reduceSub, Int.reduceToNat, Int.reduceNeg, hc2, hn2, k3, eb, er1, er2, r3]
            exact ⟨nk fun h => ((K h).2.1).elim r1 fun h => h.elim r2 r3, he12⟩
          by_cases q1 : o.parent = o.block
          · have eq1 := (eqV_dot o.parent o.block).trans (congrArg some (decide_eq_true q1))
            simp (disch := omega) only [go_sem, ↓reduceIte, Nat.reduceEqDiff, Nat.reduceAdd, Nat.reduceMul, Nat.reduceSub, Nat.reduceLT, Nat.reduceLeDiff, Nat.reduceBEq, reduceCtorEq, Int.reduceLT, Int.reduceEq, Int.reduceLE, Int.reduceAdd, Int.reduceSub, Int.reduceToNat, Int.reduceNeg, hc2, hn2, k3, eb, er1, er2, r3, eq1]
            exact ⟨nk fun h => (K h).2.2.1 q1, he12⟩
          have eq1 := (eqV_dot o.parent o.block).trans (congrArg some (decide_eq_false q1))
          simp (disch := omega) only [go_sem, ↓reduceIte, Nat.reduceEqDiff, Nat.reduceAdd, Nat.reduceMul, Nat.reduceSub, Nat.reduceLT, Nat.reduceLeDiff, Nat.reduceBEq, reduceCtorEq, Int.reduceLT, Int.reduceEq, Int.reduceLE, Int.reduceAdd, Int.reduceSub, Int.reduceToNat, Int.reduceNeg, hc2, hn2, k3, eb, er1, er2, r3, eq1]
          refine wJ_of F.keys_May_J ?_; rintro _ _ ⟨rfl, rfl⟩
          by_cases y1 : keyP o.key
          rotate_left
          · simp (disch := omega) only [go_sem, ↓reduceIte, Nat.reduceEqDiff, Nat.reduceAdd, Nat.reduceMul, Nat.reduceSub, Nat.reduceLT, Nat.reduceLeDiff, Nat.reduceBEq, reduceCtorEq, Int.reduceLT, Int.reduceEq, Int.reduceLE, Int.reduceAdd, Int.reduceSub, Int.reduceToNat, Int.reduceNeg, hc2, hn2, k3, eb, er1, er2, r3, eq1, y1]
            exact ⟨nk fun h => y1 (K h).2.2.2.1, he12⟩
          by_cases a0 : o.at_ = (0, 0)
          rotate_left
          · have ea0 := (eqD o.at_).trans (congrArg some (decide_eq_false a0))
            simp (disch := omega) only [go_sem, ↓reduceIte, Nat.reduceEqDiff, Nat.reduceAdd, Nat.reduceMul, Nat.reduceSub, Nat.reduceLT, Nat.reduceLeDiff, Nat.reduceBEq, reduceCtorEq, Int.reduceLT, Int.reduceEq, Int.reduceLE, Int.reduceAdd, Int.reduceSub, Int.reduceToNat, Int.reduceNeg, hc2, hn2, k3, eb, er1, er2, r3, eq1, y1, ea0]
            exact ⟨nk fun h => a0 (K h).2.2.2.2.1, he12⟩
          have ea0 := (eqD o.at_).trans (congrArg some (decide_eq_true a0))
          by_cases s0 : o.side = 0
          rotate_left
          · simp (disch := omega) only [go_sem, ↓reduceIte, Nat.reduceEqDiff, Nat.reduceAdd, Nat.reduceMul, Nat.reduceSub, Nat.reduceLT, Nat.reduceLeDiff, Nat.reduceBEq, reduceCtorEq, Int.reduceLT, Int.reduceEq, Int.reduceLE, Int.reduceAdd, Int.reduceSub, Int.reduceToNat, Int.reduceNeg, hc2, hn2, k3, eb, er1, er2, r3, eq1, y1, ea0, s0]
            exact ⟨nk fun h => s0 (K h).2.2.2.2.2.1, he12⟩
          by_cases c0 : o.char = 0
          rotate_left
          · simp (disch := omega) only [go_sem, ↓reduceIte, Nat.reduceEqDiff, Nat.reduceAdd, Nat.reduceMul, Nat.reduceSub, Nat.reduceLT, Nat.reduceLeDiff, Nat.reduceBEq, reduceCtorEq, Int.reduceLT, Int.reduceEq, Int.reduceLE, Int.reduceAdd, Int.reduceSub, Int.reduceToNat, Int.reduceNeg, hc2, hn2, k3, eb, er1, er2, r3, eq1, y1, ea0, s0, c0]
            exact ⟨nk fun h => c0 (K h).2.2.2.2.2.2, he12⟩
          simp (disch := omega) only [go_sem, ↓reduceIte, Nat.reduceEqDiff, Nat.reduceAdd, Nat.reduceMul, Nat.reduceSub, Nat.reduceLT, Nat.reduceLeDiff, Nat.reduceBEq, reduceCtorEq, Int.reduceLT, Int.reduceEq, Int.reduceLE, Int.reduceAdd, Int.reduceSub, Int.reduceToNat, Int.reduceNeg, hc2, hn2, k3, eb, er1, er2, r3, eq1, y1, ea0, s0, c0]
          exact ⟨yes ⟨hmh, .inr (.inr ⟨k3, .inl b0, .inr (.inr r3), q1, y1, a0, s0, c0⟩)⟩, he12⟩
    · have eb := (eqV_dot o.block o.id).trans (congrArg some (decide_eq_false b0))
      simp (disch := omega) only [go_sem, ↓reduceIte, Nat.reduceEqDiff, Nat.reduceAdd, Nat.reduceMul, Nat.reduceSub, Nat.reduceLT, Nat.reduceLeDiff, Nat.reduceBEq, reduceCtorEq, Int.reduceLT, Int.reduceEq, Int.reduceLE, Int.reduceAdd, Int.reduceSub, Int.reduceToNat, Int.reduceNeg, hc2, hn2, k3, eb]
      refine F.ops_Check_c1_call hwb2 hd2 hL ?_
      by_cases b1 : hasP o.deps o.block
      rotate_left
      · simp (disch := omega) only [go_sem, ↓reduceIte, Nat.reduceEqDiff, Nat.reduceAdd, Nat.reduceMul, Nat.reduceSub, Nat.reduceLT, Nat.reduceLeDiff, Nat.reduceBEq, reduceCtorEq, Int.reduceLT, Int.reduceEq, Int.reduceLE, Int.reduceAdd, Int.reduceSub, Int.reduceToNat, Int.reduceNeg, hc2, hn2, k3, eb, b1]
        exact ⟨nk fun h => ((K h).1).elim b0 b1, he12⟩
      simp (disch := omega) only [go_sem, ↓reduceIte, Nat.reduceEqDiff, Nat.reduceAdd, Nat.reduceMul, Nat.reduceSub, Nat.reduceLT, Nat.reduceLeDiff, Nat.reduceBEq, reduceCtorEq, Int.reduceLT, Int.reduceEq, Int.reduceLE, Int.reduceAdd, Int.reduceSub, Int.reduceToNat, Int.reduceNeg, hc2, hn2, k3, eb, b1]
      refine wJ_of F.api_Root_J ?_; rintro _ _ ⟨rfl, rfl⟩
      by_cases r1 : o.parent = (0, -1)
      · have er1 := (eqV_dot o.parent (0, -1)).trans (congrArg some (decide_eq_true r1))
        by_cases q1 : o.parent = o.block
        · have eq1 := (eqV_dot o.parent o.block).trans (congrArg some (decide_eq_true q1))
          simp (disch := omega) only [go_sem, ↓reduceIte, Nat.reduceEqDiff, Nat.reduceAdd, Nat.reduceMul, Nat.reduceSub, Nat.reduceLT, Nat.reduceLeDiff, Nat.reduceBEq, reduceCtorEq, Int.reduceLT, Int.reduceEq, Int.reduceLE, Int.reduceAdd, Int.reduceSub, Int.reduceToNat, Int.reduceNeg, hc2, hn2, k3, eb, b1, er1, eq1]
          exact ⟨nk fun h => (K h).2.2.1 q1, he12⟩
        have eq1 := (eqV_dot o.parent o.block).trans (congrArg some (decide_eq_false q1))
        simp (disch := omega) only [go_sem, ↓reduceIte, Nat.reduceEqDiff, Nat.reduceAdd, Nat.reduceMul, Nat.reduceSub, Nat.reduceLT, Nat.reduceLeDiff, Nat.reduceBEq, reduceCtorEq, Int.reduceLT, Int.reduceEq, Int.reduceLE, Int.reduceAdd, Int.reduceSub, Int.reduceToNat, Int.reduceNeg, hc2, hn2, k3, eb, b1, er1, eq1]
        refine wJ_of F.keys_May_J ?_; rintro _ _ ⟨rfl, rfl⟩
        by_cases y1 : keyP o.key
        rotate_left
        · simp (disch := omega) only [go_sem, ↓reduceIte, Nat.reduceEqDiff, Nat.reduceAdd, Nat.reduceMul, Nat.reduceSub, Nat.reduceLT, Nat.reduceLeDiff, Nat.reduceBEq, reduceCtorEq, Int.reduceLT, Int.reduceEq, Int.reduceLE, Int.reduceAdd, Int.reduceSub, Int.reduceToNat, Int.reduceNeg, hc2, hn2, k3, eb, b1, er1, eq1, y1]
          exact ⟨nk fun h => y1 (K h).2.2.2.1, he12⟩
        by_cases a0 : o.at_ = (0, 0)
        rotate_left
        · have ea0 := (eqD o.at_).trans (congrArg some (decide_eq_false a0))
          simp (disch := omega) only [go_sem, ↓reduceIte, Nat.reduceEqDiff, Nat.reduceAdd, Nat.reduceMul, Nat.reduceSub, Nat.reduceLT, Nat.reduceLeDiff, Nat.reduceBEq, reduceCtorEq, Int.reduceLT, Int.reduceEq, Int.reduceLE, Int.reduceAdd, Int.reduceSub, Int.reduceToNat, Int.reduceNeg, hc2, hn2, k3, eb, b1, er1, eq1, y1, ea0]
          exact ⟨nk fun h => a0 (K h).2.2.2.2.1, he12⟩
        have ea0 := (eqD o.at_).trans (congrArg some (decide_eq_true a0))
        by_cases s0 : o.side = 0
        rotate_left
        · simp (disch := omega) only [go_sem, ↓reduceIte, Nat.reduceEqDiff, Nat.reduceAdd, Nat.reduceMul, Nat.reduceSub, Nat.reduceLT, Nat.reduceLeDiff, Nat.reduceBEq, reduceCtorEq, Int.reduceLT, Int.reduceEq, Int.reduceLE, Int.reduceAdd, Int.reduceSub, Int.reduceToNat, Int.reduceNeg, hc2, hn2, k3, eb, b1, er1, eq1, y1, ea0, s0]
          exact ⟨nk fun h => s0 (K h).2.2.2.2.2.1, he12⟩
        by_cases c0 : o.char = 0
        rotate_left
        · simp (disch := omega) only [go_sem, ↓reduceIte, Nat.reduceEqDiff, Nat.reduceAdd, Nat.reduceMul, Nat.reduceSub, Nat.reduceLT, Nat.reduceLeDiff, Nat.reduceBEq, reduceCtorEq, Int.reduceLT, Int.reduceEq, Int.reduceLE, Int.reduceAdd, Int.reduceSub, Int.reduceToNat, Int.reduceNeg, hc2, hn2, k3, eb, b1, er1, eq1, y1, ea0, s0, c0]
          exact ⟨nk fun h => c0 (K h).2.2.2.2.2.2, he12⟩
        simp (disch := omega) only [go_sem, ↓reduceIte, Nat.reduceEqDiff, Nat.reduceAdd, Nat.reduceMul, Nat.reduceSub, Nat.reduceLT, Nat.reduceLeDiff, Nat.reduceBEq, reduceCtorEq, Int.reduceLT, Int.reduceEq, Int.reduceLE, Int.reduceAdd, Int.reduceSub, Int.reduceToNat, Int.reduceNeg, hc2, hn2, k3, eb, b1, er1, eq1, y1, ea0, s0, c0]
        exact ⟨yes ⟨hmh, .inr (.inr ⟨k3, .inr b1, .inl r1, q1, y1, a0, s0, c0⟩)⟩, he12⟩
      · have er1 := (eqV_dot o.parent (0, -1)).trans (congrArg some (decide_eq_false r1))
        simp (disch := omega) only [go_sem, ↓reduceIte, Nat.reduceEqDiff, Nat.reduceAdd, Nat.reduceMul, Nat.reduceSub, Nat.reduceLT, Nat.reduceLeDiff, Nat.reduceBEq, reduceCtorEq, Int.reduceLT, Int.reduceEq, Int.reduceLE, Int.reduceAdd, Int.reduceSub, Int.reduceToNat, Int.reduceNeg, hc2, hn2, k3, eb, b1, er1]
        refine wJ_of F.api_Trash_J ?_; rintro _ _ ⟨rfl, rfl⟩
        by_cases r2 : o.parent = (0, -2)
        · have er2 := (eqV_dot o.parent (0, -2)).trans (congrArg some (decide_eq_true r2))
          by_cases q1 : o.parent = o.block
          · have eq1 := (eqV_dot o.parent o.block).trans (congrArg some (decide_eq_true q1))
            simp (disch := omega) only [go_sem, ↓reduceIte, Nat.reduceEqDiff, Nat.reduceAdd, Nat.reduceMul, Nat.reduceSub, Nat.reduceLT, Nat.reduceLeDiff, Nat.reduceBEq, reduceCtorEq, Int.reduceLT, Int.reduceEq, Int.reduceLE, Int.reduceAdd, Int.reduceSub, Int.reduceToNat, Int.reduceNeg, hc2, hn2, k3, eb, b1, er1, er2, eq1]
            exact ⟨nk fun h => (K h).2.2.1 q1, he12⟩
          have eq1 := (eqV_dot o.parent o.block).trans (congrArg some (decide_eq_false q1))
          simp (disch := omega) only [go_sem, ↓reduceIte, Nat.reduceEqDiff, Nat.reduceAdd, Nat.reduceMul, Nat.reduceSub, Nat.reduceLT, Nat.reduceLeDiff, Nat.reduceBEq, reduceCtorEq, Int.reduceLT, Int.reduceEq, Int.reduceLE, Int.reduceAdd, Int.reduceSub, Int.reduceToNat, Int.reduceNeg, hc2, hn2, k3, eb, b1, er1, er2, eq1]
          refine wJ_of F.keys_May_J ?_; rintro _ _ ⟨rfl, rfl⟩
          by_cases y1 : keyP o.key
          rotate_left
          · simp (disch := omega) only [go_sem, ↓reduceIte, Nat.reduceEqDiff, Nat.reduceAdd, Nat.reduceMul, Nat.reduceSub, Nat.reduceLT, Nat.reduceLeDiff, Nat.reduceBEq, reduceCtorEq, Int.reduceLT, Int.reduceEq, Int.reduceLE, Int.reduceAdd, Int.reduceSub, Int.reduceToNat, Int.reduceNeg, hc2, hn2, k3, eb, b1, er1, er2, eq1, y1]
            exact ⟨nk fun h => y1 (K h).2.2.2.1, he12⟩
          by_cases a0 : o.at_ = (0, 0)
          rotate_left
          · have ea0 := (eqD o.at_).trans (congrArg some (decide_eq_false a0))
            simp (disch := omega) only [go_sem, ↓reduceIte, Nat.reduceEqDiff, Nat.reduceAdd, Nat.reduceMul, Nat.reduceSub, Nat.reduceLT, Nat.reduceLeDiff, Nat.reduceBEq, reduceCtorEq, Int.reduceLT, Int.reduceEq, Int.reduceLE, Int.reduceAdd, Int.reduceSub, Int.reduceToNat, Int.reduceNeg, hc2, hn2, k3, eb, b1, er1, er2, eq1, y1, ea0]
            exact ⟨nk fun h => a0 (K h).2.2.2.2.1, he12⟩
          have ea0 := (eqD o.at_).trans (congrArg some (decide_eq_true a0))
          by_cases s0 : o.side = 0
          rotate_left
          · simp (disch := omega) only [go_sem, ↓reduceIte, Nat.reduceEqDiff, Nat.reduceAdd, Nat.reduceMul, Nat.reduceSub, Nat.reduceLT, Nat.reduceLeDiff, Nat.reduceBEq, reduceCtorEq, Int.reduceLT, Int.reduceEq, Int.reduceLE, Int.reduceAdd, Int.reduceSub, Int.reduceToNat, Int.reduceNeg, hc2, hn2, k3, eb, b1, er1, er2, eq1, y1, ea0, s0]
            exact ⟨nk fun h => s0 (K h).2.2.2.2.2.1, he12⟩
          by_cases c0 : o.char = 0
          rotate_left
          · simp (disch := omega) only [go_sem, ↓reduceIte, Nat.reduceEqDiff, Nat.reduceAdd, Nat.reduceMul, Nat.reduceSub, Nat.reduceLT, Nat.reduceLeDiff, Nat.reduceBEq, reduceCtorEq, Int.reduceLT, Int.reduceEq, Int.reduceLE, Int.reduceAdd, Int.reduceSub, Int.reduceToNat, Int.reduceNeg, hc2, hn2, k3, eb, b1, er1, er2, eq1, y1, ea0, s0, c0]
            exact ⟨nk fun h => c0 (K h).2.2.2.2.2.2, he12⟩
          simp (disch := omega) only [go_sem, ↓reduceIte, Nat.reduceEqDiff, Nat.reduceAdd, Nat.reduceMul, Nat.reduceSub, Nat.reduceLT, Nat.reduceLeDiff, Nat.reduceBEq, reduceCtorEq, Int.reduceLT, Int.reduceEq, Int.reduceLE, Int.reduceAdd, Int.reduceSub, Int.reduceToNat, Int.reduceNeg, hc2, hn2, k3, eb, b1, er1, er2, eq1, y1, ea0, s0, c0]
          exact ⟨yes ⟨hmh, .inr (.inr ⟨k3, .inr b1, .inr (.inl r2), q1, y1, a0, s0, c0⟩)⟩, he12⟩
        · have er2 := (eqV_dot o.parent (0, -2)).trans (congrArg some (decide_eq_false r2))
          simp (disch := omega) only [go_sem, ↓reduceIte, Nat.reduceEqDiff, Nat.reduceAdd, Nat.reduceMul, Nat.reduceSub, Nat.reduceLT, Nat.reduceLeDiff, Nat.reduceBEq, reduceCtorEq, Int.reduceLT, Int.reduceEq, Int.reduceLE, Int.reduceAdd, Int.reduceSub, Int.reduceToNat, Int.reduceNeg, hc2, hn2, k3, eb, b1, er1, er2]
          refine F.ops_Check_c1_call hwb2 hd2 hL ?_
          by_cases r3 : hasP o.deps o.parent
          rotate_left
          · simp (disch := omega) only [go_sem, ↓reduceIte, Nat.reduceEqDiff, Nat.reduceAdd, Nat.reduceMul, Nat.reduceSub, Nat.reduceLT, Nat.reduceLeDiff, Nat.reduceBEq, reduceCtorEq, Int.reduceLT, Int.reduceEq, Int.reduceLE, Int.reduceAdd, Int.reduceSub, Int.reduceToNat, Int.reduceNeg, hc2, hn2, k3, eb, b1, er1, er2, r3]
            exact ⟨nk fun h => ((K h).2.1).elim r1 fun h => h.elim r2 r3, he12⟩
          by_cases q1 : o.parent = o.block
          · have eq1 := (eqV_dot o.parent o.block).trans (congrArg some (decide_eq_true q1))
            simp (disch := omega) only [go_sem, ↓reduceIte, Nat.reduceEqDiff, Nat.reduceAdd, Nat.reduceMul, Nat.reduceSub, Nat.reduceLT, Nat.reduceLeDiff, Nat.reduceBEq, reduceCtorEq, Int.reduceLT, Int.reduceEq, Int.reduceLE, Int.reduceAdd, Int.reduceSub, Int.reduceToNat, Int.reduceNeg, hc2, hn2, k3, eb, b1, er1, er2, r3, eq1]
            exact ⟨nk fun h => (K h).2.2.1 q1, he12⟩
          have eq1 := (eqV_dot o.parent o.block).trans (congrArg some (decide_eq_false q1))
          simp (disch := omega) only [go_sem, ↓reduceIte, Nat.reduceEqDiff, Nat.reduceAdd, Nat.reduceMul, Nat.reduceSub, Nat.reduceLT, Nat.reduceLeDiff, Nat.reduceBEq, reduceCtorEq, Int.reduceLT, Int.reduceEq, Int.reduceLE, Int.reduceAdd, Int.reduceSub, Int.reduceToNat, Int.reduceNeg, hc2, hn2, k3, eb, b1, er1, er2, r3, eq1]
          refine wJ_of F.keys_May_J ?_; rintro _ _ ⟨rfl, rfl⟩
          by_cases y1 : keyP o.key
          rotate_left
          · simp (disch := omega) only [go_sem, ↓reduceIte, Nat.reduceEqDiff, Nat.reduceAdd, Nat.reduceMul, Nat.reduceSub, Nat.reduceLT, Nat.reduceLeDiff, Nat.reduceBEq, reduceCtorEq, Int.reduceLT, Int.reduceEq, Int.reduceLE, Int.reduceAdd, Int.reduceSub, Int.reduceToNat, Int.reduceNeg, hc2, hn2, k3, eb, b1, er1, er2, r3, eq1, y1]
            exact ⟨nk fun h => y1 (K h).2.2.2.1, he12⟩
          by_cases a0 : o.at_ = (0, 0)
          rotate_left
          · have ea0 := (eqD o.at_).trans (congrArg some (decide_eq_false a0))
            simp (disch := omega) only [go_sem, ↓reduceIte, Nat.reduceEqDiff, Nat.reduceAdd, Nat.reduceMul, Nat.reduceSub, Nat.reduceLT, Nat.reduceLeDiff, Nat.reduceBEq, reduceCtorEq, Int.reduceLT, Int.reduceEq, Int.reduceLE, Int.reduceAdd, Int.reduceSub, Int.reduceToNat, Int.reduceNeg, hc2, hn2, k3, eb, b1, er1, er2, r3, eq1, y1, ea0]
            exact ⟨nk fun h => a0 (K h).2.2.2.2.1, he12⟩
          have ea0 := (eqD o.at_).trans (congrArg some (decide_eq_true a0))
          by_cases s0 : o.side = 0
          rotate_left
          · simp (disch := omega) only [go_sem, ↓reduceIte, Nat.reduceEqDiff, Nat.reduceAdd, Nat.reduceMul, Nat.reduceSub, Nat.reduceLT, Nat.reduceLeDiff, Nat.reduceBEq, reduceCtorEq, Int.reduceLT, Int.reduceEq, Int.reduceLE, Int.reduceAdd, Int.reduceSub, Int.reduceToNat, Int.reduceNeg, hc2, hn2, k3, eb, b1, er1, er2, r3, eq1, y1, ea0, s0]
            exact ⟨nk fun h => s0 (K h).2.2.2.2.2.1, he12⟩
          by_cases c0 : o.char = 0
          rotate_left
          · simp (disch := omega) only [go_sem, ↓reduceIte, Nat.reduceEqDiff, Nat.reduceAdd, Nat.reduceMul, Nat.reduceSub, Nat.reduceLT, Nat.reduceLeDiff, Nat.reduceBEq, reduceCtorEq, Int.reduceLT, Int.reduceEq, Int.reduceLE, Int.reduceAdd, Int.reduceSub, Int.reduceToNat, Int.reduceNeg, hc2, hn2, k3, eb, b1, er1, er2, r3, eq1, y1, ea0, s0, c0]
            exact ⟨nk fun h => c0 (K h).2.2.2.2.2.2, he12⟩
          simp (disch := omega) only [go_sem, ↓reduceIte, Nat.reduceEqDiff, Nat.reduceAdd, Nat.reduceMul, Nat.reduceSub, Nat.reduceLT, Nat.reduceLeDiff, Nat.reduceBEq, reduceCtorEq, Int.reduceLT, Int.reduceEq, Int.reduceLE, Int.reduceAdd, Int.reduceSub, Int.reduceToNat, Int.reduceNeg, hc2, hn2, k3, eb, b1, er1, er2, r3, eq1, y1, ea0, s0, c0]
          exact ⟨yes ⟨hmh, .inr (.inr ⟨k3, .inr b1, .inr (.inr r3), q1, y1, a0, s0, c0⟩)⟩, he12⟩
  simp (disch := omega) only [go_sem, ↓reduceIte, Nat.reduceEqDiff, Nat.reduceAdd, Nat.reduceMul, Nat.reduceSub, Nat.reduceLT, Nat.reduceLeDiff, Nat.reduceBEq, reduceCtorEq, Int.reduceLT, Int.reduceEq, Int.reduceLE, Int.reduceAdd, Int.reduceSub, Int.reduceToNat, Int.reduceNeg, hc2, k1, k2, k3]
  exact ⟨nk fun h => by rcases h.2 with h | h | h <;> exact absurd h.1 (by omega), he12⟩
end Go.Osj
