/- The laws of layer 4 but for the bytes. -/
import Derived.Test.YtnofakkcipcphaaM
set_option linter.unusedSimpArgs false
namespace Go.Osj
theorem F.osierlaw04_awake_J {S : St} : J PR F.osierlaw04_awake [] S fun v S' => v = .bool true ∧ S = S' := by
  refine J.back (J_by PR.mixed F.osierlaw04_awake.ok (by simp) ?_)
  simp (disch := omega) only [go_sem, ↓reduceIte, Nat.reduceEqDiff, Nat.reduceAdd, Nat.reduceMul, Nat.reduceSub, Nat.reduceLT, Nat.reduceLeDiff, Nat.reduceBEq, Nat.reduceLeDiff, reduceCtorEq, Int.reduceLT, Int.reduceEq, Int.reduceLE, Int.reduceAdd, Int.reduceSub, Int.reduceToNat, Int.reduceNeg, Int.toNat_natCast, beq_self_eq_true, wrap64, undef, Nat.zero_add, Nat.add_zero, Int.zero_add, Int.add_zero, Int.sub_zero, St.loadN_other, St.cell_other]
  refine wfresh_of fun x hx => ?_
  simp (disch := omega) only [go_sem, ↓reduceIte, Nat.reduceEqDiff, Nat.reduceAdd, Nat.reduceMul, Nat.reduceSub, Nat.reduceLT, Nat.reduceLeDiff, Nat.reduceBEq, Nat.reduceLeDiff, reduceCtorEq, Int.reduceLT, Int.reduceEq, Int.reduceLE, Int.reduceAdd, Int.reduceSub, Int.reduceToNat, Int.reduceNeg, Int.toNat_natCast, beq_self_eq_true, wrap64, undef, Nat.zero_add, Nat.add_zero, Int.zero_add, Int.add_zero, Int.sub_zero, St.loadN_other, St.cell_other]
  refine wfresh_of fun y hy => ?_
  simp (disch := omega) only [go_sem, ↓reduceIte, Nat.reduceEqDiff, Nat.reduceAdd, Nat.reduceMul, Nat.reduceSub, Nat.reduceLT, Nat.reduceLeDiff, Nat.reduceBEq, Nat.reduceLeDiff, reduceCtorEq, Int.reduceLT, Int.reduceEq, Int.reduceLE, Int.reduceAdd, Int.reduceSub, Int.reduceToNat, Int.reduceNeg, Int.toNat_natCast, beq_self_eq_true, wrap64, undef, Nat.zero_add, Nat.add_zero, Int.zero_add, Int.add_zero, Int.sub_zero, St.loadN_other, St.cell_other]
  have he := ((St.Ext.refl S).put hx (.cells true 4 [.int .i64 1, .int .i64 3, .int .i64 2, .int .i64 1])).put (by rw [St.put_n]; exact hy) (.cells true 2 [.int .i64 2, .int .i64 4])
  have hsa : SlT dotE ((S.put x (.cells true 4 [.int .i64 1, .int .i64 3, .int .i64 2, .int .i64 1])).put y (.cells true 2 [.int .i64 2, .int .i64 4])) (.slice (some ⟨x, 0, none⟩) 2 2) [(1, 3), (2, 1)] :=
    (SlT.lit dotE (S := S) (xs := [(1, 3), (2, 1)])).ext dotE ((St.Ext.refl _).put (by rw [St.put_n]; exact hy) _)
  have hsb : SlT dotE ((S.put x (.cells true 4 [.int .i64 1, .int .i64 3, .int .i64 2, .int .i64 1])).put y (.cells true 2 [.int .i64 2, .int .i64 4])) (.slice (some ⟨y, 0, none⟩) 1 1) [(2, 4)] :=
    SlT.lit dotE (xs := [(2, 4)])
  have ha : isV [(1, 3), (2, 1)] := by decide
  have hb : isV [(2, 4)] := by decide
  generalize (S.put x (.cells true 4 [.int .i64 1, .int .i64 3, .int .i64 2, .int .i64 1])).put y (.cells true 2 [.int .i64 2, .int .i64 4]) = S0 at he hsa hsb
  refine wJ_of (F.vector_Join_J hsa hsb ha hb (by simp) (by simp)) ?_; rintro vj S1 ⟨hoj, he1⟩
  simp (disch := omega) only [go_sem, ↓reduceIte, Nat.reduceEqDiff, Nat.reduceAdd, Nat.reduceMul, Nat.reduceSub, Nat.reduceLT, Nat.reduceLeDiff, Nat.reduceBEq, Nat.reduceLeDiff, reduceCtorEq, Int.reduceLT, Int.reduceEq, Int.reduceLE, Int.reduceAdd, Int.reduceSub, Int.reduceToNat, Int.reduceNeg, Int.toNat_natCast, beq_self_eq_true, wrap64, undef, Nat.zero_add, Nat.add_zero, Int.zero_add, Int.add_zero, Int.sub_zero, St.loadN_other, St.cell_other]
  refine wJ_of (F.vector_Meet_J (hsa.ext dotE he1) (hsb.ext dotE he1) ha hb (by simp) (by simp)) ?_; rintro vm S2 ⟨hom, he2⟩
  rw [show joinV [(1, 3), (2, 1)] [(2, 4)] = [(1, 3), (2, 4)] by decide] at hoj
  rw [show meetV [(1, 3), (2, 1)] [(2, 4)] = [(2, 1)] by decide] at hom
  have hsj := (hoj.sl dotE).ext dotE he2
  have hsm := hom.sl dotE
  obtain ⟨bj, cj, rfl⟩ := hsj.len dotE
  obtain ⟨bm, cm, rfl⟩ := hsm.len dotE
  obtain ⟨b, off, rfl, -, -, -, lj0⟩ := hsj.dotc (i := 0) (by simp)
  obtain ⟨b', off', hbb, -, -, -, lj1⟩ := hsj.dotc (i := 1) (by simp)
  simp only [Option.some.injEq, Addr.mk.injEq, and_true] at hbb
  obtain ⟨rfl, rfl⟩ := hbb
  obtain ⟨b2, off2, rfl, -, -, -, lm0⟩ := hsm.dotc (i := 0) (by simp)
  simp only [Nat.zero_mul, Nat.one_mul, Nat.add_zero, List.getElem_cons_zero, List.getElem_cons_succ] at lj0 lj1 lm0
  have e2 := he1.trans he2
  have hsa2 := hsa.ext dotE e2
  have hsb2 := hsb.ext dotE e2
  simp (disch := omega) only [go_sem, ↓reduceIte, Nat.reduceEqDiff, Nat.reduceAdd, Nat.reduceMul, Nat.reduceSub, Nat.reduceLT, Nat.reduceLeDiff, Nat.reduceBEq, Nat.reduceLeDiff, reduceCtorEq, Int.reduceLT, Int.reduceEq, Int.reduceLE, Int.reduceAdd, Int.reduceSub, Int.reduceToNat, Int.reduceNeg, Int.toNat_natCast, beq_self_eq_true, wrap64, undef, Nat.zero_add, Nat.add_zero, Int.zero_add, Int.add_zero, Int.sub_zero, St.loadN_other, St.cell_other, List.length_cons, List.length_nil, lj0, lj1, lm0]
  refine wJ_of (F.vector_Count_J hsa2 ha (by simp)) ?_; rintro _ _ ⟨rfl, rfl⟩
  simp (disch := omega) only [go_sem, ↓reduceIte, Nat.reduceEqDiff, Nat.reduceAdd, Nat.reduceMul, Nat.reduceSub, Nat.reduceLT, Nat.reduceLeDiff, Nat.reduceBEq, Nat.reduceLeDiff, reduceCtorEq, Int.reduceLT, Int.reduceEq, Int.reduceLE, Int.reduceAdd, Int.reduceSub, Int.reduceToNat, Int.reduceNeg, Int.toNat_natCast, beq_self_eq_true, wrap64, undef, Nat.zero_add, Nat.add_zero, Int.zero_add, Int.add_zero, Int.sub_zero, St.loadN_other, St.cell_other, show sumV [(1, 3), (2, 1)] = 4 by decide]
  refine wJ_of (F.vector_Has_J (d := (1, 2)) hsa2 (by simp)) ?_; rintro _ _ ⟨rfl, rfl⟩
  simp (disch := omega) only [go_sem, ↓reduceIte, Nat.reduceEqDiff, Nat.reduceAdd, Nat.reduceMul, Nat.reduceSub, Nat.reduceLT, Nat.reduceLeDiff, Nat.reduceBEq, Nat.reduceLeDiff, reduceCtorEq, Int.reduceLT, Int.reduceEq, Int.reduceLE, Int.reduceAdd, Int.reduceSub, Int.reduceToNat, Int.reduceNeg, Int.toNat_natCast, beq_self_eq_true, wrap64, undef, Nat.zero_add, Nat.add_zero, Int.zero_add, Int.add_zero, Int.sub_zero, St.loadN_other, St.cell_other, show hasP [(1, 3), (2, 1)] (1, 2) by decide]
  refine wJ_of (F.vector_May_J hsa2 (by simp)) ?_; rintro _ _ ⟨rfl, rfl⟩
  obtain ⟨b3, off3, h3, -, la0, -, -⟩ := hsa2.dotc (i := 0) (by simp)
  obtain ⟨b4, off4, h4, -, lb0, -, -⟩ := hsb2.dotc (i := 0) (by simp)
  simp only [Option.some.injEq, Addr.mk.injEq, and_true] at h3 h4
  obtain ⟨rfl, rfl⟩ := h3
  obtain ⟨rfl, rfl⟩ := h4
  simp only [Nat.zero_mul, Nat.add_zero, List.getElem_cons_zero, List.getElem_cons_succ] at la0 lb0
  simp (disch := omega) only [go_sem, ↓reduceIte, Nat.reduceEqDiff, Nat.reduceAdd, Nat.reduceMul, Nat.reduceSub, Nat.reduceLT, Nat.reduceLeDiff, Nat.reduceBEq, Nat.reduceLeDiff, reduceCtorEq, Int.reduceLT, Int.reduceEq, Int.reduceLE, Int.reduceAdd, Int.reduceSub, Int.reduceToNat, Int.reduceNeg, Int.toNat_natCast, beq_self_eq_true, wrap64, undef, Nat.zero_add, Nat.add_zero, Int.zero_add, Int.add_zero, Int.sub_zero, St.loadN_other, St.cell_other, ha, la0, lb0]
  refine wfresh_of fun z hz => ?_
  simp (disch := omega) only [go_sem, ↓reduceIte, Nat.reduceEqDiff, Nat.reduceAdd, Nat.reduceMul, Nat.reduceSub, Nat.reduceLT, Nat.reduceLeDiff, Nat.reduceBEq, Nat.reduceLeDiff, reduceCtorEq, Int.reduceLT, Int.reduceEq, Int.reduceLE, Int.reduceAdd, Int.reduceSub, Int.reduceToNat, Int.reduceNeg, Int.toNat_natCast, beq_self_eq_true, wrap64, undef, Nat.zero_add, Nat.add_zero, Int.zero_add, Int.add_zero, Int.sub_zero, St.loadN_other, St.cell_other]
  refine wJ_of (F.vector_May_J (SlT.lit dotE (xs := [(2, 4), (1, 3)])) (by simp)) ?_; rintro _ _ ⟨rfl, rfl⟩
  simp (disch := omega) only [go_sem, ↓reduceIte, Nat.reduceEqDiff, Nat.reduceAdd, Nat.reduceMul, Nat.reduceSub, Nat.reduceLT, Nat.reduceLeDiff, Nat.reduceBEq, Nat.reduceLeDiff, reduceCtorEq, Int.reduceLT, Int.reduceEq, Int.reduceLE, Int.reduceAdd, Int.reduceSub, Int.reduceToNat, Int.reduceNeg, Int.toNat_natCast, beq_self_eq_true, wrap64, undef, Nat.zero_add, Nat.add_zero, Int.zero_add, Int.add_zero, Int.sub_zero, St.loadN_other, St.cell_other, show ¬ isV [(2, 4), (1, 3)] by decide]
  exact (he.trans e2).put hz _
theorem F.osierlaw04_VectorMay.J {S : St} {l r : Value} {xs rs : List Dot} {d : Dot} (hl : SlT dotE S l xs) (hr : SlT dotE S r rs) : J PR F.osierlaw04_VectorMay [l, dotV d, r] S fun v _ => v = .bool true := by
  obtain ⟨base, cap, rfl⟩ := hl.len dotE
  refine J_by PR.mixed F.osierlaw04_VectorMay.ok (by simp) ?_
  simp (disch := omega) only [go_sem, ↓reduceIte, Nat.reduceEqDiff, Nat.reduceAdd, Nat.reduceMul, Nat.reduceSub, Nat.reduceLT, Nat.reduceLeDiff, Nat.reduceBEq, Nat.reduceLeDiff, reduceCtorEq, Int.reduceLT, Int.reduceEq, Int.reduceLE, Int.reduceAdd, Int.reduceSub, Int.reduceToNat, Int.reduceNeg, Int.toNat_natCast, beq_self_eq_true, wrap64, undef, Nat.zero_add, Nat.add_zero, Int.zero_add, Int.add_zero, Int.sub_zero, St.loadN_other, St.cell_other]
  refine wfresh_of fun x hx => ?_
  simp (disch := omega) only [go_sem, ↓reduceIte, Nat.reduceEqDiff, Nat.reduceAdd, Nat.reduceMul, Nat.reduceSub, Nat.reduceLT, Nat.reduceLeDiff, Nat.reduceBEq, Nat.reduceLeDiff, reduceCtorEq, Int.reduceLT, Int.reduceEq, Int.reduceLE, Int.reduceAdd, Int.reduceSub, Int.reduceToNat, Int.reduceNeg, Int.toNat_natCast, beq_self_eq_true, wrap64, undef, Nat.zero_add, Nat.add_zero, Int.zero_add, Int.add_zero, Int.sub_zero, St.loadN_other, St.cell_other]
  have he0 := (St.Ext.refl S).put hx (.cells true 2 [.int .i64 d.1, .int .i64 d.2])
  refine wJ_of F.osierlaw04_awake_J ?_; rintro _ _ ⟨rfl, rfl⟩
  simp (disch := omega) only [go_sem, ↓reduceIte, Nat.reduceEqDiff, Nat.reduceAdd, Nat.reduceMul, Nat.reduceSub, Nat.reduceLT, Nat.reduceLeDiff, Nat.reduceBEq, Nat.reduceLeDiff, reduceCtorEq, Int.reduceLT, Int.reduceEq, Int.reduceLE, Int.reduceAdd, Int.reduceSub, Int.reduceToNat, Int.reduceNeg, Int.toNat_natCast, beq_self_eq_true, wrap64, undef, Nat.zero_add, Nat.add_zero, Int.zero_add, Int.add_zero, Int.sub_zero, St.loadN_other, St.cell_other]
  refine wcond_dec (fun h => ?_) (fun h => ?_)
  · simp (disch := omega) only [go_sem, ↓reduceIte, Nat.reduceEqDiff, Nat.reduceAdd, Nat.reduceMul, Nat.reduceSub, Nat.reduceLT, Nat.reduceLeDiff, Nat.reduceBEq, Nat.reduceLeDiff, reduceCtorEq, Int.reduceLT, Int.reduceEq, Int.reduceLE, Int.reduceAdd, Int.reduceSub, Int.reduceToNat, Int.reduceNeg, Int.toNat_natCast, beq_self_eq_true, wrap64, undef, Nat.zero_add, Nat.add_zero, Int.zero_add, Int.add_zero, Int.sub_zero, St.loadN_other, St.cell_other]
  simp (disch := omega) only [go_sem, ↓reduceIte, Nat.reduceEqDiff, Nat.reduceAdd, Nat.reduceMul, Nat.reduceSub, Nat.reduceLT, Nat.reduceLeDiff, Nat.reduceBEq, Nat.reduceLeDiff, reduceCtorEq, Int.reduceLT, Int.reduceEq, Int.reduceLE, Int.reduceAdd, Int.reduceSub, Int.reduceToNat, Int.reduceNeg, Int.toNat_natCast, beq_self_eq_true, wrap64, undef, Nat.zero_add, Nat.add_zero, Int.zero_add, Int.add_zero, Int.sub_zero, St.loadN_other, St.cell_other]
  refine wJ_of (F.osierref04_Made_J (hr.ext dotE he0)) ?_; rintro vv S1 ⟨hsv, he1⟩
  have hxn := St.lt_put_self S x (.cells true 2 [.int .i64 d.1, .int .i64 d.2])
  have e1 := he0.trans he1
  have lx : S1.cell ⟨x, 0, none⟩ = some (.int .i64 d.1) := by rw [he1.cell hxn]; simp (disch := omega) only [go_sem, ↓reduceIte, Nat.reduceEqDiff, Nat.reduceAdd, Nat.reduceMul, Nat.reduceSub, Nat.reduceLT, Nat.reduceLeDiff, Nat.reduceBEq, Nat.reduceLeDiff, reduceCtorEq, Int.reduceLT, Int.reduceEq, Int.reduceLE, Int.reduceAdd, Int.reduceSub, Int.reduceToNat, Int.reduceNeg, Int.toNat_natCast, beq_self_eq_true, wrap64, undef, Nat.zero_add, Nat.add_zero, Int.zero_add, Int.add_zero, Int.sub_zero, St.loadN_other, St.cell_other]
  have lx2 : S1.loadN ⟨x, 0, none⟩ 2 = some [.int .i64 d.1, .int .i64 d.2] := by rw [he1.loadN hxn]; simp (disch := omega) only [go_sem, ↓reduceIte, Nat.reduceEqDiff, Nat.reduceAdd, Nat.reduceMul, Nat.reduceSub, Nat.reduceLT, Nat.reduceLeDiff, Nat.reduceBEq, Nat.reduceLeDiff, reduceCtorEq, Int.reduceLT, Int.reduceEq, Int.reduceLE, Int.reduceAdd, Int.reduceSub, Int.reduceToNat, Int.reduceNeg, Int.toNat_natCast, beq_self_eq_true, wrap64, undef, Nat.zero_add, Nat.add_zero, Int.zero_add, Int.add_zero, Int.sub_zero, St.loadN_other, St.cell_other]
  have hv := madeV_is rs
  have hvl := madeV_len rs
  generalize madeV rs = V at hsv hv hvl
  simp (disch := omega) only [go_sem, ↓reduceIte, Nat.reduceEqDiff, Nat.reduceAdd, Nat.reduceMul, Nat.reduceSub, Nat.reduceLT, Nat.reduceLeDiff, Nat.reduceBEq, Nat.reduceLeDiff, reduceCtorEq, Int.reduceLT, Int.reduceEq, Int.reduceLE, Int.reduceAdd, Int.reduceSub, Int.reduceToNat, Int.reduceNeg, Int.toNat_natCast, beq_self_eq_true, wrap64, undef, Nat.zero_add, Nat.add_zero, Int.zero_add, Int.add_zero, Int.sub_zero, St.loadN_other, St.cell_other, lx, lx2]
  refine wJ_of (F.vector_May_J (hl.ext dotE e1) (by omega)) ?_; rintro _ _ ⟨rfl, rfl⟩
  simp (disch := omega) only [go_sem, ↓reduceIte, Nat.reduceEqDiff, Nat.reduceAdd, Nat.reduceMul, Nat.reduceSub, Nat.reduceLT, Nat.reduceLeDiff, Nat.reduceBEq, Nat.reduceLeDiff, reduceCtorEq, Int.reduceLT, Int.reduceEq, Int.reduceLE, Int.reduceAdd, Int.reduceSub, Int.reduceToNat, Int.reduceNeg, Int.toNat_natCast, beq_self_eq_true, wrap64, undef, Nat.zero_add, Nat.add_zero, Int.zero_add, Int.add_zero, Int.sub_zero, St.loadN_other, St.cell_other, lx, lx2]
  refine wJ_of (F.osierref04_May_J (hl.ext dotE e1) (by omega)) ?_; rintro _ _ ⟨rfl, rfl⟩
  simp (disch := omega) only [go_sem, ↓reduceIte, Nat.reduceEqDiff, Nat.reduceAdd, Nat.reduceMul, Nat.reduceSub, Nat.reduceLT, Nat.reduceLeDiff, Nat.reduceBEq, Nat.reduceLeDiff, reduceCtorEq, Int.reduceLT, Int.reduceEq, Int.reduceLE, Int.reduceAdd, Int.reduceSub, Int.reduceToNat, Int.reduceNeg, Int.toNat_natCast, beq_self_eq_true, wrap64, undef, Nat.zero_add, Nat.add_zero, Int.zero_add, Int.add_zero, Int.sub_zero, St.loadN_other, St.cell_other, lx, lx2]
  refine wJ_of (F.vector_Get_J hsv (by omega)) ?_; rintro _ _ ⟨rfl, rfl⟩
  simp (disch := omega) only [go_sem, ↓reduceIte, Nat.reduceEqDiff, Nat.reduceAdd, Nat.reduceMul, Nat.reduceSub, Nat.reduceLT, Nat.reduceLeDiff, Nat.reduceBEq, Nat.reduceLeDiff, reduceCtorEq, Int.reduceLT, Int.reduceEq, Int.reduceLE, Int.reduceAdd, Int.reduceSub, Int.reduceToNat, Int.reduceNeg, Int.toNat_natCast, beq_self_eq_true, wrap64, undef, Nat.zero_add, Nat.add_zero, Int.zero_add, Int.add_zero, Int.sub_zero, St.loadN_other, St.cell_other, lx, lx2]
  refine wJ_of (F.osierref04_Get_J hsv (by omega)) ?_; rintro _ _ ⟨rfl, rfl⟩
  simp (disch := omega) only [go_sem, ↓reduceIte, Nat.reduceEqDiff, Nat.reduceAdd, Nat.reduceMul, Nat.reduceSub, Nat.reduceLT, Nat.reduceLeDiff, Nat.reduceBEq, Nat.reduceLeDiff, reduceCtorEq, Int.reduceLT, Int.reduceEq, Int.reduceLE, Int.reduceAdd, Int.reduceSub, Int.reduceToNat, Int.reduceNeg, Int.toNat_natCast, beq_self_eq_true, wrap64, undef, Nat.zero_add, Nat.add_zero, Int.zero_add, Int.add_zero, Int.sub_zero, St.loadN_other, St.cell_other, lx, lx2]
  refine wJ_of (F.vector_Has_J hsv (by omega)) ?_; rintro _ _ ⟨rfl, rfl⟩
  simp (disch := omega) only [go_sem, ↓reduceIte, Nat.reduceEqDiff, Nat.reduceAdd, Nat.reduceMul, Nat.reduceSub, Nat.reduceLT, Nat.reduceLeDiff, Nat.reduceBEq, Nat.reduceLeDiff, reduceCtorEq, Int.reduceLT, Int.reduceEq, Int.reduceLE, Int.reduceAdd, Int.reduceSub, Int.reduceToNat, Int.reduceNeg, Int.toNat_natCast, beq_self_eq_true, wrap64, undef, Nat.zero_add, Nat.add_zero, Int.zero_add, Int.add_zero, Int.sub_zero, St.loadN_other, St.cell_other, lx, lx2]
  refine wJ_of (F.osierref04_Has_J hsv (by omega)) ?_; rintro _ _ ⟨rfl, rfl⟩
  simp (disch := omega) only [go_sem, ↓reduceIte, Nat.reduceEqDiff, Nat.reduceAdd, Nat.reduceMul, Nat.reduceSub, Nat.reduceLT, Nat.reduceLeDiff, Nat.reduceBEq, Nat.reduceLeDiff, reduceCtorEq, Int.reduceLT, Int.reduceEq, Int.reduceLE, Int.reduceAdd, Int.reduceSub, Int.reduceToNat, Int.reduceNeg, Int.toNat_natCast, beq_self_eq_true, wrap64, undef, Nat.zero_add, Nat.add_zero, Int.zero_add, Int.add_zero, Int.sub_zero, St.loadN_other, St.cell_other, lx, lx2]
  refine wJ_of (F.vector_Count_J hsv hv (by omega)) ?_; rintro _ _ ⟨rfl, rfl⟩
  simp (disch := omega) only [go_sem, ↓reduceIte, Nat.reduceEqDiff, Nat.reduceAdd, Nat.reduceMul, Nat.reduceSub, Nat.reduceLT, Nat.reduceLeDiff, Nat.reduceBEq, Nat.reduceLeDiff, reduceCtorEq, Int.reduceLT, Int.reduceEq, Int.reduceLE, Int.reduceAdd, Int.reduceSub, Int.reduceToNat, Int.reduceNeg, Int.toNat_natCast, beq_self_eq_true, wrap64, undef, Nat.zero_add, Nat.add_zero, Int.zero_add, Int.add_zero, Int.sub_zero, St.loadN_other, St.cell_other, lx, lx2]
  refine wJ_of (F.osierref04_Count_J hsv hv (by omega)) ?_; rintro _ _ ⟨rfl, rfl⟩
  simp (disch := omega) only [go_sem, ↓reduceIte, Nat.reduceEqDiff, Nat.reduceAdd, Nat.reduceMul, Nat.reduceSub, Nat.reduceLT, Nat.reduceLeDiff, Nat.reduceBEq, Nat.reduceLeDiff, reduceCtorEq, Int.reduceLT, Int.reduceEq, Int.reduceLE, Int.reduceAdd, Int.reduceSub, Int.reduceToNat, Int.reduceNeg, Int.toNat_natCast, beq_self_eq_true, wrap64, undef, Nat.zero_add, Nat.add_zero, Int.zero_add, Int.add_zero, Int.sub_zero, St.loadN_other, St.cell_other, lx, lx2]
  refine wJ_of (F.vector_May_J hsv (by omega)) ?_; rintro _ _ ⟨rfl, rfl⟩
  simp (disch := omega) only [go_sem, ↓reduceIte, Nat.reduceEqDiff, Nat.reduceAdd, Nat.reduceMul, Nat.reduceSub, Nat.reduceLT, Nat.reduceLeDiff, Nat.reduceBEq, Nat.reduceLeDiff, reduceCtorEq, Int.reduceLT, Int.reduceEq, Int.reduceLE, Int.reduceAdd, Int.reduceSub, Int.reduceToNat, Int.reduceNeg, Int.toNat_natCast, beq_self_eq_true, wrap64, undef, Nat.zero_add, Nat.add_zero, Int.zero_add, Int.add_zero, Int.sub_zero, St.loadN_other, St.cell_other, hv]
theorem F.osierlaw04_VectorJoins.J {S : St} {l r : Value} {xs ys : List Dot} {d : Dot} {most : Int} (hl : SlT dotE S l xs) (hr : SlT dotE S r ys) : J PR F.osierlaw04_VectorJoins [l, r, dotV d, .int .i64 most] S fun v _ => v = .bool true := by
  refine J_by PR.mixed F.osierlaw04_VectorJoins.ok (by simp) ?_
  simp (disch := omega) only [go_sem, ↓reduceIte, Nat.reduceEqDiff, Nat.reduceAdd, Nat.reduceMul, Nat.reduceSub, Nat.reduceLT, Nat.reduceLeDiff, Nat.reduceBEq, Nat.reduceLeDiff, reduceCtorEq, Int.reduceLT, Int.reduceEq, Int.reduceLE, Int.reduceAdd, Int.reduceSub, Int.reduceToNat, Int.reduceNeg, Int.toNat_natCast, beq_self_eq_true, wrap64, undef, Nat.zero_add, Nat.add_zero, Int.zero_add, Int.add_zero, Int.sub_zero, St.loadN_other, St.cell_other]
  refine wfresh_of fun x hx => ?_
  simp (disch := omega) only [go_sem, ↓reduceIte, Nat.reduceEqDiff, Nat.reduceAdd, Nat.reduceMul, Nat.reduceSub, Nat.reduceLT, Nat.reduceLeDiff, Nat.reduceBEq, Nat.reduceLeDiff, reduceCtorEq, Int.reduceLT, Int.reduceEq, Int.reduceLE, Int.reduceAdd, Int.reduceSub, Int.reduceToNat, Int.reduceNeg, Int.toNat_natCast, beq_self_eq_true, wrap64, undef, Nat.zero_add, Nat.add_zero, Int.zero_add, Int.add_zero, Int.sub_zero, St.loadN_other, St.cell_other]
  have he0 := (St.Ext.refl S).put hx (.cells true 2 [.int .i64 d.1, .int .i64 d.2])
  refine wJ_of F.osierlaw04_awake_J ?_; rintro _ _ ⟨rfl, rfl⟩
  simp (disch := omega) only [go_sem, ↓reduceIte, Nat.reduceEqDiff, Nat.reduceAdd, Nat.reduceMul, Nat.reduceSub, Nat.reduceLT, Nat.reduceLeDiff, Nat.reduceBEq, Nat.reduceLeDiff, reduceCtorEq, Int.reduceLT, Int.reduceEq, Int.reduceLE, Int.reduceAdd, Int.reduceSub, Int.reduceToNat, Int.reduceNeg, Int.toNat_natCast, beq_self_eq_true, wrap64, undef, Nat.zero_add, Nat.add_zero, Int.zero_add, Int.add_zero, Int.sub_zero, St.loadN_other, St.cell_other]
  refine wJ_of (F.osierref04_Made_J (hl.ext dotE he0)) ?_; rintro vv S1 ⟨hsv, he1⟩
  simp (disch := omega) only [go_sem, ↓reduceIte, Nat.reduceEqDiff, Nat.reduceAdd, Nat.reduceMul, Nat.reduceSub, Nat.reduceLT, Nat.reduceLeDiff, Nat.reduceBEq, Nat.reduceLeDiff, reduceCtorEq, Int.reduceLT, Int.reduceEq, Int.reduceLE, Int.reduceAdd, Int.reduceSub, Int.reduceToNat, Int.reduceNeg, Int.toNat_natCast, beq_self_eq_true, wrap64, undef, Nat.zero_add, Nat.add_zero, Int.zero_add, Int.add_zero, Int.sub_zero, St.loadN_other, St.cell_other]
  refine wJ_of (F.osierref04_Made_J (hr.ext dotE (he0.trans he1))) ?_; rintro vw S2 ⟨hsw, he2⟩
  replace hsv := hsv.ext dotE he2
  have hxn := St.lt_put_self S x (.cells true 2 [.int .i64 d.1, .int .i64 d.2])
  have e12 := he1.trans he2
  have lx : S2.loadN ⟨x, 0, none⟩ 2 = some [.int .i64 d.1, .int .i64 d.2] := by rw [e12.loadN hxn]; simp (disch := omega) only [go_sem, ↓reduceIte, Nat.reduceEqDiff, Nat.reduceAdd, Nat.reduceMul, Nat.reduceSub, Nat.reduceLT, Nat.reduceLeDiff, Nat.reduceBEq, Nat.reduceLeDiff, reduceCtorEq, Int.reduceLT, Int.reduceEq, Int.reduceLE, Int.reduceAdd, Int.reduceSub, Int.reduceToNat, Int.reduceNeg, Int.toNat_natCast, beq_self_eq_true, wrap64, undef, Nat.zero_add, Nat.add_zero, Int.zero_add, Int.add_zero, Int.sub_zero, St.loadN_other, St.cell_other]
  have hxn2 : x < S2.n := by have := e12.n; omega
  have hv := madeV_is xs
  have hvl := madeV_len xs
  have hw := madeV_is ys
  have hwl := madeV_len ys
  generalize madeV xs = V at hsv hv hvl
  generalize madeV ys = W at hsw hw hwl
  have hjl : (joinV V W).length ≤ _ := eachV_len max V W
  have hml : (meetV V W).length ≤ _ := eachV_len min V W
  simp (disch := omega) only [go_sem, ↓reduceIte, Nat.reduceEqDiff, Nat.reduceAdd, Nat.reduceMul, Nat.reduceSub, Nat.reduceLT, Nat.reduceLeDiff, Nat.reduceBEq, Nat.reduceLeDiff, reduceCtorEq, Int.reduceLT, Int.reduceEq, Int.reduceLE, Int.reduceAdd, Int.reduceSub, Int.reduceToNat, Int.reduceNeg, Int.toNat_natCast, beq_self_eq_true, wrap64, undef, Nat.zero_add, Nat.add_zero, Int.zero_add, Int.add_zero, Int.sub_zero, St.loadN_other, St.cell_other]
  refine wJ_of (F.vector_Join_J hsv hsw hv hw (by omega) (by omega)) ?_; rintro vj S3 ⟨hoj, he3⟩
  simp (disch := omega) only [go_sem, ↓reduceIte, Nat.reduceEqDiff, Nat.reduceAdd, Nat.reduceMul, Nat.reduceSub, Nat.reduceLT, Nat.reduceLeDiff, Nat.reduceBEq, Nat.reduceLeDiff, reduceCtorEq, Int.reduceLT, Int.reduceEq, Int.reduceLE, Int.reduceAdd, Int.reduceSub, Int.reduceToNat, Int.reduceNeg, Int.toNat_natCast, beq_self_eq_true, wrap64, undef, Nat.zero_add, Nat.add_zero, Int.zero_add, Int.add_zero, Int.sub_zero, St.loadN_other, St.cell_other]
  refine wJ_of (F.osierref04_Join_J (meet := false) (hsv.ext dotE he3) (hsw.ext dotE he3) hv hw (by omega) (by omega)) ?_; rintro v4 S4 ⟨ho4, he4⟩
  simp (disch := omega) only [go_sem, ↓reduceIte, Nat.reduceEqDiff, Nat.reduceAdd, Nat.reduceMul, Nat.reduceSub, Nat.reduceLT, Nat.reduceLeDiff, Nat.reduceBEq, Nat.reduceLeDiff, reduceCtorEq, Int.reduceLT, Int.reduceEq, Int.reduceLE, Int.reduceAdd, Int.reduceSub, Int.reduceToNat, Int.reduceNeg, Int.toNat_natCast, beq_self_eq_true, wrap64, undef, Nat.zero_add, Nat.add_zero, Int.zero_add, Int.add_zero, Int.sub_zero, St.loadN_other, St.cell_other]
  rw [show chooseV false = max from rfl] at ho4
  refine wJ_of (F.osierref04_Same_J ((hoj.sl dotE).ext dotE he4) (ho4.sl dotE) (by omega)) ?_; rintro _ _ ⟨rfl, rfl⟩
  have e24 := he3.trans he4
  simp (disch := omega) only [go_sem, ↓reduceIte, Nat.reduceEqDiff, Nat.reduceAdd, Nat.reduceMul, Nat.reduceSub, Nat.reduceLT, Nat.reduceLeDiff, Nat.reduceBEq, Nat.reduceLeDiff, reduceCtorEq, Int.reduceLT, Int.reduceEq, Int.reduceLE, Int.reduceAdd, Int.reduceSub, Int.reduceToNat, Int.reduceNeg, Int.toNat_natCast, beq_self_eq_true, wrap64, undef, Nat.zero_add, Nat.add_zero, Int.zero_add, Int.add_zero, Int.sub_zero, St.loadN_other, St.cell_other]
  refine wJ_of (F.vector_Meet_J (hsv.ext dotE e24) (hsw.ext dotE e24) hv hw (by omega) (by omega)) ?_; rintro v5 S5 ⟨ho5, he5⟩
  have e25 := e24.trans he5
  simp (disch := omega) only [go_sem, ↓reduceIte, Nat.reduceEqDiff, Nat.reduceAdd, Nat.reduceMul, Nat.reduceSub, Nat.reduceLT, Nat.reduceLeDiff, Nat.reduceBEq, Nat.reduceLeDiff, reduceCtorEq, Int.reduceLT, Int.reduceEq, Int.reduceLE, Int.reduceAdd, Int.reduceSub, Int.reduceToNat, Int.reduceNeg, Int.toNat_natCast, beq_self_eq_true, wrap64, undef, Nat.zero_add, Nat.add_zero, Int.zero_add, Int.add_zero, Int.sub_zero, St.loadN_other, St.cell_other]
  refine wJ_of (F.osierref04_Join_J (meet := true) (hsv.ext dotE e25) (hsw.ext dotE e25) hv hw (by omega) (by omega)) ?_; rintro v6 S6 ⟨ho6, he6⟩
  rw [show chooseV true = min from rfl] at ho6
  simp (disch := omega) only [go_sem, ↓reduceIte, Nat.reduceEqDiff, Nat.reduceAdd, Nat.reduceMul, Nat.reduceSub, Nat.reduceLT, Nat.reduceLeDiff, Nat.reduceBEq, Nat.reduceLeDiff, reduceCtorEq, Int.reduceLT, Int.reduceEq, Int.reduceLE, Int.reduceAdd, Int.reduceSub, Int.reduceToNat, Int.reduceNeg, Int.toNat_natCast, beq_self_eq_true, wrap64, undef, Nat.zero_add, Nat.add_zero, Int.zero_add, Int.add_zero, Int.sub_zero, St.loadN_other, St.cell_other]
  refine wJ_of (F.osierref04_Same_J ((ho5.sl dotE).ext dotE he6) (ho6.sl dotE) (by omega)) ?_; rintro _ _ ⟨rfl, rfl⟩
  have e26 := e25.trans he6
  have hwv := withV_len V d
  simp (disch := omega) only [go_sem, ↓reduceIte, Nat.reduceEqDiff, Nat.reduceAdd, Nat.reduceMul, Nat.reduceSub, Nat.reduceLT, Nat.reduceLeDiff, Nat.reduceBEq, Nat.reduceLeDiff, reduceCtorEq, Int.reduceLT, Int.reduceEq, Int.reduceLE, Int.reduceAdd, Int.reduceSub, Int.reduceToNat, Int.reduceNeg, Int.toNat_natCast, beq_self_eq_true, wrap64, undef, Nat.zero_add, Nat.add_zero, Int.zero_add, Int.add_zero, Int.sub_zero, St.loadN_other, St.cell_other, (e26.loadN hxn2 0 2).trans lx]
  refine wJ_of (F.vector_With_J (d := d) (hsv.ext dotE e26) hv (by omega)) ?_; rintro v7 S7 ⟨ho7, he7⟩
  have e27 := e26.trans he7
  simp (disch := omega) only [go_sem, ↓reduceIte, Nat.reduceEqDiff, Nat.reduceAdd, Nat.reduceMul, Nat.reduceSub, Nat.reduceLT, Nat.reduceLeDiff, Nat.reduceBEq, Nat.reduceLeDiff, reduceCtorEq, Int.reduceLT, Int.reduceEq, Int.reduceLE, Int.reduceAdd, Int.reduceSub, Int.reduceToNat, Int.reduceNeg, Int.toNat_natCast, beq_self_eq_true, wrap64, undef, Nat.zero_add, Nat.add_zero, Int.zero_add, Int.add_zero, Int.sub_zero, St.loadN_other, St.cell_other, (e27.loadN hxn2 0 2).trans lx]
  refine wJ_of (F.osierref04_With_J (d := d) (hsv.ext dotE e27) hv (by omega)) ?_; rintro v8 S8 ⟨hs8, he8⟩
  have e28 := e27.trans he8
  simp (disch := omega) only [go_sem, ↓reduceIte, Nat.reduceEqDiff, Nat.reduceAdd, Nat.reduceMul, Nat.reduceSub, Nat.reduceLT, Nat.reduceLeDiff, Nat.reduceBEq, Nat.reduceLeDiff, reduceCtorEq, Int.reduceLT, Int.reduceEq, Int.reduceLE, Int.reduceAdd, Int.reduceSub, Int.reduceToNat, Int.reduceNeg, Int.toNat_natCast, beq_self_eq_true, wrap64, undef, Nat.zero_add, Nat.add_zero, Int.zero_add, Int.add_zero, Int.sub_zero, St.loadN_other, St.cell_other]
  refine wJ_of (F.osierref04_Same_J ((ho7.sl dotE).ext dotE he8) hs8 (by omega)) ?_; rintro _ _ ⟨rfl, rfl⟩
  replace hsv := hsv.ext dotE e28
  replace hsw := hsw.ext dotE e28
  simp (disch := omega) only [go_sem, ↓reduceIte, Nat.reduceEqDiff, Nat.reduceAdd, Nat.reduceMul, Nat.reduceSub, Nat.reduceLT, Nat.reduceLeDiff, Nat.reduceBEq, Nat.reduceLeDiff, reduceCtorEq, Int.reduceLT, Int.reduceEq, Int.reduceLE, Int.reduceAdd, Int.reduceSub, Int.reduceToNat, Int.reduceNeg, Int.toNat_natCast, beq_self_eq_true, wrap64, undef, Nat.zero_add, Nat.add_zero, Int.zero_add, Int.add_zero, Int.sub_zero, St.loadN_other, St.cell_other]
  refine wJ_of (F.vector_Below_J hsv hsw (by omega) (by omega)) ?_; rintro _ _ ⟨rfl, rfl⟩
  simp (disch := omega) only [go_sem, ↓reduceIte, Nat.reduceEqDiff, Nat.reduceAdd, Nat.reduceMul, Nat.reduceSub, Nat.reduceLT, Nat.reduceLeDiff, Nat.reduceBEq, Nat.reduceLeDiff, reduceCtorEq, Int.reduceLT, Int.reduceEq, Int.reduceLE, Int.reduceAdd, Int.reduceSub, Int.reduceToNat, Int.reduceNeg, Int.toNat_natCast, beq_self_eq_true, wrap64, undef, Nat.zero_add, Nat.add_zero, Int.zero_add, Int.add_zero, Int.sub_zero, St.loadN_other, St.cell_other]
  refine wJ_of (F.osierref04_Below_J hsv hsw (by omega) (by omega)) ?_; rintro _ _ ⟨rfl, rfl⟩
  simp (disch := omega) only [go_sem, ↓reduceIte, Nat.reduceEqDiff, Nat.reduceAdd, Nat.reduceMul, Nat.reduceSub, Nat.reduceLT, Nat.reduceLeDiff, Nat.reduceBEq, Nat.reduceLeDiff, reduceCtorEq, Int.reduceLT, Int.reduceEq, Int.reduceLE, Int.reduceAdd, Int.reduceSub, Int.reduceToNat, Int.reduceNeg, Int.toNat_natCast, beq_self_eq_true, wrap64, undef, Nat.zero_add, Nat.add_zero, Int.zero_add, Int.add_zero, Int.sub_zero, St.loadN_other, St.cell_other]
  refine wJ_of (F.vector_Same_J hsv hsw (by omega)) ?_; rintro _ _ ⟨rfl, rfl⟩
  simp (disch := omega) only [go_sem, ↓reduceIte, Nat.reduceEqDiff, Nat.reduceAdd, Nat.reduceMul, Nat.reduceSub, Nat.reduceLT, Nat.reduceLeDiff, Nat.reduceBEq, Nat.reduceLeDiff, reduceCtorEq, Int.reduceLT, Int.reduceEq, Int.reduceLE, Int.reduceAdd, Int.reduceSub, Int.reduceToNat, Int.reduceNeg, Int.toNat_natCast, beq_self_eq_true, wrap64, undef, Nat.zero_add, Nat.add_zero, Int.zero_add, Int.add_zero, Int.sub_zero, St.loadN_other, St.cell_other]
  refine wJ_of (F.osierref04_Same_J hsv hsw (by omega)) ?_; rintro _ _ ⟨rfl, rfl⟩
  simp (disch := omega) only [go_sem, ↓reduceIte, Nat.reduceEqDiff, Nat.reduceAdd, Nat.reduceMul, Nat.reduceSub, Nat.reduceLT, Nat.reduceLeDiff, Nat.reduceBEq, Nat.reduceLeDiff, reduceCtorEq, Int.reduceLT, Int.reduceEq, Int.reduceLE, Int.reduceAdd, Int.reduceSub, Int.reduceToNat, Int.reduceNeg, Int.toNat_natCast, beq_self_eq_true, wrap64, undef, Nat.zero_add, Nat.add_zero, Int.zero_add, Int.add_zero, Int.sub_zero, St.loadN_other, St.cell_other]
  refine wcond_dec (fun h => ?_) (fun h => ?_)
  · simp (disch := omega) only [go_sem, ↓reduceIte, Nat.reduceEqDiff, Nat.reduceAdd, Nat.reduceMul, Nat.reduceSub, Nat.reduceLT, Nat.reduceLeDiff, Nat.reduceBEq, Nat.reduceLeDiff, reduceCtorEq, Int.reduceLT, Int.reduceEq, Int.reduceLE, Int.reduceAdd, Int.reduceSub, Int.reduceToNat, Int.reduceNeg, Int.toNat_natCast, beq_self_eq_true, wrap64, undef, Nat.zero_add, Nat.add_zero, Int.zero_add, Int.add_zero, Int.sub_zero, St.loadN_other, St.cell_other]
    refine wJ_of (F.vector_Missing_J (most := 1000) hsv hsw hv hw (by omega) (by omega) (by omega)) ?_; rintro v9 S9 ⟨ho9, he9⟩
    simp (disch := omega) only [go_sem, ↓reduceIte, Nat.reduceEqDiff, Nat.reduceAdd, Nat.reduceMul, Nat.reduceSub, Nat.reduceLT, Nat.reduceLeDiff, Nat.reduceBEq, Nat.reduceLeDiff, reduceCtorEq, Int.reduceLT, Int.reduceEq, Int.reduceLE, Int.reduceAdd, Int.reduceSub, Int.reduceToNat, Int.reduceNeg, Int.toNat_natCast, beq_self_eq_true, wrap64, undef, Nat.zero_add, Nat.add_zero, Int.zero_add, Int.add_zero, Int.sub_zero, St.loadN_other, St.cell_other]
    refine wJ_of (F.osierref04_Missing_J (most := 1000) (hsv.ext dotE he9) (hsw.ext dotE he9) hv hw (by omega) (by omega) (by omega)) ?_; rintro vA SA ⟨hoA, heA⟩
    simp (disch := omega) only [go_sem, ↓reduceIte, Nat.reduceEqDiff, Nat.reduceAdd, Nat.reduceMul, Nat.reduceSub, Nat.reduceLT, Nat.reduceLeDiff, Nat.reduceBEq, Nat.reduceLeDiff, reduceCtorEq, Int.reduceLT, Int.reduceEq, Int.reduceLE, Int.reduceAdd, Int.reduceSub, Int.reduceToNat, Int.reduceNeg, Int.toNat_natCast, beq_self_eq_true, wrap64, undef, Nat.zero_add, Nat.add_zero, Int.zero_add, Int.add_zero, Int.sub_zero, St.loadN_other, St.cell_other]
    refine wJ_of (F.osierref03_Same.J ((ho9.sl dotE).ext dotE heA) (hoA.sl dotE) (by simp only [List.length_take]; omega)) ?_; rintro _ _ ⟨rfl, rfl⟩
    simp (disch := omega) only [go_sem, ↓reduceIte, Nat.reduceEqDiff, Nat.reduceAdd, Nat.reduceMul, Nat.reduceSub, Nat.reduceLT, Nat.reduceLeDiff, Nat.reduceBEq, Nat.reduceLeDiff, reduceCtorEq, Int.reduceLT, Int.reduceEq, Int.reduceLE, Int.reduceAdd, Int.reduceSub, Int.reduceToNat, Int.reduceNeg, Int.toNat_natCast, beq_self_eq_true, wrap64, undef, Nat.zero_add, Nat.add_zero, Int.zero_add, Int.add_zero, Int.sub_zero, St.loadN_other, St.cell_other]
  · simp (disch := omega) only [go_sem, ↓reduceIte, Nat.reduceEqDiff, Nat.reduceAdd, Nat.reduceMul, Nat.reduceSub, Nat.reduceLT, Nat.reduceLeDiff, Nat.reduceBEq, Nat.reduceLeDiff, reduceCtorEq, Int.reduceLT, Int.reduceEq, Int.reduceLE, Int.reduceAdd, Int.reduceSub, Int.reduceToNat, Int.reduceNeg, Int.toNat_natCast, beq_self_eq_true, wrap64, undef, Nat.zero_add, Nat.add_zero, Int.zero_add, Int.add_zero, Int.sub_zero, St.loadN_other, St.cell_other]
    refine wJ_of (F.vector_Missing_J (most := most) hsv hsw hv hw (by omega) (by omega) (by omega)) ?_; rintro v9 S9 ⟨ho9, he9⟩
    simp (disch := omega) only [go_sem, ↓reduceIte, Nat.reduceEqDiff, Nat.reduceAdd, Nat.reduceMul, Nat.reduceSub, Nat.reduceLT, Nat.reduceLeDiff, Nat.reduceBEq, Nat.reduceLeDiff, reduceCtorEq, Int.reduceLT, Int.reduceEq, Int.reduceLE, Int.reduceAdd, Int.reduceSub, Int.reduceToNat, Int.reduceNeg, Int.toNat_natCast, beq_self_eq_true, wrap64, undef, Nat.zero_add, Nat.add_zero, Int.zero_add, Int.add_zero, Int.sub_zero, St.loadN_other, St.cell_other]
    refine wJ_of (F.osierref04_Missing_J (most := most) (hsv.ext dotE he9) (hsw.ext dotE he9) hv hw (by omega) (by omega) (by omega)) ?_; rintro vA SA ⟨hoA, heA⟩
    simp (disch := omega) only [go_sem, ↓reduceIte, Nat.reduceEqDiff, Nat.reduceAdd, Nat.reduceMul, Nat.reduceSub, Nat.reduceLT, Nat.reduceLeDiff, Nat.reduceBEq, Nat.reduceLeDiff, reduceCtorEq, Int.reduceLT, Int.reduceEq, Int.reduceLE, Int.reduceAdd, Int.reduceSub, Int.reduceToNat, Int.reduceNeg, Int.toNat_natCast, beq_self_eq_true, wrap64, undef, Nat.zero_add, Nat.add_zero, Int.zero_add, Int.add_zero, Int.sub_zero, St.loadN_other, St.cell_other]
    refine wJ_of (F.osierref03_Same.J ((ho9.sl dotE).ext dotE heA) (hoA.sl dotE) (by simp only [List.length_take]; omega)) ?_; rintro _ _ ⟨rfl, rfl⟩
    simp (disch := omega) only [go_sem, ↓reduceIte, Nat.reduceEqDiff, Nat.reduceAdd, Nat.reduceMul, Nat.reduceSub, Nat.reduceLT, Nat.reduceLeDiff, Nat.reduceBEq, Nat.reduceLeDiff, reduceCtorEq, Int.reduceLT, Int.reduceEq, Int.reduceLE, Int.reduceAdd, Int.reduceSub, Int.reduceToNat, Int.reduceNeg, Int.toNat_natCast, beq_self_eq_true, wrap64, undef, Nat.zero_add, Nat.add_zero, Int.zero_add, Int.add_zero, Int.sub_zero, St.loadN_other, St.cell_other]
theorem F.osierlaw04_VectorWith.J {S : St} {r : Value} {xs : List Dot} {d e : Dot} (hr : SlT dotE S r xs) (hd : -9223372036854775808 ≤ d.2 ∧ d.2 ≤ 9223372036854775807) : J PR F.osierlaw04_VectorWith [r, dotV d, dotV e] S fun v _ => v = .bool true := by
  refine J_by PR.mixed F.osierlaw04_VectorWith.ok (by simp) ?_
  simp (disch := omega) only [go_sem, ↓reduceIte, Nat.reduceEqDiff, Nat.reduceAdd, Nat.reduceMul, Nat.reduceSub, Nat.reduceLT, Nat.reduceLeDiff, Nat.reduceBEq, Nat.reduceLeDiff, reduceCtorEq, Int.reduceLT, Int.reduceEq, Int.reduceLE, Int.reduceAdd, Int.reduceSub, Int.reduceToNat, Int.reduceNeg, Int.toNat_natCast, beq_self_eq_true, wrap64, undef, Nat.zero_add, Nat.add_zero, Int.zero_add, Int.add_zero, Int.sub_zero, St.loadN_other, St.cell_other]
  refine wfresh_of fun x hx => ?_
  simp (disch := omega) only [go_sem, ↓reduceIte, Nat.reduceEqDiff, Nat.reduceAdd, Nat.reduceMul, Nat.reduceSub, Nat.reduceLT, Nat.reduceLeDiff, Nat.reduceBEq, Nat.reduceLeDiff, reduceCtorEq, Int.reduceLT, Int.reduceEq, Int.reduceLE, Int.reduceAdd, Int.reduceSub, Int.reduceToNat, Int.reduceNeg, Int.toNat_natCast, beq_self_eq_true, wrap64, undef, Nat.zero_add, Nat.add_zero, Int.zero_add, Int.add_zero, Int.sub_zero, St.loadN_other, St.cell_other]
  refine wfresh_of fun y hy => ?_
  simp (disch := omega) only [go_sem, ↓reduceIte, Nat.reduceEqDiff, Nat.reduceAdd, Nat.reduceMul, Nat.reduceSub, Nat.reduceLT, Nat.reduceLeDiff, Nat.reduceBEq, Nat.reduceLeDiff, reduceCtorEq, Int.reduceLT, Int.reduceEq, Int.reduceLE, Int.reduceAdd, Int.reduceSub, Int.reduceToNat, Int.reduceNeg, Int.toNat_natCast, beq_self_eq_true, wrap64, undef, Nat.zero_add, Nat.add_zero, Int.zero_add, Int.add_zero, Int.sub_zero, St.loadN_other, St.cell_other]
  have he0 := ((St.Ext.refl S).put hx (.cells true 2 [.int .i64 d.1, .int .i64 d.2])).put (by rw [St.put_n]; exact hy) (.cells true 2 [.int .i64 e.1, .int .i64 e.2])
  refine wJ_of F.osierlaw04_awake_J ?_; rintro _ _ ⟨rfl, rfl⟩
  simp (disch := omega) only [go_sem, ↓reduceIte, Nat.reduceEqDiff, Nat.reduceAdd, Nat.reduceMul, Nat.reduceSub, Nat.reduceLT, Nat.reduceLeDiff, Nat.reduceBEq, Nat.reduceLeDiff, reduceCtorEq, Int.reduceLT, Int.reduceEq, Int.reduceLE, Int.reduceAdd, Int.reduceSub, Int.reduceToNat, Int.reduceNeg, Int.toNat_natCast, beq_self_eq_true, wrap64, undef, Nat.zero_add, Nat.add_zero, Int.zero_add, Int.add_zero, Int.sub_zero, St.loadN_other, St.cell_other]
  refine wJ_of (F.osierref04_Made_J (hr.ext dotE he0)) ?_; rintro vv S1 ⟨hsv, he1⟩
  have hv := madeV_is xs
  have hvl := madeV_len xs
  generalize madeV xs = V at hsv hv hvl
  have hn1 := he1.n
  simp only [St.put_n] at hn1
  have lx : S1.loadN ⟨x, 0, none⟩ 2 = some [.int .i64 d.1, .int .i64 d.2] := by rw [he1.loadN (by simp only [St.put_n]; omega)]; simp (disch := omega) only [go_sem, ↓reduceIte, Nat.reduceEqDiff, Nat.reduceAdd, Nat.reduceMul, Nat.reduceSub, Nat.reduceLT, Nat.reduceLeDiff, Nat.reduceBEq, Nat.reduceLeDiff, reduceCtorEq, Int.reduceLT, Int.reduceEq, Int.reduceLE, Int.reduceAdd, Int.reduceSub, Int.reduceToNat, Int.reduceNeg, Int.toNat_natCast, beq_self_eq_true, wrap64, undef, Nat.zero_add, Nat.add_zero, Int.zero_add, Int.add_zero, Int.sub_zero, St.loadN_other, St.cell_other]
  have ly : S1.loadN ⟨y, 0, none⟩ 2 = some [.int .i64 e.1, .int .i64 e.2] := by rw [he1.loadN (by simp only [St.put_n]; omega)]; simp (disch := omega) only [go_sem, ↓reduceIte, Nat.reduceEqDiff, Nat.reduceAdd, Nat.reduceMul, Nat.reduceSub, Nat.reduceLT, Nat.reduceLeDiff, Nat.reduceBEq, Nat.reduceLeDiff, reduceCtorEq, Int.reduceLT, Int.reduceEq, Int.reduceLE, Int.reduceAdd, Int.reduceSub, Int.reduceToNat, Int.reduceNeg, Int.toNat_natCast, beq_self_eq_true, wrap64, undef, Nat.zero_add, Nat.add_zero, Int.zero_add, Int.add_zero, Int.sub_zero, St.loadN_other, St.cell_other]
  simp (disch := omega) only [go_sem, ↓reduceIte, Nat.reduceEqDiff, Nat.reduceAdd, Nat.reduceMul, Nat.reduceSub, Nat.reduceLT, Nat.reduceLeDiff, Nat.reduceBEq, Nat.reduceLeDiff, reduceCtorEq, Int.reduceLT, Int.reduceEq, Int.reduceLE, Int.reduceAdd, Int.reduceSub, Int.reduceToNat, Int.reduceNeg, Int.toNat_natCast, beq_self_eq_true, wrap64, undef, Nat.zero_add, Nat.add_zero, Int.zero_add, Int.add_zero, Int.sub_zero, St.loadN_other, St.cell_other, lx]
  have hwl := withV_len V d
  refine wJ_of (F.vector_With_J (d := d) hsv hv (by omega)) ?_; rintro vw S2 ⟨how, he2⟩
  have lx2 := (he2.loadN (show x < S1.n by omega) 0 2).trans lx
  have ly2 := (he2.loadN (show y < S1.n by omega) 0 2).trans ly
  replace hsv := hsv.ext dotE he2
  have hsw := how.sl dotE
  have hn2 := he2.n
  simp (disch := omega) only [go_sem, ↓reduceIte, Nat.reduceEqDiff, Nat.reduceAdd, Nat.reduceMul, Nat.reduceSub, Nat.reduceLT, Nat.reduceLeDiff, Nat.reduceBEq, Nat.reduceLeDiff, reduceCtorEq, Int.reduceLT, Int.reduceEq, Int.reduceLE, Int.reduceAdd, Int.reduceSub, Int.reduceToNat, Int.reduceNeg, Int.toNat_natCast, beq_self_eq_true, wrap64, undef, Nat.zero_add, Nat.add_zero, Int.zero_add, Int.add_zero, Int.sub_zero, St.loadN_other, St.cell_other, lx2]
  refine wJ_of F.osierref03_May_P ?_; rintro _ _ ⟨rfl, rfl⟩
  by_cases hm : mayP d
  rotate_left
  · have : withV V d = V := by rw [withV, if_neg hm]
    rw [this] at hsw
    simp (disch := omega) only [go_sem, ↓reduceIte, Nat.reduceEqDiff, Nat.reduceAdd, Nat.reduceMul, Nat.reduceSub, Nat.reduceLT, Nat.reduceLeDiff, Nat.reduceBEq, Nat.reduceLeDiff, reduceCtorEq, Int.reduceLT, Int.reduceEq, Int.reduceLE, Int.reduceAdd, Int.reduceSub, Int.reduceToNat, Int.reduceNeg, Int.toNat_natCast, beq_self_eq_true, wrap64, undef, Nat.zero_add, Nat.add_zero, Int.zero_add, Int.add_zero, Int.sub_zero, St.loadN_other, St.cell_other, hm]
    refine wJ_of (F.vector_Same_J hsv hsw (by omega)) ?_; rintro _ _ ⟨rfl, rfl⟩
    simp (disch := omega) only [go_sem, ↓reduceIte, Nat.reduceEqDiff, Nat.reduceAdd, Nat.reduceMul, Nat.reduceSub, Nat.reduceLT, Nat.reduceLeDiff, Nat.reduceBEq, Nat.reduceLeDiff, reduceCtorEq, Int.reduceLT, Int.reduceEq, Int.reduceLE, Int.reduceAdd, Int.reduceSub, Int.reduceToNat, Int.reduceNeg, Int.toNat_natCast, beq_self_eq_true, wrap64, undef, Nat.zero_add, Nat.add_zero, Int.zero_add, Int.add_zero, Int.sub_zero, St.loadN_other, St.cell_other]
  have hm' := hm
  unfold mayP at hm'
  have hw := withV_is hv d
  have hg := fun a => getV_with hv hm a
  have cx0 := St.cell_sub lx2 (k := 0) (by decide)
  have cx1 := St.cell_sub lx2 (k := 1) (by decide)
  have cy0 := St.cell_sub ly2 (k := 0) (by decide)
  simp only [Nat.add_zero, Nat.zero_add, List.getElem?_cons_zero, List.getElem?_cons_succ] at cx0 cx1 cy0
  have hr0 := getV_range hv d.1
  simp (disch := omega) only [go_sem, ↓reduceIte, Nat.reduceEqDiff, Nat.reduceAdd, Nat.reduceMul, Nat.reduceSub, Nat.reduceLT, Nat.reduceLeDiff, Nat.reduceBEq, Nat.reduceLeDiff, reduceCtorEq, Int.reduceLT, Int.reduceEq, Int.reduceLE, Int.reduceAdd, Int.reduceSub, Int.reduceToNat, Int.reduceNeg, Int.toNat_natCast, beq_self_eq_true, wrap64, undef, Nat.zero_add, Nat.add_zero, Int.zero_add, Int.add_zero, Int.sub_zero, St.loadN_other, St.cell_other, hm, lx2]
  refine wfresh_of fun p hp => ?_
  have nx : x ≠ p := by omega
  have hq : IntKind.i64.wrap ((d.2 - 1).tdiv 2) = (d.2 - 1) / 2 := by
    rw [Int.tdiv_eq_ediv_of_nonneg (by omega)]
    exact wrap64 (by omega) (by omega)
  simp (disch := omega) only [go_sem, ↓reduceIte, Nat.reduceEqDiff, Nat.reduceAdd, Nat.reduceMul, Nat.reduceSub, Nat.reduceLT, Nat.reduceLeDiff, Nat.reduceBEq, Nat.reduceLeDiff, reduceCtorEq, Int.reduceLT, Int.reduceEq, Int.reduceLE, Int.reduceAdd, Int.reduceSub, Int.reduceToNat, Int.reduceNeg, Int.toNat_natCast, beq_self_eq_true, wrap64, undef, Nat.zero_add, Nat.add_zero, Int.zero_add, Int.add_zero, Int.sub_zero, St.loadN_other, St.cell_other, lx2, cx1, hq]
  refine wfresh_of fun q hq => ?_
  have ny : x ≠ q := by omega
  simp (disch := omega) only [go_sem, ↓reduceIte, Nat.reduceEqDiff, Nat.reduceAdd, Nat.reduceMul, Nat.reduceSub, Nat.reduceLT, Nat.reduceLeDiff, Nat.reduceBEq, Nat.reduceLeDiff, reduceCtorEq, Int.reduceLT, Int.reduceEq, Int.reduceLE, Int.reduceAdd, Int.reduceSub, Int.reduceToNat, Int.reduceNeg, Int.toNat_natCast, beq_self_eq_true, wrap64, undef, Nat.zero_add, Nat.add_zero, Int.zero_add, Int.add_zero, Int.sub_zero, St.loadN_other, St.cell_other, lx2, cx1]
  -- the three that are asked about
  have e2 := (St.Ext.refl S2).put hp (.cells true 2 [.int .i64 d.1, .int .i64 (1 + (d.2 - 1) / 2)])
  have e3 := e2.put hq (.cells true 2 [.int .i64 d.1, .int .i64 (d.2 + 1)])
  have lp : ((S2.put p (.cells true 2 [.int .i64 d.1, .int .i64 (1 + (d.2 - 1) / 2)])).put q (.cells true 2 [.int .i64 d.1, .int .i64 (d.2 + 1)])).loadN ⟨p, 0, none⟩ 2 = some [.int .i64 d.1, .int .i64 (1 + (d.2 - 1) / 2)] := by simp (disch := omega) only [go_sem, ↓reduceIte, Nat.reduceEqDiff, Nat.reduceAdd, Nat.reduceMul, Nat.reduceSub, Nat.reduceLT, Nat.reduceLeDiff, Nat.reduceBEq, Nat.reduceLeDiff, reduceCtorEq, Int.reduceLT, Int.reduceEq, Int.reduceLE, Int.reduceAdd, Int.reduceSub, Int.reduceToNat, Int.reduceNeg, Int.toNat_natCast, beq_self_eq_true, wrap64, undef, Nat.zero_add, Nat.add_zero, Int.zero_add, Int.add_zero, Int.sub_zero, St.loadN_other, St.cell_other]
  have lq : ((S2.put p (.cells true 2 [.int .i64 d.1, .int .i64 (1 + (d.2 - 1) / 2)])).put q (.cells true 2 [.int .i64 d.1, .int .i64 (d.2 + 1)])).loadN ⟨q, 0, none⟩ 2 = some [.int .i64 d.1, .int .i64 (d.2 + 1)] := by simp (disch := omega) only [go_sem, ↓reduceIte, Nat.reduceEqDiff, Nat.reduceAdd, Nat.reduceMul, Nat.reduceSub, Nat.reduceLT, Nat.reduceLeDiff, Nat.reduceBEq, Nat.reduceLeDiff, reduceCtorEq, Int.reduceLT, Int.reduceEq, Int.reduceLE, Int.reduceAdd, Int.reduceSub, Int.reduceToNat, Int.reduceNeg, Int.toNat_natCast, beq_self_eq_true, wrap64, undef, Nat.zero_add, Nat.add_zero, Int.zero_add, Int.add_zero, Int.sub_zero, St.loadN_other, St.cell_other]
  replace lx2 := (e3.loadN (show x < S2.n by omega) 0 2).trans lx2
  replace ly2 := (e3.loadN (show y < S2.n by omega) 0 2).trans ly2
  replace cx0 := (e3.cell (show x < S2.n by omega) 0).trans cx0
  have cy1 := (e3.cell (show y < S2.n by omega) 0).trans cy0
  replace hsv := hsv.ext dotE e3
  replace hsw := hsw.ext dotE e3
  generalize (S2.put p (.cells true 2 [.int .i64 d.1, .int .i64 (1 + (d.2 - 1) / 2)])).put q (.cells true 2 [.int .i64 d.1, .int .i64 (d.2 + 1)]) = S3 at *
  -- what is there
  have f1 : hasP (withV V d) d := (hasP_iff hw).2 ⟨by omega, by rw [hg, if_pos rfl]; omega⟩
  have f2 : hasP (withV V d) (d.1, 1 + (d.2 - 1) / 2) := (hasP_iff hw).2 ⟨by simp only; omega, by simp only; rw [hg, if_pos rfl]; omega⟩
  have f3 : belowP V (withV V d) := (belowP_iff hv hw).2 fun a => by rw [hg]; split <;> omega
  have f4 : hasP (withV V d) (d.1, d.2 + 1) ↔ hasP V (d.1, d.2 + 1) := by rw [hasP_iff hw, hasP_iff hv]; simp only; rw [hg, if_pos rfl]; omega
  have f5 : withV (withV V d) d = withV V d := isV_ext (withV_is hw d) hw fun a => by rw [getV_with hw hm, hg]; split <;> omega
  have hwl2 := withV_len (withV V d) d
  by_cases ha : e.1 = d.1
  · simp (disch := omega) only [go_sem, ↓reduceIte, Nat.reduceEqDiff, Nat.reduceAdd, Nat.reduceMul, Nat.reduceSub, Nat.reduceLT, Nat.reduceLeDiff, Nat.reduceBEq, Nat.reduceLeDiff, reduceCtorEq, Int.reduceLT, Int.reduceEq, Int.reduceLE, Int.reduceAdd, Int.reduceSub, Int.reduceToNat, Int.reduceNeg, Int.toNat_natCast, beq_self_eq_true, wrap64, undef, Nat.zero_add, Nat.add_zero, Int.zero_add, Int.add_zero, Int.sub_zero, St.loadN_other, St.cell_other, lx2, lp, lq, cx0, cy0, cy1, ha]
    refine wJ_of (F.vector_May_J hsw (by omega)) ?_; rintro _ _ ⟨rfl, rfl⟩
    simp (disch := omega) only [go_sem, ↓reduceIte, Nat.reduceEqDiff, Nat.reduceAdd, Nat.reduceMul, Nat.reduceSub, Nat.reduceLT, Nat.reduceLeDiff, Nat.reduceBEq, Nat.reduceLeDiff, reduceCtorEq, Int.reduceLT, Int.reduceEq, Int.reduceLE, Int.reduceAdd, Int.reduceSub, Int.reduceToNat, Int.reduceNeg, Int.toNat_natCast, beq_self_eq_true, wrap64, undef, Nat.zero_add, Nat.add_zero, Int.zero_add, Int.add_zero, Int.sub_zero, St.loadN_other, St.cell_other, hw, lx2, lp, lq]
    refine wJ_of (F.vector_Has_J (d := d) hsw (by omega)) ?_; rintro _ _ ⟨rfl, rfl⟩
    simp (disch := omega) only [go_sem, ↓reduceIte, Nat.reduceEqDiff, Nat.reduceAdd, Nat.reduceMul, Nat.reduceSub, Nat.reduceLT, Nat.reduceLeDiff, Nat.reduceBEq, Nat.reduceLeDiff, reduceCtorEq, Int.reduceLT, Int.reduceEq, Int.reduceLE, Int.reduceAdd, Int.reduceSub, Int.reduceToNat, Int.reduceNeg, Int.toNat_natCast, beq_self_eq_true, wrap64, undef, Nat.zero_add, Nat.add_zero, Int.zero_add, Int.add_zero, Int.sub_zero, St.loadN_other, St.cell_other, f1, lx2, lp, lq]
    refine wJ_of (F.vector_Has_J (d := (d.1, 1 + (d.2 - 1) / 2)) hsw (by omega)) ?_; rintro _ _ ⟨rfl, rfl⟩
    simp (disch := omega) only [go_sem, ↓reduceIte, Nat.reduceEqDiff, Nat.reduceAdd, Nat.reduceMul, Nat.reduceSub, Nat.reduceLT, Nat.reduceLeDiff, Nat.reduceBEq, Nat.reduceLeDiff, reduceCtorEq, Int.reduceLT, Int.reduceEq, Int.reduceLE, Int.reduceAdd, Int.reduceSub, Int.reduceToNat, Int.reduceNeg, Int.toNat_natCast, beq_self_eq_true, wrap64, undef, Nat.zero_add, Nat.add_zero, Int.zero_add, Int.add_zero, Int.sub_zero, St.loadN_other, St.cell_other, f2, lx2, lp, lq]
    refine wJ_of (F.vector_Below_J hsv hsw (by omega) (by omega)) ?_; rintro _ _ ⟨rfl, rfl⟩
    simp (disch := omega) only [go_sem, ↓reduceIte, Nat.reduceEqDiff, Nat.reduceAdd, Nat.reduceMul, Nat.reduceSub, Nat.reduceLT, Nat.reduceLeDiff, Nat.reduceBEq, Nat.reduceLeDiff, reduceCtorEq, Int.reduceLT, Int.reduceEq, Int.reduceLE, Int.reduceAdd, Int.reduceSub, Int.reduceToNat, Int.reduceNeg, Int.toNat_natCast, beq_self_eq_true, wrap64, undef, Nat.zero_add, Nat.add_zero, Int.zero_add, Int.add_zero, Int.sub_zero, St.loadN_other, St.cell_other, f3, lx2, lp, lq]
    refine wJ_of (F.vector_Has_J (d := (d.1, d.2 + 1)) hsw (by omega)) ?_; rintro _ _ ⟨rfl, rfl⟩
    simp (disch := omega) only [go_sem, ↓reduceIte, Nat.reduceEqDiff, Nat.reduceAdd, Nat.reduceMul, Nat.reduceSub, Nat.reduceLT, Nat.reduceLeDiff, Nat.reduceBEq, Nat.reduceLeDiff, reduceCtorEq, Int.reduceLT, Int.reduceEq, Int.reduceLE, Int.reduceAdd, Int.reduceSub, Int.reduceToNat, Int.reduceNeg, Int.toNat_natCast, beq_self_eq_true, wrap64, undef, Nat.zero_add, Nat.add_zero, Int.zero_add, Int.add_zero, Int.sub_zero, St.loadN_other, St.cell_other, f4, lx2, lp, lq]
    refine wJ_of (F.vector_Has_J (d := (d.1, d.2 + 1)) hsv (by omega)) ?_; rintro _ _ ⟨rfl, rfl⟩
    try simp (disch := omega) only [go_sem, ↓reduceIte, Nat.reduceEqDiff, Nat.reduceAdd, Nat.reduceMul, Nat.reduceSub, Nat.reduceLT, Nat.reduceLeDiff, Nat.reduceBEq, Nat.reduceLeDiff, reduceCtorEq, Int.reduceLT, Int.reduceEq, Int.reduceLE, Int.reduceAdd, Int.reduceSub, Int.reduceToNat, Int.reduceNeg, Int.toNat_natCast, beq_self_eq_true, wrap64, undef, Nat.zero_add, Nat.add_zero, Int.zero_add, Int.add_zero, Int.sub_zero, St.loadN_other, St.cell_other, lx2, lp, lq]
    refine wJ_of (F.vector_With_J (d := d) hsw hw (by omega)) ?_; rintro v9 S9 ⟨ho9, he9⟩
    simp (disch := omega) only [go_sem, ↓reduceIte, Nat.reduceEqDiff, Nat.reduceAdd, Nat.reduceMul, Nat.reduceSub, Nat.reduceLT, Nat.reduceLeDiff, Nat.reduceBEq, Nat.reduceLeDiff, reduceCtorEq, Int.reduceLT, Int.reduceEq, Int.reduceLE, Int.reduceAdd, Int.reduceSub, Int.reduceToNat, Int.reduceNeg, Int.toNat_natCast, beq_self_eq_true, wrap64, undef, Nat.zero_add, Nat.add_zero, Int.zero_add, Int.add_zero, Int.sub_zero, St.loadN_other, St.cell_other]
    refine wJ_of (F.vector_Same_J (ho9.sl dotE) (hsw.ext dotE he9) (by omega)) ?_; rintro _ _ ⟨rfl, rfl⟩
    simp (disch := omega) only [go_sem, ↓reduceIte, Nat.reduceEqDiff, Nat.reduceAdd, Nat.reduceMul, Nat.reduceSub, Nat.reduceLT, Nat.reduceLeDiff, Nat.reduceBEq, Nat.reduceLeDiff, reduceCtorEq, Int.reduceLT, Int.reduceEq, Int.reduceLE, Int.reduceAdd, Int.reduceSub, Int.reduceToNat, Int.reduceNeg, Int.toNat_natCast, beq_self_eq_true, wrap64, undef, Nat.zero_add, Nat.add_zero, Int.zero_add, Int.add_zero, Int.sub_zero, St.loadN_other, St.cell_other, f5]
  · have f6 : hasP (withV V d) e ↔ hasP V e := by rw [hasP_iff hw, hasP_iff hv, hg, if_neg (fun h => ha h.symm)]
    simp (disch := omega) only [go_sem, ↓reduceIte, Nat.reduceEqDiff, Nat.reduceAdd, Nat.reduceMul, Nat.reduceSub, Nat.reduceLT, Nat.reduceLeDiff, Nat.reduceBEq, Nat.reduceLeDiff, reduceCtorEq, Int.reduceLT, Int.reduceEq, Int.reduceLE, Int.reduceAdd, Int.reduceSub, Int.reduceToNat, Int.reduceNeg, Int.toNat_natCast, beq_self_eq_true, wrap64, undef, Nat.zero_add, Nat.add_zero, Int.zero_add, Int.add_zero, Int.sub_zero, St.loadN_other, St.cell_other, lx2, ly2, lp, lq, cx0, cy0, cy1, ha]
    refine wJ_of (F.vector_Has_J (d := e) hsw (by omega)) ?_; rintro _ _ ⟨rfl, rfl⟩
    simp (disch := omega) only [go_sem, ↓reduceIte, Nat.reduceEqDiff, Nat.reduceAdd, Nat.reduceMul, Nat.reduceSub, Nat.reduceLT, Nat.reduceLeDiff, Nat.reduceBEq, Nat.reduceLeDiff, reduceCtorEq, Int.reduceLT, Int.reduceEq, Int.reduceLE, Int.reduceAdd, Int.reduceSub, Int.reduceToNat, Int.reduceNeg, Int.toNat_natCast, beq_self_eq_true, wrap64, undef, Nat.zero_add, Nat.add_zero, Int.zero_add, Int.add_zero, Int.sub_zero, St.loadN_other, St.cell_other, ly2, f6]
    refine wJ_of (F.vector_Has_J (d := e) hsv (by omega)) ?_; rintro _ _ ⟨rfl, rfl⟩
    simp (disch := omega) only [go_sem, ↓reduceIte, Nat.reduceEqDiff, Nat.reduceAdd, Nat.reduceMul, Nat.reduceSub, Nat.reduceLT, Nat.reduceLeDiff, Nat.reduceBEq, Nat.reduceLeDiff, reduceCtorEq, Int.reduceLT, Int.reduceEq, Int.reduceLE, Int.reduceAdd, Int.reduceSub, Int.reduceToNat, Int.reduceNeg, Int.toNat_natCast, beq_self_eq_true, wrap64, undef, Nat.zero_add, Nat.add_zero, Int.zero_add, Int.add_zero, Int.sub_zero, St.loadN_other, St.cell_other, lx2, lp, lq]
    refine wJ_of (F.vector_May_J hsw (by omega)) ?_; rintro _ _ ⟨rfl, rfl⟩
    simp (disch := omega) only [go_sem, ↓reduceIte, Nat.reduceEqDiff, Nat.reduceAdd, Nat.reduceMul, Nat.reduceSub, Nat.reduceLT, Nat.reduceLeDiff, Nat.reduceBEq, Nat.reduceLeDiff, reduceCtorEq, Int.reduceLT, Int.reduceEq, Int.reduceLE, Int.reduceAdd, Int.reduceSub, Int.reduceToNat, Int.reduceNeg, Int.toNat_natCast, beq_self_eq_true, wrap64, undef, Nat.zero_add, Nat.add_zero, Int.zero_add, Int.add_zero, Int.sub_zero, St.loadN_other, St.cell_other, hw, lx2, lp, lq]
    refine wJ_of (F.vector_Has_J (d := d) hsw (by omega)) ?_; rintro _ _ ⟨rfl, rfl⟩
    simp (disch := omega) only [go_sem, ↓reduceIte, Nat.reduceEqDiff, Nat.reduceAdd, Nat.reduceMul, Nat.reduceSub, Nat.reduceLT, Nat.reduceLeDiff, Nat.reduceBEq, Nat.reduceLeDiff, reduceCtorEq, Int.reduceLT, Int.reduceEq, Int.reduceLE, Int.reduceAdd, Int.reduceSub, Int.reduceToNat, Int.reduceNeg, Int.toNat_natCast, beq_self_eq_true, wrap64, undef, Nat.zero_add, Nat.add_zero, Int.zero_add, Int.add_zero, Int.sub_zero, St.loadN_other, St.cell_other, f1, lx2, lp, lq]
    refine wJ_of (F.vector_Has_J (d := (d.1, 1 + (d.2 - 1) / 2)) hsw (by omega)) ?_; rintro _ _ ⟨rfl, rfl⟩
    simp (disch := omega) only [go_sem, ↓reduceIte, Nat.reduceEqDiff, Nat.reduceAdd, Nat.reduceMul, Nat.reduceSub, Nat.reduceLT, Nat.reduceLeDiff, Nat.reduceBEq, Nat.reduceLeDiff, reduceCtorEq, Int.reduceLT, Int.reduceEq, Int.reduceLE, Int.reduceAdd, Int.reduceSub, Int.reduceToNat, Int.reduceNeg, Int.toNat_natCast, beq_self_eq_true, wrap64, undef, Nat.zero_add, Nat.add_zero, Int.zero_add, Int.add_zero, Int.sub_zero, St.loadN_other, St.cell_other, f2, lx2, lp, lq]
    refine wJ_of (F.vector_Below_J hsv hsw (by omega) (by omega)) ?_; rintro _ _ ⟨rfl, rfl⟩
    simp (disch := omega) only [go_sem, ↓reduceIte, Nat.reduceEqDiff, Nat.reduceAdd, Nat.reduceMul, Nat.reduceSub, Nat.reduceLT, Nat.reduceLeDiff, Nat.reduceBEq, Nat.reduceLeDiff, reduceCtorEq, Int.reduceLT, Int.reduceEq, Int.reduceLE, Int.reduceAdd, Int.reduceSub, Int.reduceToNat, Int.reduceNeg, Int.toNat_natCast, beq_self_eq_true, wrap64, undef, Nat.zero_add, Nat.add_zero, Int.zero_add, Int.add_zero, Int.sub_zero, St.loadN_other, St.cell_other, f3, lx2, lp, lq]
    refine wJ_of (F.vector_Has_J (d := (d.1, d.2 + 1)) hsw (by omega)) ?_; rintro _ _ ⟨rfl, rfl⟩
    simp (disch := omega) only [go_sem, ↓reduceIte, Nat.reduceEqDiff, Nat.reduceAdd, Nat.reduceMul, Nat.reduceSub, Nat.reduceLT, Nat.reduceLeDiff, Nat.reduceBEq, Nat.reduceLeDiff, reduceCtorEq, Int.reduceLT, Int.reduceEq, Int.reduceLE, Int.reduceAdd, Int.reduceSub, Int.reduceToNat, Int.reduceNeg, Int.toNat_natCast, beq_self_eq_true, wrap64, undef, Nat.zero_add, Nat.add_zero, Int.zero_add, Int.add_zero, Int.sub_zero, St.loadN_other, St.cell_other, f4, lx2, lp, lq]
    refine wJ_of (F.vector_Has_J (d := (d.1, d.2 + 1)) hsv (by omega)) ?_; rintro _ _ ⟨rfl, rfl⟩
    try simp (disch := omega) only [go_sem, ↓reduceIte, Nat.reduceEqDiff, Nat.reduceAdd, Nat.reduceMul, Nat.reduceSub, Nat.reduceLT, Nat.reduceLeDiff, Nat.reduceBEq, Nat.reduceLeDiff, reduceCtorEq, Int.reduceLT, Int.reduceEq, Int.reduceLE, Int.reduceAdd, Int.reduceSub, Int.reduceToNat, Int.reduceNeg, Int.toNat_natCast, beq_self_eq_true, wrap64, undef, Nat.zero_add, Nat.add_zero, Int.zero_add, Int.add_zero, Int.sub_zero, St.loadN_other, St.cell_other, lx2, lp, lq]
    refine wJ_of (F.vector_With_J (d := d) hsw hw (by omega)) ?_; rintro v9 S9 ⟨ho9, he9⟩
    simp (disch := omega) only [go_sem, ↓reduceIte, Nat.reduceEqDiff, Nat.reduceAdd, Nat.reduceMul, Nat.reduceSub, Nat.reduceLT, Nat.reduceLeDiff, Nat.reduceBEq, Nat.reduceLeDiff, reduceCtorEq, Int.reduceLT, Int.reduceEq, Int.reduceLE, Int.reduceAdd, Int.reduceSub, Int.reduceToNat, Int.reduceNeg, Int.toNat_natCast, beq_self_eq_true, wrap64, undef, Nat.zero_add, Nat.add_zero, Int.zero_add, Int.add_zero, Int.sub_zero, St.loadN_other, St.cell_other]
    refine wJ_of (F.vector_Same_J (ho9.sl dotE) (hsw.ext dotE he9) (by omega)) ?_; rintro _ _ ⟨rfl, rfl⟩
    simp (disch := omega) only [go_sem, ↓reduceIte, Nat.reduceEqDiff, Nat.reduceAdd, Nat.reduceMul, Nat.reduceSub, Nat.reduceLT, Nat.reduceLeDiff, Nat.reduceBEq, Nat.reduceLeDiff, reduceCtorEq, Int.reduceLT, Int.reduceEq, Int.reduceLE, Int.reduceAdd, Int.reduceSub, Int.reduceToNat, Int.reduceNeg, Int.toNat_natCast, beq_self_eq_true, wrap64, undef, Nat.zero_add, Nat.add_zero, Int.zero_add, Int.add_zero, Int.sub_zero, St.loadN_other, St.cell_other, f5]

/-! ### what is missing, put in one by one -/
def updV : List Dot → Dot → List Dot
  | [], d => [d]
  | e :: r, d => if e.1 < d.1 then e :: updV r d else if e.1 = d.1 then d :: r else d :: e :: r
theorem mem_updV {x d : Dot} : ∀ {v : List Dot}, x ∈ updV v d → x = d ∨ x ∈ v
  | [], h => by simp [updV] at h; exact .inl h
  | e :: r, h => by
    unfold updV at h
    split at h
    · rcases List.mem_cons.1 h with h | h
      · exact .inr (by simp [h])
      · exact (mem_updV h).imp id fun h => by simp [h]
    · split at h
      · rcases List.mem_cons.1 h with h | h
        · exact .inl h
        · exact .inr (by simp [h])
      · rcases List.mem_cons.1 h with h | h
        · exact .inl h
        · exact .inr h
theorem updV_is {d : Dot} (hd : mayP d) : ∀ {v : List Dot}, isV v → isV (updV v d)
  | [], _ => isV_one hd
  | e :: r, h => by
    obtain ⟨h1, h2, h3⟩ := isV_cons.1 h
    unfold updV
    split
    · refine isV_cons.2 ⟨h1, fun x hx => ?_, updV_is hd h3⟩
      rcases mem_updV hx with h | h
      · subst h; assumption
      · exact h2 x h
    · split
      · refine isV_cons.2 ⟨hd, fun x hx => ?_, h3⟩
        have := h2 x hx
        omega
      · refine isV_cons.2 ⟨hd, fun x hx => ?_, h⟩
        rcases List.mem_cons.1 hx with h | h
        · subst h; omega
        · have := h2 x h; omega
theorem getV_updV {d : Dot} (a : Int) : ∀ {v : List Dot}, isV v → getV (updV v d) a = if d.1 = a then d.2 else getV v a
  | [], _ => by simp [updV, getV]
  | e :: r, h => by
    obtain ⟨h1, h2, h3⟩ := isV_cons.1 h
    unfold updV
    split
    · simp only [getV]
      rw [getV_updV a h3]
      by_cases he : e.1 = a
      · rw [if_pos he, if_neg (by omega), if_pos he]
      · rw [if_neg he, if_neg he]
    · split
      · simp only [getV]
        by_cases he : d.1 = a
        · rw [if_pos he, if_pos he]
        · rw [if_neg he, if_neg he, if_neg (by omega)]
      · simp only [getV]
theorem sumV_cons (e : Dot) (r : List Dot) : sumV (e :: r) = e.2 + sumV r := by simp [sumV]
theorem sumV_updV {d : Dot} : ∀ {v : List Dot}, isV v → sumV (updV v d) = sumV v + d.2 - getV v d.1
  | [], _ => by simp [updV, sumV, getV]
  | e :: r, h => by
    obtain ⟨h1, h2, h3⟩ := isV_cons.1 h
    unfold updV
    split
    · rw [sumV_cons, sumV_cons, sumV_updV h3, getV, if_neg (by omega)]
      omega
    · split
      · rename_i he
        rw [sumV_cons, sumV_cons, getV, if_pos he]
        omega
      · rw [sumV_cons, getV_none (v := e :: r)]
        · omega
        · intro x hx
          rcases List.mem_cons.1 hx with h | h
          · subst h; assumption
          · have := h2 x h; omega
theorem withV_upd {v : List Dot} (hv : isV v) {d : Dot} (hd : mayP d) (h : getV v d.1 ≤ d.2) : withV v d = updV v d :=
  isV_ext (withV_is hv d) (updV_is hd hv) fun a => by
    rw [getV_with hv hd, getV_updV a hv]
    split
    · rename_i he; subst he; omega
    · rfl
theorem foldV_run {X : List Dot} (hX : isV X) {a g : Int} (ha : 0 ≤ a ∧ a < 16777216) (hg : getV X a = g) : ∀ j : Nat, g + j ≤ 1073741824 →
    isV ((runV g a j).foldl withV X) ∧ (∀ b, getV ((runV g a j).foldl withV X) b = if a = b then g + j else getV X b) ∧ sumV ((runV g a j).foldl withV X) = sumV X + j
  | 0, _ => ⟨hX, fun b => by simp [runV]; intro h; subst h; exact hg, by simp [runV]⟩
  | j + 1, hj => by
    obtain ⟨h1, h2, h3⟩ := foldV_run hX ha hg j (by omega)
    have hr := getV_range hX a
    have hm : mayP (a, g + 1 + (j : Int)) := by unfold mayP; simp only; omega
    rw [runV_succ, List.foldl_append]
    simp only [List.foldl_cons, List.foldl_nil]
    have hga := h2 a
    rw [if_pos rfl] at hga
    rw [withV_upd h1 hm (by simp only; omega)]
    refine ⟨updV_is hm h1, fun b => ?_, ?_⟩
    · rw [getV_updV b h1, h2]
      simp only
      split
      · omega
      · rfl
    · rw [sumV_updV h1, h3]
      simp only
      omega
theorem foldV_miss {W : List Dot} (hW : isV W) : ∀ {V X : List Dot}, isV V → isV X → (∀ d ∈ V, getV X d.1 = getV W d.1) →
    isV ((missV V W).foldl withV X) ∧ (∀ a, getV ((missV V W).foldl withV X) a = if getV V a = 0 then getV X a else max (getV V a) (getV W a)) ∧ sumV ((missV V W).foldl withV X) = sumV X + (missV V W).length
  | [], X, _, hX, _ => ⟨hX, fun a => by simp [missV, getV], by simp [missV]⟩
  | d :: V, X, hV, hX, hg => by
    obtain ⟨h1, h2, h3⟩ := isV_cons.1 hV
    unfold mayP at h1
    have hr := getV_range hW d.1
    have hgd := hg d (by simp)
    obtain ⟨g1, g2, g3⟩ := foldV_run hX (a := d.1) (g := getV W d.1) (by omega) hgd (d.2 - getV W d.1).toNat (by omega)
    have hsp : missV (d :: V) W = runV (getV W d.1) d.1 (d.2 - getV W d.1).toNat ++ missV V W := by simp [missV]
    rw [hsp, List.foldl_append]
    obtain ⟨i1, i2, i3⟩ := foldV_miss hW (V := V) (X := (runV (getV W d.1) d.1 (d.2 - getV W d.1).toNat).foldl withV X) h3 g1 fun e he => by
      rw [g2, if_neg (by have := h2 e he; omega)]
      exact hg e (by simp [he])
    refine ⟨i1, fun a => ?_, ?_⟩
    · rw [i2, g2]
      by_cases ha : d.1 = a
      · subst ha
        have hc : getV (d :: V) d.1 = d.2 := by simp [getV]
        simp only [hc, if_true]
        rw [getV_none (v := V) (fun e he => by have := h2 e he; omega), if_pos rfl, if_neg (by omega)]
        omega
      · have hc : getV (d :: V) a = getV V a := by simp [getV, ha]
        simp only [hc]
        rw [if_neg ha]
    · rw [i3, g3, List.length_append, runV_len]
      omega
theorem missV_join {V W : List Dot} (hV : isV V) (hW : isV W) : (missV V W).foldl withV W = joinV V W ∧ sumV (joinV V W) = sumV W + (missV V W).length := by
  obtain ⟨h1, h2, h3⟩ := foldV_miss hW hV hW fun _ _ => rfl
  have : (missV V W).foldl withV W = joinV V W := isV_ext h1 (joinV_is hV hW) fun a => by
    have hr := getV_range hW a
    rw [h2, getV_join hV hW]
    split <;> omega
  exact ⟨this, by rw [← this]; exact h3⟩
theorem mem_missV {V W : List Dot} (hV : isV V) (hW : isV W) {m : Dot} (h : m ∈ missV V W) : hasP V m ∧ ¬ hasP W m := by
  unfold missV runV at h
  obtain ⟨d, hd, h⟩ := List.mem_flatMap.1 h
  obtain ⟨q, hq, rfl⟩ := List.mem_map.1 h
  rw [List.mem_range] at hq
  have hr := getV_range hW d.1
  rw [hasP_iff hV, hasP_iff hW]
  simp only
  rw [getV_mem hV hd]
  omega
theorem missV_less {W : List Dot} : ∀ {V : List Dot}, isV V → (missV V W).Pairwise lessP
  | [], _ => by simp [missV]
  | d :: V, h => by
    obtain ⟨h1, h2, h3⟩ := isV_cons.1 h
    have hsp : missV (d :: V) W = runV (getV W d.1) d.1 (d.2 - getV W d.1).toNat ++ missV V W := by simp [missV]
    rw [hsp, List.pairwise_append]
    refine ⟨?_, missV_less h3, fun a ha b hb => ?_⟩
    · unfold runV
      rw [List.pairwise_map]
      refine List.pairwise_lt_range.imp fun hab => .inr ⟨rfl, ?_⟩
      simp only
      omega
    · unfold runV at ha
      obtain ⟨q, hq, rfl⟩ := List.mem_map.1 ha
      unfold missV runV at hb
      obtain ⟨e, he, hb⟩ := List.mem_flatMap.1 hb
      obtain ⟨q2, hq2, rfl⟩ := List.mem_map.1 hb
      have := h2 e he
      unfold lessP
      simp only
      omega
theorem foldV_len : ∀ (l v : List Dot), (l.foldl withV v).length ≤ v.length + l.length
  | [], v => by simp
  | d :: l, v => by
    have h1 := foldV_len l (withV v d)
    have h2 := withV_len v d
    simp only [List.foldl_cons, List.length_cons]
    omega
theorem foldV_is : ∀ (l v : List Dot), isV v → isV (l.foldl withV v)
  | [], _, h => h
  | d :: l, v, h => foldV_is l (withV v d) (withV_is h d)
theorem F.osierlaw04_VectorMissing.J {S : St} {l r : Value} {xs ys : List Dot} (hl : SlT dotE S l xs) (hr : SlT dotE S r ys) : J PR F.osierlaw04_VectorMissing [l, r] S fun v _ => v = .bool true := by
  refine J_by PR.mixed F.osierlaw04_VectorMissing.ok (by simp) ?_
  simp (disch := omega) only [go_sem, ↓reduceIte, Nat.reduceEqDiff, Nat.reduceAdd, Nat.reduceMul, Nat.reduceSub, Nat.reduceLT, Nat.reduceLeDiff, Nat.reduceBEq, Nat.reduceLeDiff, reduceCtorEq, Int.reduceLT, Int.reduceEq, Int.reduceLE, Int.reduceAdd, Int.reduceSub, Int.reduceToNat, Int.reduceNeg, Int.toNat_natCast, beq_self_eq_true, wrap64, undef, Nat.zero_add, Nat.add_zero, Int.zero_add, Int.add_zero, Int.sub_zero, St.loadN_other, St.cell_other]
  refine wJ_of F.osierlaw04_awake_J ?_; rintro _ _ ⟨rfl, rfl⟩
  simp (disch := omega) only [go_sem, ↓reduceIte, Nat.reduceEqDiff, Nat.reduceAdd, Nat.reduceMul, Nat.reduceSub, Nat.reduceLT, Nat.reduceLeDiff, Nat.reduceBEq, Nat.reduceLeDiff, reduceCtorEq, Int.reduceLT, Int.reduceEq, Int.reduceLE, Int.reduceAdd, Int.reduceSub, Int.reduceToNat, Int.reduceNeg, Int.toNat_natCast, beq_self_eq_true, wrap64, undef, Nat.zero_add, Nat.add_zero, Int.zero_add, Int.add_zero, Int.sub_zero, St.loadN_other, St.cell_other]
  refine wJ_of (F.osierref04_Made_J hl) ?_; rintro vv S1 ⟨hsv, he1⟩
  simp (disch := omega) only [go_sem, ↓reduceIte, Nat.reduceEqDiff, Nat.reduceAdd, Nat.reduceMul, Nat.reduceSub, Nat.reduceLT, Nat.reduceLeDiff, Nat.reduceBEq, Nat.reduceLeDiff, reduceCtorEq, Int.reduceLT, Int.reduceEq, Int.reduceLE, Int.reduceAdd, Int.reduceSub, Int.reduceToNat, Int.reduceNeg, Int.toNat_natCast, beq_self_eq_true, wrap64, undef, Nat.zero_add, Nat.add_zero, Int.zero_add, Int.add_zero, Int.sub_zero, St.loadN_other, St.cell_other]
  refine wJ_of (F.osierref04_Made_J (hr.ext dotE he1)) ?_; rintro vw S2 ⟨hsw, he2⟩
  replace hsv := hsv.ext dotE he2
  have hv := madeV_is xs
  have hvl := madeV_len xs
  have hw := madeV_is ys
  have hwl := madeV_len ys
  generalize madeV xs = V at hsv hv hvl
  generalize madeV ys = W at hsw hw hwl
  simp (disch := omega) only [go_sem, ↓reduceIte, Nat.reduceEqDiff, Nat.reduceAdd, Nat.reduceMul, Nat.reduceSub, Nat.reduceLT, Nat.reduceLeDiff, Nat.reduceBEq, Nat.reduceLeDiff, reduceCtorEq, Int.reduceLT, Int.reduceEq, Int.reduceLE, Int.reduceAdd, Int.reduceSub, Int.reduceToNat, Int.reduceNeg, Int.toNat_natCast, beq_self_eq_true, wrap64, undef, Nat.zero_add, Nat.add_zero, Int.zero_add, Int.add_zero, Int.sub_zero, St.loadN_other, St.cell_other]
  refine wJ_of (F.vector_Missing_J hsv hsw hv hw (by omega) (by omega) (by omega)) ?_; rintro vm S3 ⟨hom, he3⟩
  have hml : ((missV V W).take 2000).length ≤ 2000 := by simp only [List.length_take]; omega
  have hsm := hom.sl dotE
  rw [show (2000 : Int).toNat = 2000 from rfl] at hsm
  obtain ⟨bm, cm, rfl⟩ := hsm.len dotE
  simp (disch := omega) only [go_sem, ↓reduceIte, Nat.reduceEqDiff, Nat.reduceAdd, Nat.reduceMul, Nat.reduceSub, Nat.reduceLT, Nat.reduceLeDiff, Nat.reduceBEq, Nat.reduceLeDiff, reduceCtorEq, Int.reduceLT, Int.reduceEq, Int.reduceLE, Int.reduceAdd, Int.reduceSub, Int.reduceToNat, Int.reduceNeg, Int.toNat_natCast, beq_self_eq_true, wrap64, undef, Nat.zero_add, Nat.add_zero, Int.zero_add, Int.add_zero, Int.sub_zero, St.loadN_other, St.cell_other]
  refine wcond_dec (fun h => ?_) (fun h => ?_)
  · simp (disch := omega) only [go_sem, ↓reduceIte, Nat.reduceEqDiff, Nat.reduceAdd, Nat.reduceMul, Nat.reduceSub, Nat.reduceLT, Nat.reduceLeDiff, Nat.reduceBEq, Nat.reduceLeDiff, reduceCtorEq, Int.reduceLT, Int.reduceEq, Int.reduceLE, Int.reduceAdd, Int.reduceSub, Int.reduceToNat, Int.reduceNeg, Int.toNat_natCast, beq_self_eq_true, wrap64, undef, Nat.zero_add, Nat.add_zero, Int.zero_add, Int.add_zero, Int.sub_zero, St.loadN_other, St.cell_other]
  have hlen : (missV V W).length < 2000 := by simp only [List.length_take] at h; omega
  rw [List.take_of_length_le (by omega)] at hsm
  rw [List.take_of_length_le (by omega)]
  have hml2 : (missV V W).take (2000 : Int).toNat = missV V W := List.take_of_length_le (by rw [show (2000 : Int).toNat = 2000 from rfl]; omega)
  replace hsv := hsv.ext dotE he3
  replace hsw := hsw.ext dotE he3
  obtain ⟨hj1, hj2⟩ := missV_join hv hw
  have hmem := fun m (h : m ∈ missV V W) => mem_missV hv hw h
  have hless := missV_less (W := W) hv
  clear hom hml hml2 h
  generalize missV V W = ms at *
  simp (disch := omega) only [go_sem, ↓reduceIte, Nat.reduceEqDiff, Nat.reduceAdd, Nat.reduceMul, Nat.reduceSub, Nat.reduceLT, Nat.reduceLeDiff, Nat.reduceBEq, Nat.reduceLeDiff, reduceCtorEq, Int.reduceLT, Int.reduceEq, Int.reduceLE, Int.reduceAdd, Int.reduceSub, Int.reduceToNat, Int.reduceNeg, Int.toNat_natCast, beq_self_eq_true, wrap64, undef, Nat.zero_add, Nat.add_zero, Int.zero_add, Int.add_zero, Int.sub_zero, St.loadN_other, St.cell_other]
  refine wC_loop (fun n fr S' => ∃ (i : Nat) (vx : Value), n = ms.length - i ∧ i ≤ ms.length ∧ fr 6 = vv ∧ fr 7 = vw ∧ fr 8 = .slice bm ms.length cm ∧ fr 9 = vx ∧ fr 10 = .int .i64 (i : Nat) ∧ S3.Ext S' ∧ SlT dotE S' vx ((ms.take i).foldl withV W)) ms.length
    ⟨0, vw, by simp (disch := omega) only [go_sem, ↓reduceIte, Nat.reduceEqDiff, Nat.reduceAdd, Nat.reduceMul, Nat.reduceSub, Nat.reduceLT, Nat.reduceLeDiff, Nat.reduceBEq, Nat.reduceLeDiff, reduceCtorEq, Int.reduceLT, Int.reduceEq, Int.reduceLE, Int.reduceAdd, Int.reduceSub, Int.reduceToNat, Int.reduceNeg, Int.toNat_natCast, beq_self_eq_true, wrap64, undef, Nat.zero_add, Nat.add_zero, Int.zero_add, Int.add_zero, Int.sub_zero, St.loadN_other, St.cell_other]; exact ⟨by simp, by simp, St.Ext.refl _, by simpa using hsw⟩⟩ ?_
  rintro n fr S4 ⟨i, vx, rfl, hi, h6, h7, h8, h9, h10, he, hx⟩
  simp (disch := omega) only [go_sem, ↓reduceIte, Nat.reduceEqDiff, Nat.reduceAdd, Nat.reduceMul, Nat.reduceSub, Nat.reduceLT, Nat.reduceLeDiff, Nat.reduceBEq, Nat.reduceLeDiff, reduceCtorEq, Int.reduceLT, Int.reduceEq, Int.reduceLE, Int.reduceAdd, Int.reduceSub, Int.reduceToNat, Int.reduceNeg, Int.toNat_natCast, beq_self_eq_true, wrap64, undef, Nat.zero_add, Nat.add_zero, Int.zero_add, Int.add_zero, Int.sub_zero, St.loadN_other, St.cell_other, F.osierlaw04_VectorMissing.l0, h6, h7, h8, h9, h10]
  refine wcond_dec (fun hlt => ?_) (fun hge => ?_)
  · have hlx : i < ms.length := by omega
    obtain ⟨b, off, rfl, hb, hx0⟩ := (hsm.ext dotE he).dot hlx
    have c1 : (0 : Int) ≤ (i : Int) ∧ (i : Int) < (ms.length : Int) := by omega
    obtain ⟨q1, q2⟩ := hmem ms[i] (List.getElem_mem _)
    simp (disch := omega) only [go_sem, ↓reduceIte, Nat.reduceEqDiff, Nat.reduceAdd, Nat.reduceMul, Nat.reduceSub, Nat.reduceLT, Nat.reduceLeDiff, Nat.reduceBEq, Nat.reduceLeDiff, reduceCtorEq, Int.reduceLT, Int.reduceEq, Int.reduceLE, Int.reduceAdd, Int.reduceSub, Int.reduceToNat, Int.reduceNeg, Int.toNat_natCast, beq_self_eq_true, wrap64, undef, Nat.zero_add, Nat.add_zero, Int.zero_add, Int.add_zero, Int.sub_zero, St.loadN_other, St.cell_other, h6, h7, h8, h9, h10, c1, hx0]
    refine wJ_of (F.vector_Has_J (hsv.ext dotE he) (by omega)) ?_; rintro _ _ ⟨rfl, rfl⟩
    simp (disch := omega) only [go_sem, ↓reduceIte, Nat.reduceEqDiff, Nat.reduceAdd, Nat.reduceMul, Nat.reduceSub, Nat.reduceLT, Nat.reduceLeDiff, Nat.reduceBEq, Nat.reduceLeDiff, reduceCtorEq, Int.reduceLT, Int.reduceEq, Int.reduceLE, Int.reduceAdd, Int.reduceSub, Int.reduceToNat, Int.reduceNeg, Int.toNat_natCast, beq_self_eq_true, wrap64, undef, Nat.zero_add, Nat.add_zero, Int.zero_add, Int.add_zero, Int.sub_zero, St.loadN_other, St.cell_other, q1, h6, h7, h8, h9, h10, c1, hx0]
    refine wJ_of (F.vector_Has_J (hsw.ext dotE he) (by omega)) ?_; rintro _ _ ⟨rfl, rfl⟩
    simp (disch := omega) only [go_sem, ↓reduceIte, Nat.reduceEqDiff, Nat.reduceAdd, Nat.reduceMul, Nat.reduceSub, Nat.reduceLT, Nat.reduceLeDiff, Nat.reduceBEq, Nat.reduceLeDiff, reduceCtorEq, Int.reduceLT, Int.reduceEq, Int.reduceLE, Int.reduceAdd, Int.reduceSub, Int.reduceToNat, Int.reduceNeg, Int.toNat_natCast, beq_self_eq_true, wrap64, undef, Nat.zero_add, Nat.add_zero, Int.zero_add, Int.add_zero, Int.sub_zero, St.loadN_other, St.cell_other, q2, h6, h7, h8, h9, h10, c1, hx0]
    have hfl := foldV_len (ms.take i) W
    simp only [List.length_take] at hfl
    have hfi := foldV_is (ms.take i) W hw
    refine wguard_dec (fun hp => ?_) (fun hp => ?_)
    · obtain ⟨j, rfl⟩ : ∃ j, i = j + 1 := ⟨i - 1, by omega⟩
      have hlj : j < ms.length := by omega
      obtain ⟨b', off', hbb, hb', hx1⟩ := (hsm.ext dotE he).dot hlj
      simp only [Option.some.injEq, Addr.mk.injEq, and_true] at hbb
      obtain ⟨rfl, rfl⟩ := hbb
      have e1 : ((j + 1 : Nat) : Int) - 1 = (j : Int) := by omega
      have c2 : (0 : Int) ≤ (j : Int) ∧ (j : Int) < (ms.length : Int) := by omega
      have hls : lessP ms[j] ms[j + 1] := List.pairwise_iff_getElem.1 hless j (j + 1) hlj hlx (by omega)
      simp (disch := omega) only [go_sem, ↓reduceIte, Nat.reduceEqDiff, Nat.reduceAdd, Nat.reduceMul, Nat.reduceSub, Nat.reduceLT, Nat.reduceLeDiff, Nat.reduceBEq, Nat.reduceLeDiff, reduceCtorEq, Int.reduceLT, Int.reduceEq, Int.reduceLE, Int.reduceAdd, Int.reduceSub, Int.reduceToNat, Int.reduceNeg, Int.toNat_natCast, beq_self_eq_true, wrap64, undef, Nat.zero_add, Nat.add_zero, Int.zero_add, Int.add_zero, Int.sub_zero, St.loadN_other, St.cell_other, hp, h6, h7, h8, h9, h10, c1, c2, e1, hx0, hx1]
      refine wJ_of F.osierref03_Less_P ?_; rintro _ _ ⟨rfl, rfl⟩
      simp (disch := omega) only [go_sem, ↓reduceIte, Nat.reduceEqDiff, Nat.reduceAdd, Nat.reduceMul, Nat.reduceSub, Nat.reduceLT, Nat.reduceLeDiff, Nat.reduceBEq, Nat.reduceLeDiff, reduceCtorEq, Int.reduceLT, Int.reduceEq, Int.reduceLE, Int.reduceAdd, Int.reduceSub, Int.reduceToNat, Int.reduceNeg, Int.toNat_natCast, beq_self_eq_true, wrap64, undef, Nat.zero_add, Nat.add_zero, Int.zero_add, Int.add_zero, Int.sub_zero, St.loadN_other, St.cell_other, hp, hls, h6, h7, h8, h9, h10, c1, hx0]
      refine wJ_of (F.vector_With_J hx hfi (by omega)) ?_; rintro v5 S5 ⟨ho5, he5⟩
      simp (disch := omega) only [go_sem, ↓reduceIte, Nat.reduceEqDiff, Nat.reduceAdd, Nat.reduceMul, Nat.reduceSub, Nat.reduceLT, Nat.reduceLeDiff, Nat.reduceBEq, Nat.reduceLeDiff, reduceCtorEq, Int.reduceLT, Int.reduceEq, Int.reduceLE, Int.reduceAdd, Int.reduceSub, Int.reduceToNat, Int.reduceNeg, Int.toNat_natCast, beq_self_eq_true, wrap64, undef, Nat.zero_add, Nat.add_zero, Int.zero_add, Int.add_zero, Int.sub_zero, St.loadN_other, St.cell_other, h6, h7, h8, h9, h10]
      refine ⟨ms.length - (j + 1 + 1), by omega, j + 1 + 1, _, rfl, by omega, rfl, rfl, he.trans he5, ?_⟩
      rw [take_snoc (List.getElem?_eq_getElem hlx), List.foldl_append]
      exact ho5.sl dotE
    · simp (disch := omega) only [go_sem, ↓reduceIte, Nat.reduceEqDiff, Nat.reduceAdd, Nat.reduceMul, Nat.reduceSub, Nat.reduceLT, Nat.reduceLeDiff, Nat.reduceBEq, Nat.reduceLeDiff, reduceCtorEq, Int.reduceLT, Int.reduceEq, Int.reduceLE, Int.reduceAdd, Int.reduceSub, Int.reduceToNat, Int.reduceNeg, Int.toNat_natCast, beq_self_eq_true, wrap64, undef, Nat.zero_add, Nat.add_zero, Int.zero_add, Int.add_zero, Int.sub_zero, St.loadN_other, St.cell_other, hp, h6, h7, h8, h9, h10, c1, hx0]
      refine wJ_of (F.vector_With_J hx hfi (by omega)) ?_; rintro v5 S5 ⟨ho5, he5⟩
      simp (disch := omega) only [go_sem, ↓reduceIte, Nat.reduceEqDiff, Nat.reduceAdd, Nat.reduceMul, Nat.reduceSub, Nat.reduceLT, Nat.reduceLeDiff, Nat.reduceBEq, Nat.reduceLeDiff, reduceCtorEq, Int.reduceLT, Int.reduceEq, Int.reduceLE, Int.reduceAdd, Int.reduceSub, Int.reduceToNat, Int.reduceNeg, Int.toNat_natCast, beq_self_eq_true, wrap64, undef, Nat.zero_add, Nat.add_zero, Int.zero_add, Int.add_zero, Int.sub_zero, St.loadN_other, St.cell_other, h6, h7, h8, h9, h10]
      refine ⟨ms.length - (i + 1), by omega, i + 1, _, rfl, by omega, rfl, rfl, he.trans he5, ?_⟩
      rw [take_snoc (List.getElem?_eq_getElem hlx), List.foldl_append]
      exact ho5.sl dotE
  · rw [List.take_of_length_le (by omega), hj1] at hx
    have hjl : (joinV V W).length ≤ _ := eachV_len max V W
    have hrs := sumV_range hw
    simp (disch := omega) only [go_sem, ↓reduceIte, Nat.reduceEqDiff, Nat.reduceAdd, Nat.reduceMul, Nat.reduceSub, Nat.reduceLT, Nat.reduceLeDiff, Nat.reduceBEq, Nat.reduceLeDiff, reduceCtorEq, Int.reduceLT, Int.reduceEq, Int.reduceLE, Int.reduceAdd, Int.reduceSub, Int.reduceToNat, Int.reduceNeg, Int.toNat_natCast, beq_self_eq_true, wrap64, undef, Nat.zero_add, Nat.add_zero, Int.zero_add, Int.add_zero, Int.sub_zero, St.loadN_other, St.cell_other, h6, h7, h8, h9, h10]
    refine wJ_of (F.vector_Join_J (hsv.ext dotE he) (hsw.ext dotE he) hv hw (by omega) (by omega)) ?_; rintro v5 S5 ⟨ho5, he5⟩
    simp (disch := omega) only [go_sem, ↓reduceIte, Nat.reduceEqDiff, Nat.reduceAdd, Nat.reduceMul, Nat.reduceSub, Nat.reduceLT, Nat.reduceLeDiff, Nat.reduceBEq, Nat.reduceLeDiff, reduceCtorEq, Int.reduceLT, Int.reduceEq, Int.reduceLE, Int.reduceAdd, Int.reduceSub, Int.reduceToNat, Int.reduceNeg, Int.toNat_natCast, beq_self_eq_true, wrap64, undef, Nat.zero_add, Nat.add_zero, Int.zero_add, Int.add_zero, Int.sub_zero, St.loadN_other, St.cell_other, h6, h7, h8, h9, h10]
    refine wJ_of (F.vector_Same_J (hx.ext dotE he5) (ho5.sl dotE) (by omega)) ?_; rintro _ _ ⟨rfl, rfl⟩
    simp (disch := omega) only [go_sem, ↓reduceIte, Nat.reduceEqDiff, Nat.reduceAdd, Nat.reduceMul, Nat.reduceSub, Nat.reduceLT, Nat.reduceLeDiff, Nat.reduceBEq, Nat.reduceLeDiff, reduceCtorEq, Int.reduceLT, Int.reduceEq, Int.reduceLE, Int.reduceAdd, Int.reduceSub, Int.reduceToNat, Int.reduceNeg, Int.toNat_natCast, beq_self_eq_true, wrap64, undef, Nat.zero_add, Nat.add_zero, Int.zero_add, Int.add_zero, Int.sub_zero, St.loadN_other, St.cell_other, h6, h7, h8, h9, h10]
    refine wJ_of (F.vector_Count_J (ho5.sl dotE) (joinV_is hv hw) (by omega)) ?_; rintro _ _ ⟨rfl, rfl⟩
    simp (disch := omega) only [go_sem, ↓reduceIte, Nat.reduceEqDiff, Nat.reduceAdd, Nat.reduceMul, Nat.reduceSub, Nat.reduceLT, Nat.reduceLeDiff, Nat.reduceBEq, Nat.reduceLeDiff, reduceCtorEq, Int.reduceLT, Int.reduceEq, Int.reduceLE, Int.reduceAdd, Int.reduceSub, Int.reduceToNat, Int.reduceNeg, Int.toNat_natCast, beq_self_eq_true, wrap64, undef, Nat.zero_add, Nat.add_zero, Int.zero_add, Int.add_zero, Int.sub_zero, St.loadN_other, St.cell_other, h6, h7, h8, h9, h10]
    refine wJ_of (F.vector_Count_J (hsw.ext dotE (he.trans he5)) hw (by omega)) ?_; rintro _ _ ⟨rfl, rfl⟩
    simp (disch := omega) only [go_sem, ↓reduceIte, Nat.reduceEqDiff, Nat.reduceAdd, Nat.reduceMul, Nat.reduceSub, Nat.reduceLT, Nat.reduceLeDiff, Nat.reduceBEq, Nat.reduceLeDiff, reduceCtorEq, Int.reduceLT, Int.reduceEq, Int.reduceLE, Int.reduceAdd, Int.reduceSub, Int.reduceToNat, Int.reduceNeg, Int.toNat_natCast, beq_self_eq_true, wrap64, undef, Nat.zero_add, Nat.add_zero, Int.zero_add, Int.add_zero, Int.sub_zero, St.loadN_other, St.cell_other, h6, h7, h8, h9, h10, hj2]
end Go.Osj
