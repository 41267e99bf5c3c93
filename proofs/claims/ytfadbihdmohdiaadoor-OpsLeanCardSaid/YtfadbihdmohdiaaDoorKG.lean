/- ops.Take. -/
import Derived.Test.YtfadbihdmohdiaaDoorKF
set_option linter.unusedVariables false
set_option linter.unusedSimpArgs false
set_option maxHeartbeats 1000000
namespace Go.Osj
theorem F.ops_Take_J {S : St} {q B L : Nat} {p : Rd} (h : RdT S q B p.1 p.2) (hBn : B ≤ S.n) (G : goodR L p) (hL : L < 50000) :
    J PR F.ops_Take [ptrV q] S fun v S' => (∃ d, v = opV (rdO p).1 d ∧ OwnT dotE S.n S' d (rdO p).1.deps) ∧ RdT S' q B (rdO p).2.1 (rdO p).2.2 ∧ St.But (ptrV q) S S' := by
  refine J_by PR.mixed F.ops_Take.ok (by simp) ?_
  simp (disch := omega) only [go_sem, ↓reduceIte, Nat.reduceEqDiff, Nat.reduceAdd, Nat.reduceMul, Nat.reduceSub, Nat.reduceLT, Nat.reduceLeDiff, Nat.reduceBEq, reduceCtorEq, Int.reduceLT, Int.reduceEq, Int.reduceLE, Int.reduceAdd, Int.reduceSub, Int.reduceToNat, Int.reduceNeg]
  refine walloc_O fun x S1 he1 hx hxn => ?_
  simp (disch := omega) only [go_sem, ↓reduceIte, Nat.reduceEqDiff, Nat.reduceAdd, Nat.reduceMul, Nat.reduceSub, Nat.reduceLT, Nat.reduceLeDiff, Nat.reduceBEq, reduceCtorEq, Int.reduceLT, Int.reduceEq, Int.reduceLE, Int.reduceAdd, Int.reduceSub, Int.reduceToNat, Int.reduceNeg]
  refine walloc_O fun w S2 he2 hw hwn => ?_
  have hxw : x ≠ w := by have := hx.1; omega
  have hqn := h.lt
  have T : TakeSt S S2 q B x w p oz nilS := ⟨(h.but he1).but he2, hx.ext he2, hw, OwnT.nil .., fun j hj => by simp [blkOf] at hj, (he1.trans he2).toBut, hBn, hqn, hxn, Nat.le_trans he1.n hwn, hxw⟩
  simp (disch := omega) only [go_sem, ↓reduceIte, Nat.reduceEqDiff, Nat.reduceAdd, Nat.reduceMul, Nat.reduceSub, Nat.reduceLT, Nat.reduceLeDiff, Nat.reduceBEq, reduceCtorEq, Int.reduceLT, Int.reduceEq, Int.reduceLE, Int.reduceAdd, Int.reduceSub, Int.reduceToNat, Int.reduceNeg]
  have hG1 := G.d
  have hbn := T.n
  have hGL := G.2.2
  refine wJ_of (F.dots_Take_J T.rd (Nat.le_trans T.hB T.n) G.1 G.2.1 (by omega)) ?_; rintro _ Sr ⟨rfl, hr, hb⟩
  replace T := T.step (p' := (rdD p.1 p.2).2) hr hb
  replace G := hG1
  generalize hP1 : rdD p.1 p.2 = P1 at *
  simp (disch := omega) only [go_sem, ↓reduceIte, Nat.reduceEqDiff, Nat.reduceAdd, Nat.reduceMul, Nat.reduceSub, Nat.reduceLT, Nat.reduceLeDiff, Nat.reduceBEq, reduceCtorEq, Int.reduceLT, Int.reduceEq, Int.reduceLE, Int.reduceAdd, Int.reduceSub, Int.reduceToNat, Int.reduceNeg]
  refine wst_op ⟨P1.1, 0, [], 0, (0, 0), (0, 0), 0, 0, (0, 0), ⟨#[]⟩⟩ nilS T.ob rfl rfl (by decide) rfl fun Ss hob hbs => ?_
  replace T := T.set hob hbs rfl
  simp (disch := omega) only [go_sem, ↓reduceIte, Nat.reduceEqDiff, Nat.reduceAdd, Nat.reduceMul, Nat.reduceSub, Nat.reduceLT, Nat.reduceLeDiff, Nat.reduceBEq, reduceCtorEq, Int.reduceLT, Int.reduceEq, Int.reduceLE, Int.reduceAdd, Int.reduceSub, Int.reduceToNat, Int.reduceNeg]
  have hG2 := G.i
  have hbn := T.n
  have hGL := G.2.2
  refine wJ_of (F.num_Reader_Int_J T.rd G.1 G.2.1 (by omega)) ?_; rintro _ Sr ⟨rfl, hr, hb⟩
  replace T := T.step (p' := (rdI P1.2.1 P1.2.2).2) hr hb
  replace G := hG2
  generalize hP2 : rdI P1.2.1 P1.2.2 = P2 at *
  simp (disch := omega) only [go_sem, ↓reduceIte, Nat.reduceEqDiff, Nat.reduceAdd, Nat.reduceMul, Nat.reduceSub, Nat.reduceLT, Nat.reduceLeDiff, Nat.reduceBEq, reduceCtorEq, Int.reduceLT, Int.reduceEq, Int.reduceLE, Int.reduceAdd, Int.reduceSub, Int.reduceToNat, Int.reduceNeg]
  refine wst_op ⟨P1.1, P2.1, [], 0, (0, 0), (0, 0), 0, 0, (0, 0), ⟨#[]⟩⟩ nilS T.ob rfl rfl (by decide) rfl fun Ss hob hbs => ?_
  replace T := T.set hob hbs rfl
  simp (disch := omega) only [go_sem, ↓reduceIte, Nat.reduceEqDiff, Nat.reduceAdd, Nat.reduceMul, Nat.reduceSub, Nat.reduceLT, Nat.reduceLeDiff, Nat.reduceBEq, reduceCtorEq, Int.reduceLT, Int.reduceEq, Int.reduceLE, Int.reduceAdd, Int.reduceSub, Int.reduceToNat, Int.reduceNeg]
  have T0w := T.ob.1
  have T0x := T.ox.1
  have hG3 := G.v
  have hbn := T.n
  have hGL := G.2.2
  refine wJ_of (F.vector_Take_J T.rd (Nat.le_trans T.hB T.n) G.1 G.2.1 (by omega)) ?_; rintro d Sr ⟨hod, hr, hb⟩
  have hvl := (rdV_good G.1 G.2.1).2.2.2
  replace T := T.step (p' := (rdV P2.2.1 P2.2.2).2) hr hb
  replace G := hG3
  generalize hP3 : rdV P2.2.1 P2.2.2 = P3 at *
  obtain ⟨bd, cd, rfl⟩ := (hod.sl dotE).len dotE
  simp (disch := omega) only [go_sem, ↓reduceIte, Nat.reduceEqDiff, Nat.reduceAdd, Nat.reduceMul, Nat.reduceSub, Nat.reduceLT, Nat.reduceLeDiff, Nat.reduceBEq, reduceCtorEq, Int.reduceLT, Int.reduceEq, Int.reduceLE, Int.reduceAdd, Int.reduceSub, Int.reduceToNat, Int.reduceNeg]
  refine wst_op ⟨P1.1, P2.1, P3.1, 0, (0, 0), (0, 0), 0, 0, (0, 0), ⟨#[]⟩⟩ (.slice bd P3.1.length cd) T.ob rfl rfl (by decide) rfl fun Ss hob hbs => ?_
  have hdn := hod.blk dotE
  replace T := T.setD hob hbs (hod.mono dotE hbn) (fun j hj => by have := hdn j hj; omega)
  clear hod
  simp (disch := omega) only [go_sem, ↓reduceIte, Nat.reduceEqDiff, Nat.reduceAdd, Nat.reduceMul, Nat.reduceSub, Nat.reduceLT, Nat.reduceLeDiff, Nat.reduceBEq, reduceCtorEq, Int.reduceLT, Int.reduceEq, Int.reduceLE, Int.reduceAdd, Int.reduceSub, Int.reduceToNat, Int.reduceNeg]
  have hG4 := G.i
  have hbn := T.n
  have hGL := G.2.2
  refine wJ_of (F.num_Reader_Int_J T.rd G.1 G.2.1 (by omega)) ?_; rintro _ Sr ⟨rfl, hr, hb⟩
  replace T := T.step (p' := (rdI P3.2.1 P3.2.2).2) hr hb
  replace G := hG4
  generalize hP4 : rdI P3.2.1 P3.2.2 = P4 at *
  simp (disch := omega) only [go_sem, ↓reduceIte, Nat.reduceEqDiff, Nat.reduceAdd, Nat.reduceMul, Nat.reduceSub, Nat.reduceLT, Nat.reduceLeDiff, Nat.reduceBEq, reduceCtorEq, Int.reduceLT, Int.reduceEq, Int.reduceLE, Int.reduceAdd, Int.reduceSub, Int.reduceToNat, Int.reduceNeg]
  refine wst_op ⟨P1.1, P2.1, P3.1, P4.1, (0, 0), (0, 0), 0, 0, (0, 0), ⟨#[]⟩⟩ (.slice bd P3.1.length cd) T.ob rfl rfl (by decide) rfl fun Ss hob hbs => ?_
  replace T := T.set hob hbs rfl
  simp (disch := omega) only [go_sem, ↓reduceIte, Nat.reduceEqDiff, Nat.reduceAdd, Nat.reduceMul, Nat.reduceSub, Nat.reduceLT, Nat.reduceLeDiff, Nat.reduceBEq, reduceCtorEq, Int.reduceLT, Int.reduceEq, Int.reduceLE, Int.reduceAdd, Int.reduceSub, Int.reduceToNat, Int.reduceNeg]
  by_cases k1 : P4.1 = 1
  · have m1 : ¬ P4.1 < 1 := by omega
    have m3 : ¬ 3 < P4.1 := by omega
    have hc4 := T.ob.c
    have hf : formP P4.1 P4.2 = P4.2 := if_pos (by omega)
    simp (disch := omega) only [go_sem, ↓reduceIte, Nat.reduceEqDiff, Nat.reduceAdd, Nat.reduceMul, Nat.reduceSub, Nat.reduceLT, Nat.reduceLeDiff, Nat.reduceBEq, reduceCtorEq, Int.reduceLT, Int.reduceEq, Int.reduceLE, Int.reduceAdd, Int.reduceSub, Int.reduceToNat, Int.reduceNeg, hc4, k1, m1, m3]
    have hG5 := G.d
    have hbn := T.n
    have hGL := G.2.2
    refine wJ_of (F.dots_Take_J T.rd (Nat.le_trans T.hB T.n) G.1 G.2.1 (by omega)) ?_; rintro _ Sr ⟨rfl, hr, hb⟩
    replace T := T.step (p' := (rdD P4.2.1 P4.2.2).2) hr hb
    replace G := hG5
    generalize hP5 : rdD P4.2.1 P4.2.2 = P5 at *
    simp (disch := omega) only [go_sem, ↓reduceIte, Nat.reduceEqDiff, Nat.reduceAdd, Nat.reduceMul, Nat.reduceSub, Nat.reduceLT, Nat.reduceLeDiff, Nat.reduceBEq, reduceCtorEq, Int.reduceLT, Int.reduceEq, Int.reduceLE, Int.reduceAdd, Int.reduceSub, Int.reduceToNat, Int.reduceNeg]
    refine wst_op ⟨P1.1, P2.1, P3.1, P4.1, P5.1, (0, 0), 0, 0, (0, 0), ⟨#[]⟩⟩ (.slice bd P3.1.length cd) T.ob rfl rfl (by decide) rfl fun Ss hob hbs => ?_
    replace T := T.set hob hbs rfl
    have hc5 := T.ob.c
    simp (disch := omega) only [go_sem, ↓reduceIte, Nat.reduceEqDiff, Nat.reduceAdd, Nat.reduceMul, Nat.reduceSub, Nat.reduceLT, Nat.reduceLeDiff, Nat.reduceBEq, reduceCtorEq, Int.reduceLT, Int.reduceEq, Int.reduceLE, Int.reduceAdd, Int.reduceSub, Int.reduceToNat, Int.reduceNeg, hc5, k1, m1, m3]
    have hG6 := G.d
    have hbn := T.n
    have hGL := G.2.2
    refine wJ_of (F.dots_Take_J T.rd (Nat.le_trans T.hB T.n) G.1 G.2.1 (by omega)) ?_; rintro _ Sr ⟨rfl, hr, hb⟩
    replace T := T.step (p' := (rdD P5.2.1 P5.2.2).2) hr hb
    replace G := hG6
    generalize hP6 : rdD P5.2.1 P5.2.2 = P6 at *
    simp (disch := omega) only [go_sem, ↓reduceIte, Nat.reduceEqDiff, Nat.reduceAdd, Nat.reduceMul, Nat.reduceSub, Nat.reduceLT, Nat.reduceLeDiff, Nat.reduceBEq, reduceCtorEq, Int.reduceLT, Int.reduceEq, Int.reduceLE, Int.reduceAdd, Int.reduceSub, Int.reduceToNat, Int.reduceNeg]
    refine wst_op ⟨P1.1, P2.1, P3.1, P4.1, P5.1, P6.1, 0, 0, (0, 0), ⟨#[]⟩⟩ (.slice bd P3.1.length cd) T.ob rfl rfl (by decide) rfl fun Ss hob hbs => ?_
    replace T := T.set hob hbs rfl
    simp (disch := omega) only [go_sem, ↓reduceIte, Nat.reduceEqDiff, Nat.reduceAdd, Nat.reduceMul, Nat.reduceSub, Nat.reduceLT, Nat.reduceLeDiff, Nat.reduceBEq, reduceCtorEq, Int.reduceLT, Int.reduceEq, Int.reduceLE, Int.reduceAdd, Int.reduceSub, Int.reduceToNat, Int.reduceNeg]
    have hG7 := G.i
    have hbn := T.n
    have hGL := G.2.2
    refine wJ_of (F.num_Reader_Int_J T.rd G.1 G.2.1 (by omega)) ?_; rintro _ Sr ⟨rfl, hr, hb⟩
    replace T := T.step (p' := (rdI P6.2.1 P6.2.2).2) hr hb
    replace G := hG7
    generalize hP7 : rdI P6.2.1 P6.2.2 = P7 at *
    simp (disch := omega) only [go_sem, ↓reduceIte, Nat.reduceEqDiff, Nat.reduceAdd, Nat.reduceMul, Nat.reduceSub, Nat.reduceLT, Nat.reduceLeDiff, Nat.reduceBEq, reduceCtorEq, Int.reduceLT, Int.reduceEq, Int.reduceLE, Int.reduceAdd, Int.reduceSub, Int.reduceToNat, Int.reduceNeg]
    refine wst_op ⟨P1.1, P2.1, P3.1, P4.1, P5.1, P6.1, P7.1, 0, (0, 0), ⟨#[]⟩⟩ (.slice bd P3.1.length cd) T.ob rfl rfl (by decide) rfl fun Ss hob hbs => ?_
    replace T := T.set hob hbs rfl
    simp (disch := omega) only [go_sem, ↓reduceIte, Nat.reduceEqDiff, Nat.reduceAdd, Nat.reduceMul, Nat.reduceSub, Nat.reduceLT, Nat.reduceLeDiff, Nat.reduceBEq, reduceCtorEq, Int.reduceLT, Int.reduceEq, Int.reduceLE, Int.reduceAdd, Int.reduceSub, Int.reduceToNat, Int.reduceNeg]
    have hG8 := G.i
    have hbn := T.n
    have hGL := G.2.2
    refine wJ_of (F.num_Reader_Int_J T.rd G.1 G.2.1 (by omega)) ?_; rintro _ Sr ⟨rfl, hr, hb⟩
    replace T := T.step (p' := (rdI P7.2.1 P7.2.2).2) hr hb
    replace G := hG8
    generalize hP8 : rdI P7.2.1 P7.2.2 = P8 at *
    simp (disch := omega) only [go_sem, ↓reduceIte, Nat.reduceEqDiff, Nat.reduceAdd, Nat.reduceMul, Nat.reduceSub, Nat.reduceLT, Nat.reduceLeDiff, Nat.reduceBEq, reduceCtorEq, Int.reduceLT, Int.reduceEq, Int.reduceLE, Int.reduceAdd, Int.reduceSub, Int.reduceToNat, Int.reduceNeg]
    refine wst_op ⟨P1.1, P2.1, P3.1, P4.1, P5.1, P6.1, P7.1, P8.1, (0, 0), ⟨#[]⟩⟩ (.slice bd P3.1.length cd) T.ob rfl rfl (by decide) rfl fun Ss hob hbs => ?_
    replace T := T.set hob hbs rfl
    have hO : rdO p = rdF ⟨P1.1, P2.1, P3.1, P4.1, P5.1, P6.1, P7.1, P8.1, (0, 0), ⟨#[]⟩⟩ P8.2 := by
      simp only [rdO, rdH, hP1, hP2, hP3, hP4, hf, hP5]
      simp only [rdB, ↓reduceIte, Int.reduceEq, k1, hP6, hP7, hP8]
    simp (disch := omega) only [go_sem, ↓reduceIte, Nat.reduceEqDiff, Nat.reduceAdd, Nat.reduceMul, Nat.reduceSub, Nat.reduceLT, Nat.reduceLeDiff, Nat.reduceBEq, reduceCtorEq, Int.reduceLT, Int.reduceEq, Int.reduceLE, Int.reduceAdd, Int.reduceSub, Int.reduceToNat, Int.reduceNeg]
    refine wJ_of (F.num_Reader_Err_J T.rd) ?_; rintro _ _ ⟨rfl, rfl⟩
    by_cases z : P8.2.2 = 0
    · have hc := T.ob.c
      simp (disch := omega) only [go_sem, ↓reduceIte, Nat.reduceEqDiff, Nat.reduceAdd, Nat.reduceMul, Nat.reduceSub, Nat.reduceLT, Nat.reduceLeDiff, Nat.reduceBEq, reduceCtorEq, Int.reduceLT, Int.reduceEq, Int.reduceLE, Int.reduceAdd, Int.reduceSub, Int.reduceToNat, Int.reduceNeg, z, hc]
      refine wJ_of (F.ops_Check_J (o := ⟨P1.1, P2.1, P3.1, P4.1, P5.1, P6.1, P7.1, P8.1, (0, 0), ⟨#[]⟩⟩) (T.ow.sl dotE) (by show P3.1.length < _; omega)) ?_; rintro _ _ ⟨rfl, rfl⟩
      by_cases my : mayO ⟨P1.1, P2.1, P3.1, P4.1, P5.1, P6.1, P7.1, P8.1, (0, 0), ⟨#[]⟩⟩
      · simp (disch := omega) only [go_sem, ↓reduceIte, Nat.reduceEqDiff, Nat.reduceAdd, Nat.reduceMul, Nat.reduceSub, Nat.reduceLT, Nat.reduceLeDiff, Nat.reduceBEq, reduceCtorEq, Int.reduceLT, Int.reduceEq, Int.reduceLE, Int.reduceAdd, Int.reduceSub, Int.reduceToNat, Int.reduceNeg, z, hc, my]
        refine wJ_of (F.num_Reader_Err_J T.rd) ?_; rintro _ _ ⟨rfl, rfl⟩
        simp (disch := omega) only [go_sem, ↓reduceIte, Nat.reduceEqDiff, Nat.reduceAdd, Nat.reduceMul, Nat.reduceSub, Nat.reduceLT, Nat.reduceLeDiff, Nat.reduceBEq, reduceCtorEq, Int.reduceLT, Int.reduceEq, Int.reduceLE, Int.reduceAdd, Int.reduceSub, Int.reduceToNat, Int.reduceNeg, z, hc]
        refine wst_op ⟨P1.1, P2.1, P3.1, P4.1, P5.1, P6.1, P7.1, P8.1, (0, 0), ⟨#[]⟩⟩ (.slice bd P3.1.length cd) T.ox rfl rfl (by decide) (wrote_full _ _ rfl) fun Sf hof hbf => ?_
        have hcf := hof.c
        simp (disch := omega) only [go_sem, ↓reduceIte, Nat.reduceEqDiff, Nat.reduceAdd, Nat.reduceMul, Nat.reduceSub, Nat.reduceLT, Nat.reduceLeDiff, Nat.reduceBEq, reduceCtorEq, Int.reduceLT, Int.reduceEq, Int.reduceLE, Int.reduceAdd, Int.reduceSub, Int.reduceToNat, Int.reduceNeg, hcf]
        obtain ⟨f1, f2, f3⟩ := T.fin hbf
        rw [hO, rdF, if_pos z, if_pos my]
        exact ⟨⟨_, rfl, f2⟩, f1, f3⟩
      · simp (disch := omega) only [go_sem, ↓reduceIte, Nat.reduceEqDiff, Nat.reduceAdd, Nat.reduceMul, Nat.reduceSub, Nat.reduceLT, Nat.reduceLeDiff, Nat.reduceBEq, reduceCtorEq, Int.reduceLT, Int.reduceEq, Int.reduceLE, Int.reduceAdd, Int.reduceSub, Int.reduceToNat, Int.reduceNeg, z, hc, my]
        refine wJ_of (F.num_Reader_Fail_J (x := 30) T.rd (by decide)) ?_; rintro _ Sr ⟨rfl, hr, hb⟩
        replace T := T.step (p' := failP 30 P8.2) hr hb
        have ze : (failP 30 P8.2).2 ≠ 0 := by simp [failP, z]
        simp (disch := omega) only [go_sem, ↓reduceIte, Nat.reduceEqDiff, Nat.reduceAdd, Nat.reduceMul, Nat.reduceSub, Nat.reduceLT, Nat.reduceLeDiff, Nat.reduceBEq, reduceCtorEq, Int.reduceLT, Int.reduceEq, Int.reduceLE, Int.reduceAdd, Int.reduceSub, Int.reduceToNat, Int.reduceNeg]
        refine wJ_of (F.num_Reader_Err_J T.rd) ?_; rintro _ _ ⟨rfl, rfl⟩
        simp (disch := omega) only [go_sem, ↓reduceIte, Nat.reduceEqDiff, Nat.reduceAdd, Nat.reduceMul, Nat.reduceSub, Nat.reduceLT, Nat.reduceLeDiff, Nat.reduceBEq, reduceCtorEq, Int.reduceLT, Int.reduceEq, Int.reduceLE, Int.reduceAdd, Int.reduceSub, Int.reduceToNat, Int.reduceNeg, ze]
        refine wst_op oz nilS T.ox rfl rfl (by decide) (wrote_full _ _ rfl) fun Sf hof hbf => ?_
        have hcf := hof.c
        simp (disch := omega) only [go_sem, ↓reduceIte, Nat.reduceEqDiff, Nat.reduceAdd, Nat.reduceMul, Nat.reduceSub, Nat.reduceLT, Nat.reduceLeDiff, Nat.reduceBEq, reduceCtorEq, Int.reduceLT, Int.reduceEq, Int.reduceLE, Int.reduceAdd, Int.reduceSub, Int.reduceToNat, Int.reduceNeg, hcf]
        obtain ⟨f1, f2, f3⟩ := T.fin hbf
        rw [hO, rdF, if_pos z, if_neg my]
        exact ⟨⟨nilS, rfl, OwnT.nil ..⟩, f1, f3⟩
    · simp (disch := omega) only [go_sem, ↓reduceIte, Nat.reduceEqDiff, Nat.reduceAdd, Nat.reduceMul, Nat.reduceSub, Nat.reduceLT, Nat.reduceLeDiff, Nat.reduceBEq, reduceCtorEq, Int.reduceLT, Int.reduceEq, Int.reduceLE, Int.reduceAdd, Int.reduceSub, Int.reduceToNat, Int.reduceNeg, z]
      refine wJ_of (F.num_Reader_Err_J T.rd) ?_; rintro _ _ ⟨rfl, rfl⟩
      simp (disch := omega) only [go_sem, ↓reduceIte, Nat.reduceEqDiff, Nat.reduceAdd, Nat.reduceMul, Nat.reduceSub, Nat.reduceLT, Nat.reduceLeDiff, Nat.reduceBEq, reduceCtorEq, Int.reduceLT, Int.reduceEq, Int.reduceLE, Int.reduceAdd, Int.reduceSub, Int.reduceToNat, Int.reduceNeg, z]
      refine wst_op oz nilS T.ox rfl rfl (by decide) (wrote_full _ _ rfl) fun Sf hof hbf => ?_
      have hcf := hof.c
      simp (disch := omega) only [go_sem, ↓reduceIte, Nat.reduceEqDiff, Nat.reduceAdd, Nat.reduceMul, Nat.reduceSub, Nat.reduceLT, Nat.reduceLeDiff, Nat.reduceBEq, reduceCtorEq, Int.reduceLT, Int.reduceEq, Int.reduceLE, Int.reduceAdd, Int.reduceSub, Int.reduceToNat, Int.reduceNeg, hcf]
      obtain ⟨f1, f2, f3⟩ := T.fin hbf
      rw [hO, rdF, if_neg z]
      exact ⟨⟨nilS, rfl, OwnT.nil ..⟩, f1, f3⟩
  by_cases k2 : P4.1 = 2
  · have m1 : ¬ P4.1 < 1 := by omega
    have m3 : ¬ 3 < P4.1 := by omega
    have hc4 := T.ob.c
    have hf : formP P4.1 P4.2 = P4.2 := if_pos (by omega)
    simp (disch := omega) only [go_sem, ↓reduceIte, Nat.reduceEqDiff, Nat.reduceAdd, Nat.reduceMul, Nat.reduceSub, Nat.reduceLT, Nat.reduceLeDiff, Nat.reduceBEq, reduceCtorEq, Int.reduceLT, Int.reduceEq, Int.reduceLE, Int.reduceAdd, Int.reduceSub, Int.reduceToNat, Int.reduceNeg, hc4, k1, k2, m1, m3]
    have hG5 := G.d
    have hbn := T.n
    have hGL := G.2.2
    refine wJ_of (F.dots_Take_J T.rd (Nat.le_trans T.hB T.n) G.1 G.2.1 (by omega)) ?_; rintro _ Sr ⟨rfl, hr, hb⟩
    replace T := T.step (p' := (rdD P4.2.1 P4.2.2).2) hr hb
    replace G := hG5
    generalize hP5 : rdD P4.2.1 P4.2.2 = P5 at *
    simp (disch := omega) only [go_sem, ↓reduceIte, Nat.reduceEqDiff, Nat.reduceAdd, Nat.reduceMul, Nat.reduceSub, Nat.reduceLT, Nat.reduceLeDiff, Nat.reduceBEq, reduceCtorEq, Int.reduceLT, Int.reduceEq, Int.reduceLE, Int.reduceAdd, Int.reduceSub, Int.reduceToNat, Int.reduceNeg]
    refine wst_op ⟨P1.1, P2.1, P3.1, P4.1, P5.1, (0, 0), 0, 0, (0, 0), ⟨#[]⟩⟩ (.slice bd P3.1.length cd) T.ob rfl rfl (by decide) rfl fun Ss hob hbs => ?_
    replace T := T.set hob hbs rfl
    have hc5 := T.ob.c
    simp (disch := omega) only [go_sem, ↓reduceIte, Nat.reduceEqDiff, Nat.reduceAdd, Nat.reduceMul, Nat.reduceSub, Nat.reduceLT, Nat.reduceLeDiff, Nat.reduceBEq, reduceCtorEq, Int.reduceLT, Int.reduceEq, Int.reduceLE, Int.reduceAdd, Int.reduceSub, Int.reduceToNat, Int.reduceNeg, hc5, k1, k2, m1, m3]
    have hG6 := G.d
    have hbn := T.n
    have hGL := G.2.2
    refine wJ_of (F.dots_Take_J T.rd (Nat.le_trans T.hB T.n) G.1 G.2.1 (by omega)) ?_; rintro _ Sr ⟨rfl, hr, hb⟩
    replace T := T.step (p' := (rdD P5.2.1 P5.2.2).2) hr hb
    replace G := hG6
    generalize hP6 : rdD P5.2.1 P5.2.2 = P6 at *
    simp (disch := omega) only [go_sem, ↓reduceIte, Nat.reduceEqDiff, Nat.reduceAdd, Nat.reduceMul, Nat.reduceSub, Nat.reduceLT, Nat.reduceLeDiff, Nat.reduceBEq, reduceCtorEq, Int.reduceLT, Int.reduceEq, Int.reduceLE, Int.reduceAdd, Int.reduceSub, Int.reduceToNat, Int.reduceNeg]
    refine wst_op ⟨P1.1, P2.1, P3.1, P4.1, P5.1, P6.1, 0, 0, (0, 0), ⟨#[]⟩⟩ (.slice bd P3.1.length cd) T.ob rfl rfl (by decide) rfl fun Ss hob hbs => ?_
    replace T := T.set hob hbs rfl
    have hO : rdO p = rdF ⟨P1.1, P2.1, P3.1, P4.1, P5.1, P6.1, 0, 0, (0, 0), ⟨#[]⟩⟩ P6.2 := by
      simp only [rdO, rdH, hP1, hP2, hP3, hP4, hf, hP5]
      simp only [rdB, ↓reduceIte, Int.reduceEq, k2, hP6]
    simp (disch := omega) only [go_sem, ↓reduceIte, Nat.reduceEqDiff, Nat.reduceAdd, Nat.reduceMul, Nat.reduceSub, Nat.reduceLT, Nat.reduceLeDiff, Nat.reduceBEq, reduceCtorEq, Int.reduceLT, Int.reduceEq, Int.reduceLE, Int.reduceAdd, Int.reduceSub, Int.reduceToNat, Int.reduceNeg]
    refine wJ_of (F.num_Reader_Err_J T.rd) ?_; rintro _ _ ⟨rfl, rfl⟩
    by_cases z : P6.2.2 = 0
    · have hc := T.ob.c
      simp (disch := omega) only [go_sem, ↓reduceIte, Nat.reduceEqDiff, Nat.reduceAdd, Nat.reduceMul, Nat.reduceSub, Nat.reduceLT, Nat.reduceLeDiff, Nat.reduceBEq, reduceCtorEq, Int.reduceLT, Int.reduceEq, Int.reduceLE, Int.reduceAdd, Int.reduceSub, Int.reduceToNat, Int.reduceNeg, z, hc]
      refine wJ_of (F.ops_Check_J (o := ⟨P1.1, P2.1, P3.1, P4.1, P5.1, P6.1, 0, 0, (0, 0), ⟨#[]⟩⟩) (T.ow.sl dotE) (by show P3.1.length < _; omega)) ?_; rintro _ _ ⟨rfl, rfl⟩
      by_cases my : mayO ⟨P1.1, P2.1, P3.1, P4.1, P5.1, P6.1, 0, 0, (0, 0), ⟨#[]⟩⟩
      · simp (disch := omega) only [go_sem, ↓reduceIte, Nat.reduceEqDiff, Nat.reduceAdd, Nat.reduceMul, Nat.reduceSub, Nat.reduceLT, Nat.reduceLeDiff, Nat.reduceBEq, reduceCtorEq, Int.reduceLT, Int.reduceEq, Int.reduceLE, Int.reduceAdd, Int.reduceSub, Int.reduceToNat, Int.reduceNeg, z, hc, my]
        refine wJ_of (F.num_Reader_Err_J T.rd) ?_; rintro _ _ ⟨rfl, rfl⟩
        simp (disch := omega) only [go_sem, ↓reduceIte, Nat.reduceEqDiff, Nat.reduceAdd, Nat.reduceMul, Nat.reduceSub, Nat.reduceLT, Nat.reduceLeDiff, Nat.reduceBEq, reduceCtorEq, Int.reduceLT, Int.reduceEq, Int.reduceLE, Int.reduceAdd, Int.reduceSub, Int.reduceToNat, Int.reduceNeg, z, hc]
        refine wst_op ⟨P1.1, P2.1, P3.1, P4.1, P5.1, P6.1, 0, 0, (0, 0), ⟨#[]⟩⟩ (.slice bd P3.1.length cd) T.ox rfl rfl (by decide) (wrote_full _ _ rfl) fun Sf hof hbf => ?_
        have hcf := hof.c
        simp (disch := omega) only [go_sem, ↓reduceIte, Nat.reduceEqDiff, Nat.reduceAdd, Nat.reduceMul, Nat.reduceSub, Nat.reduceLT, Nat.reduceLeDiff, Nat.reduceBEq, reduceCtorEq, Int.reduceLT, Int.reduceEq, Int.reduceLE, Int.reduceAdd, Int.reduceSub, Int.reduceToNat, Int.reduceNeg, hcf]
        obtain ⟨f1, f2, f3⟩ := T.fin hbf
        rw [hO, rdF, if_pos z, if_pos my]
        exact ⟨⟨_, rfl, f2⟩, f1, f3⟩
      · simp (disch := omega) only [go_sem, ↓reduceIte, Nat.reduceEqDiff, Nat.reduceAdd, Nat.reduceMul, Nat.reduceSub, Nat.reduceLT, Nat.reduceLeDiff, Nat.reduceBEq, reduceCtorEq, Int.reduceLT, Int.reduceEq, Int.reduceLE, Int.reduceAdd, Int.reduceSub, Int.reduceToNat, Int.reduceNeg, z, hc, my]
        refine wJ_of (F.num_Reader_Fail_J (x := 30) T.rd (by decide)) ?_; rintro _ Sr ⟨rfl, hr, hb⟩
        replace T := T.step (p' := failP 30 P6.2) hr hb
        have ze : (failP 30 P6.2).2 ≠ 0 := by simp [failP, z]
        simp (disch := omega) only [go_sem, ↓reduceIte, Nat.reduceEqDiff, Nat.reduceAdd, Nat.reduceMul, Nat.reduceSub, Nat.reduceLT, Nat.reduceLeDiff, Nat.reduceBEq, reduceCtorEq, Int.reduceLT, Int.reduceEq, Int.reduceLE, Int.reduceAdd, Int.reduceSub, Int.reduceToNat, Int.reduceNeg]
        refine wJ_of (F.num_Reader_Err_J T.rd) ?_; rintro _ _ ⟨rfl, rfl⟩
        simp (disch := omega) only [go_sem, ↓reduceIte, Nat.reduceEqDiff, Nat.reduceAdd, Nat.reduceMul, Nat.reduceSub, Nat.reduceLT, Nat.reduceLeDiff, Nat.reduceBEq, reduceCtorEq, Int.reduceLT, Int.reduceEq, Int.reduceLE, Int.reduceAdd, Int.reduceSub, Int.reduceToNat, Int.reduceNeg, ze]
        refine wst_op oz nilS T.ox rfl rfl (by decide) (wrote_full _ _ rfl) fun Sf hof hbf => ?_
        have hcf := hof.c
        simp (disch := omega) only [go_sem, ↓reduceIte, Nat.reduceEqDiff, Nat.reduceAdd, Nat.reduceMul, Nat.reduceSub, Nat.reduceLT, Nat.reduceLeDiff, Nat.reduceBEq, reduceCtorEq, Int.reduceLT, Int.reduceEq, Int.reduceLE, Int.reduceAdd, Int.reduceSub, Int.reduceToNat, Int.reduceNeg, hcf]
        obtain ⟨f1, f2, f3⟩ := T.fin hbf
        rw [hO, rdF, if_pos z, if_neg my]
        exact ⟨⟨nilS, rfl, OwnT.nil ..⟩, f1, f3⟩
    · simp (disch := omega) only [go_sem, ↓reduceIte, Nat.reduceEqDiff, Nat.reduceAdd, Nat.reduceMul, Nat.reduceSub, Nat.reduceLT, Nat.reduceLeDiff, Nat.reduceBEq, reduceCtorEq, Int.reduceLT, Int.reduceEq, Int.reduceLE, Int.reduceAdd, Int.reduceSub, Int.reduceToNat, Int.reduceNeg, z]
      refine wJ_of (F.num_Reader_Err_J T.rd) ?_; rintro _ _ ⟨rfl, rfl⟩
      simp (disch := omega) only [go_sem, ↓reduceIte, Nat.reduceEqDiff, Nat.reduceAdd, Nat.reduceMul, Nat.reduceSub, Nat.reduceLT, Nat.reduceLeDiff, Nat.reduceBEq, reduceCtorEq, Int.reduceLT, Int.reduceEq, Int.reduceLE, Int.reduceAdd, Int.reduceSub, Int.reduceToNat, Int.reduceNeg, z]
      refine wst_op oz nilS T.ox rfl rfl (by decide) (wrote_full _ _ rfl) fun Sf hof hbf => ?_
      have hcf := hof.c
      simp (disch := omega) only [go_sem, ↓reduceIte, Nat.reduceEqDiff, Nat.reduceAdd, Nat.reduceMul, Nat.reduceSub, Nat.reduceLT, Nat.reduceLeDiff, Nat.reduceBEq, reduceCtorEq, Int.reduceLT, Int.reduceEq, Int.reduceLE, Int.reduceAdd, Int.reduceSub, Int.reduceToNat, Int.reduceNeg, hcf]
      obtain ⟨f1, f2, f3⟩ := T.fin hbf
      rw [hO, rdF, if_neg z]
      exact ⟨⟨nilS, rfl, OwnT.nil ..⟩, f1, f3⟩
  by_cases k3 : P4.1 = 3
  · have m1 : ¬ P4.1 < 1 := by omega
    have m3 : ¬ 3 < P4.1 := by omega
    have hc4 := T.ob.c
    have hf : formP P4.1 P4.2 = P4.2 := if_pos (by omega)
    simp (disch := omega) only [go_sem, ↓reduceIte, Nat.reduceEqDiff, Nat.reduceAdd, Nat.reduceMul, Nat.reduceSub, Nat.reduceLT, Nat.reduceLeDiff, Nat.reduceBEq, reduceCtorEq, Int.reduceLT, Int.reduceEq, Int.reduceLE, Int.reduceAdd, Int.reduceSub, Int.reduceToNat, Int.reduceNeg, hc4, k1, k2, k3, m1, m3]
    have hG5 := G.d
    have hbn := T.n
    have hGL := G.2.2
    refine wJ_of (F.dots_Take_J T.rd (Nat.le_trans T.hB T.n) G.1 G.2.1 (by omega)) ?_; rintro _ Sr ⟨rfl, hr, hb⟩
    replace T := T.step (p' := (rdD P4.2.1 P4.2.2).2) hr hb
    replace G := hG5
    generalize hP5 : rdD P4.2.1 P4.2.2 = P5 at *
    simp (disch := omega) only [go_sem, ↓reduceIte, Nat.reduceEqDiff, Nat.reduceAdd, Nat.reduceMul, Nat.reduceSub, Nat.reduceLT, Nat.reduceLeDiff, Nat.reduceBEq, reduceCtorEq, Int.reduceLT, Int.reduceEq, Int.reduceLE, Int.reduceAdd, Int.reduceSub, Int.reduceToNat, Int.reduceNeg]
    refine wst_op ⟨P1.1, P2.1, P3.1, P4.1, P5.1, (0, 0), 0, 0, (0, 0), ⟨#[]⟩⟩ (.slice bd P3.1.length cd) T.ob rfl rfl (by decide) rfl fun Ss hob hbs => ?_
    replace T := T.set hob hbs rfl
    have hc5 := T.ob.c
    simp (disch := omega) only [go_sem, ↓reduceIte, Nat.reduceEqDiff, Nat.reduceAdd, Nat.reduceMul, Nat.reduceSub, Nat.reduceLT, Nat.reduceLeDiff, Nat.reduceBEq, reduceCtorEq, Int.reduceLT, Int.reduceEq, Int.reduceLE, Int.reduceAdd, Int.reduceSub, Int.reduceToNat, Int.reduceNeg, hc5, k1, k2, k3, m1, m3]
    have hG6 := G.d
    have hbn := T.n
    have hGL := G.2.2
    refine wJ_of (F.dots_Take_J T.rd (Nat.le_trans T.hB T.n) G.1 G.2.1 (by omega)) ?_; rintro _ Sr ⟨rfl, hr, hb⟩
    replace T := T.step (p' := (rdD P5.2.1 P5.2.2).2) hr hb
    replace G := hG6
    generalize hP6 : rdD P5.2.1 P5.2.2 = P6 at *
    simp (disch := omega) only [go_sem, ↓reduceIte, Nat.reduceEqDiff, Nat.reduceAdd, Nat.reduceMul, Nat.reduceSub, Nat.reduceLT, Nat.reduceLeDiff, Nat.reduceBEq, reduceCtorEq, Int.reduceLT, Int.reduceEq, Int.reduceLE, Int.reduceAdd, Int.reduceSub, Int.reduceToNat, Int.reduceNeg]
    refine wst_op ⟨P1.1, P2.1, P3.1, P4.1, P5.1, (0, 0), 0, 0, P6.1, ⟨#[]⟩⟩ (.slice bd P3.1.length cd) T.ob rfl rfl (by decide) rfl fun Ss hob hbs => ?_
    replace T := T.set hob hbs rfl
    simp (disch := omega) only [go_sem, ↓reduceIte, Nat.reduceEqDiff, Nat.reduceAdd, Nat.reduceMul, Nat.reduceSub, Nat.reduceLT, Nat.reduceLeDiff, Nat.reduceBEq, reduceCtorEq, Int.reduceLT, Int.reduceEq, Int.reduceLE, Int.reduceAdd, Int.reduceSub, Int.reduceToNat, Int.reduceNeg]
    have hG7 := G.t
    have hbn := T.n
    have hGL := G.2.2
    refine wJ_of (F.num_Reader_Text_J T.rd G.1 G.2.1 (by omega)) ?_; rintro _ Sr ⟨rfl, hr, hb⟩
    replace T := T.step (p' := (rdT P6.2.1 P6.2.2).2) hr hb
    replace G := hG7
    generalize hP7 : rdT P6.2.1 P6.2.2 = P7 at *
    simp (disch := omega) only [go_sem, ↓reduceIte, Nat.reduceEqDiff, Nat.reduceAdd, Nat.reduceMul, Nat.reduceSub, Nat.reduceLT, Nat.reduceLeDiff, Nat.reduceBEq, reduceCtorEq, Int.reduceLT, Int.reduceEq, Int.reduceLE, Int.reduceAdd, Int.reduceSub, Int.reduceToNat, Int.reduceNeg]
    refine wst_op ⟨P1.1, P2.1, P3.1, P4.1, P5.1, (0, 0), 0, 0, P6.1, P7.1⟩ (.slice bd P3.1.length cd) T.ob rfl rfl (by decide) rfl fun Ss hob hbs => ?_
    replace T := T.set hob hbs rfl
    have hO : rdO p = rdF ⟨P1.1, P2.1, P3.1, P4.1, P5.1, (0, 0), 0, 0, P6.1, P7.1⟩ P7.2 := by
      simp only [rdO, rdH, hP1, hP2, hP3, hP4, hf, hP5]
      simp only [rdB, ↓reduceIte, Int.reduceEq, k3, hP6, hP7]
    simp (disch := omega) only [go_sem, ↓reduceIte, Nat.reduceEqDiff, Nat.reduceAdd, Nat.reduceMul, Nat.reduceSub, Nat.reduceLT, Nat.reduceLeDiff, Nat.reduceBEq, reduceCtorEq, Int.reduceLT, Int.reduceEq, Int.reduceLE, Int.reduceAdd, Int.reduceSub, Int.reduceToNat, Int.reduceNeg]
    refine wJ_of (F.num_Reader_Err_J T.rd) ?_; rintro _ _ ⟨rfl, rfl⟩
    by_cases z : P7.2.2 = 0
    · have hc := T.ob.c
      simp (disch := omega) only [go_sem, ↓reduceIte, Nat.reduceEqDiff, Nat.reduceAdd, Nat.reduceMul, Nat.reduceSub, Nat.reduceLT, Nat.reduceLeDiff, Nat.reduceBEq, reduceCtorEq, Int.reduceLT, Int.reduceEq, Int.reduceLE, Int.reduceAdd, Int.reduceSub, Int.reduceToNat, Int.reduceNeg, z, hc]
      refine wJ_of (F.ops_Check_J (o := ⟨P1.1, P2.1, P3.1, P4.1, P5.1, (0, 0), 0, 0, P6.1, P7.1⟩) (T.ow.sl dotE) (by show P3.1.length < _; omega)) ?_; rintro _ _ ⟨rfl, rfl⟩
      by_cases my : mayO ⟨P1.1, P2.1, P3.1, P4.1, P5.1, (0, 0), 0, 0, P6.1, P7.1⟩
      · simp (disch := omega) only [go_sem, ↓reduceIte, Nat.reduceEqDiff, Nat.reduceAdd, Nat.reduceMul, Nat.reduceSub, Nat.reduceLT, Nat.reduceLeDiff, Nat.reduceBEq, reduceCtorEq, Int.reduceLT, Int.reduceEq, Int.reduceLE, Int.reduceAdd, Int.reduceSub, Int.reduceToNat, Int.reduceNeg, z, hc, my]
        refine wJ_of (F.num_Reader_Err_J T.rd) ?_; rintro _ _ ⟨rfl, rfl⟩
        simp (disch := omega) only [go_sem, ↓reduceIte, Nat.reduceEqDiff, Nat.reduceAdd, Nat.reduceMul, Nat.reduceSub, Nat.reduceLT, Nat.reduceLeDiff, Nat.reduceBEq, reduceCtorEq, Int.reduceLT, Int.reduceEq, Int.reduceLE, Int.reduceAdd, Int.reduceSub, Int.reduceToNat, Int.reduceNeg, z, hc]
        refine wst_op ⟨P1.1, P2.1, P3.1, P4.1, P5.1, (0, 0), 0, 0, P6.1, P7.1⟩ (.slice bd P3.1.length cd) T.ox rfl rfl (by decide) (wrote_full _ _ rfl) fun Sf hof hbf => ?_
        have hcf := hof.c
        simp (disch := omega) only [go_sem, ↓reduceIte, Nat.reduceEqDiff, Nat.reduceAdd, Nat.reduceMul, Nat.reduceSub, Nat.reduceLT, Nat.reduceLeDiff, Nat.reduceBEq, reduceCtorEq, Int.reduceLT, Int.reduceEq, Int.reduceLE, Int.reduceAdd, Int.reduceSub, Int.reduceToNat, Int.reduceNeg, hcf]
        obtain ⟨f1, f2, f3⟩ := T.fin hbf
        rw [hO, rdF, if_pos z, if_pos my]
        exact ⟨⟨_, rfl, f2⟩, f1, f3⟩
      · simp (disch := omega) only [go_sem, ↓reduceIte, Nat.reduceEqDiff, Nat.reduceAdd, Nat.reduceMul, Nat.reduceSub, Nat.reduceLT, Nat.reduceLeDiff, Nat.reduceBEq, reduceCtorEq, Int.reduceLT, Int.reduceEq, Int.reduceLE, Int.reduceAdd, Int.reduceSub, Int.reduceToNat, Int.reduceNeg, z, hc, my]
        refine wJ_of (F.num_Reader_Fail_J (x := 30) T.rd (by decide)) ?_; rintro _ Sr ⟨rfl, hr, hb⟩
        replace T := T.step (p' := failP 30 P7.2) hr hb
        have ze : (failP 30 P7.2).2 ≠ 0 := by simp [failP, z]
        simp (disch := omega) only [go_sem, ↓reduceIte, Nat.reduceEqDiff, Nat.reduceAdd, Nat.reduceMul, Nat.reduceSub, Nat.reduceLT, Nat.reduceLeDiff, Nat.reduceBEq, reduceCtorEq, Int.reduceLT, Int.reduceEq, Int.reduceLE, Int.reduceAdd, Int.reduceSub, Int.reduceToNat, Int.reduceNeg]
        refine wJ_of (F.num_Reader_Err_J T.rd) ?_; rintro _ _ ⟨rfl, rfl⟩
        simp (disch := omega) only [go_sem, ↓reduceIte, Nat.reduceEqDiff, Nat.reduceAdd, Nat.reduceMul, Nat.reduceSub, Nat.reduceLT, Nat.reduceLeDiff, Nat.reduceBEq, reduceCtorEq, Int.reduceLT, Int.reduceEq, Int.reduceLE, Int.reduceAdd, Int.reduceSub, Int.reduceToNat, Int.reduceNeg, ze]
        refine wst_op oz nilS T.ox rfl rfl (by decide) (wrote_full _ _ rfl) fun Sf hof hbf => ?_
        have hcf := hof.c
        simp (disch := omega) only [go_sem, ↓reduceIte, Nat.reduceEqDiff, Nat.reduceAdd, Nat.reduceMul, Nat.reduceSub, Nat.reduceLT, Nat.reduceLeDiff, Nat.reduceBEq, reduceCtorEq, Int.reduceLT, Int.reduceEq, Int.reduceLE, Int.reduceAdd, Int.reduceSub, Int.reduceToNat, Int.reduceNeg, hcf]
        obtain ⟨f1, f2, f3⟩ := T.fin hbf
        rw [hO, rdF, if_pos z, if_neg my]
        exact ⟨⟨nilS, rfl, OwnT.nil ..⟩, f1, f3⟩
    · simp (disch := omega) only [go_sem, ↓reduceIte, Nat.reduceEqDiff, Nat.reduceAdd, Nat.reduceMul, Nat.reduceSub, Nat.reduceLT, Nat.reduceLeDiff, Nat.reduceBEq, reduceCtorEq, Int.reduceLT, Int.reduceEq, Int.reduceLE, Int.reduceAdd, Int.reduceSub, Int.reduceToNat, Int.reduceNeg, z]
      refine wJ_of (F.num_Reader_Err_J T.rd) ?_; rintro _ _ ⟨rfl, rfl⟩
      simp (disch := omega) only [go_sem, ↓reduceIte, Nat.reduceEqDiff, Nat.reduceAdd, Nat.reduceMul, Nat.reduceSub, Nat.reduceLT, Nat.reduceLeDiff, Nat.reduceBEq, reduceCtorEq, Int.reduceLT, Int.reduceEq, Int.reduceLE, Int.reduceAdd, Int.reduceSub, Int.reduceToNat, Int.reduceNeg, z]
      refine wst_op oz nilS T.ox rfl rfl (by decide) (wrote_full _ _ rfl) fun Sf hof hbf => ?_
      have hcf := hof.c
      simp (disch := omega) only [go_sem, ↓reduceIte, Nat.reduceEqDiff, Nat.reduceAdd, Nat.reduceMul, Nat.reduceSub, Nat.reduceLT, Nat.reduceLeDiff, Nat.reduceBEq, reduceCtorEq, Int.reduceLT, Int.reduceEq, Int.reduceLE, Int.reduceAdd, Int.reduceSub, Int.reduceToNat, Int.reduceNeg, hcf]
      obtain ⟨f1, f2, f3⟩ := T.fin hbf
      rw [hO, rdF, if_neg z]
      exact ⟨⟨nilS, rfl, OwnT.nil ..⟩, f1, f3⟩
  have hc4 := T.ob.c
  have hn : P4.1 < 1 ∨ 3 < P4.1 := by omega
  have hf : formP P4.1 P4.2 = failP 11 P4.2 := if_neg (by omega)
  by_cases n1 : P4.1 < 1
  · simp (disch := omega) only [go_sem, ↓reduceIte, Nat.reduceEqDiff, Nat.reduceAdd, Nat.reduceMul, Nat.reduceSub, Nat.reduceLT, Nat.reduceLeDiff, Nat.reduceBEq, reduceCtorEq, Int.reduceLT, Int.reduceEq, Int.reduceLE, Int.reduceAdd, Int.reduceSub, Int.reduceToNat, Int.reduceNeg, hc4, n1]
    refine wJ_of (F.num_Reader_Fail_J (x := 11) T.rd (by decide)) ?_; rintro _ Sr ⟨rfl, hr, hb⟩
    replace T := T.step (p' := failP 11 P4.2) hr hb
    replace G := G.fail 11
    simp (disch := omega) only [go_sem, ↓reduceIte, Nat.reduceEqDiff, Nat.reduceAdd, Nat.reduceMul, Nat.reduceSub, Nat.reduceLT, Nat.reduceLeDiff, Nat.reduceBEq, reduceCtorEq, Int.reduceLT, Int.reduceEq, Int.reduceLE, Int.reduceAdd, Int.reduceSub, Int.reduceToNat, Int.reduceNeg]
    have hG5 := G.d
    have hbn := T.n
    have hGL := G.2.2
    refine wJ_of (F.dots_Take_J T.rd (Nat.le_trans T.hB T.n) G.1 G.2.1 (by omega)) ?_; rintro _ Sr ⟨rfl, hr, hb⟩
    replace T := T.step (p' := (rdD (failP 11 P4.2).1 (failP 11 P4.2).2).2) hr hb
    replace G := hG5
    generalize hP5 : rdD (failP 11 P4.2).1 (failP 11 P4.2).2 = P5 at *
    simp (disch := omega) only [go_sem, ↓reduceIte, Nat.reduceEqDiff, Nat.reduceAdd, Nat.reduceMul, Nat.reduceSub, Nat.reduceLT, Nat.reduceLeDiff, Nat.reduceBEq, reduceCtorEq, Int.reduceLT, Int.reduceEq, Int.reduceLE, Int.reduceAdd, Int.reduceSub, Int.reduceToNat, Int.reduceNeg]
    refine wst_op ⟨P1.1, P2.1, P3.1, P4.1, P5.1, (0, 0), 0, 0, (0, 0), ⟨#[]⟩⟩ (.slice bd P3.1.length cd) T.ob rfl rfl (by decide) rfl fun Ss hob hbs => ?_
    replace T := T.set hob hbs rfl
    have hc5 := T.ob.c
    simp (disch := omega) only [go_sem, ↓reduceIte, Nat.reduceEqDiff, Nat.reduceAdd, Nat.reduceMul, Nat.reduceSub, Nat.reduceLT, Nat.reduceLeDiff, Nat.reduceBEq, reduceCtorEq, Int.reduceLT, Int.reduceEq, Int.reduceLE, Int.reduceAdd, Int.reduceSub, Int.reduceToNat, Int.reduceNeg, hc5, k1, k2, k3]
    have hO : rdO p = rdF ⟨P1.1, P2.1, P3.1, P4.1, P5.1, (0, 0), 0, 0, (0, 0), ⟨#[]⟩⟩ P5.2 := by
      simp only [rdO, rdH, hP1, hP2, hP3, hP4, hf, hP5]
      simp only [rdB, ↓reduceIte, Int.reduceEq, k1, k2, k3]
    refine wJ_of (F.num_Reader_Err_J T.rd) ?_; rintro _ _ ⟨rfl, rfl⟩
    by_cases z : P5.2.2 = 0
    · have hc := T.ob.c
      simp (disch := omega) only [go_sem, ↓reduceIte, Nat.reduceEqDiff, Nat.reduceAdd, Nat.reduceMul, Nat.reduceSub, Nat.reduceLT, Nat.reduceLeDiff, Nat.reduceBEq, reduceCtorEq, Int.reduceLT, Int.reduceEq, Int.reduceLE, Int.reduceAdd, Int.reduceSub, Int.reduceToNat, Int.reduceNeg, z, hc]
      refine wJ_of (F.ops_Check_J (o := ⟨P1.1, P2.1, P3.1, P4.1, P5.1, (0, 0), 0, 0, (0, 0), ⟨#[]⟩⟩) (T.ow.sl dotE) (by show P3.1.length < _; omega)) ?_; rintro _ _ ⟨rfl, rfl⟩
      by_cases my : mayO ⟨P1.1, P2.1, P3.1, P4.1, P5.1, (0, 0), 0, 0, (0, 0), ⟨#[]⟩⟩
      · simp (disch := omega) only [go_sem, ↓reduceIte, Nat.reduceEqDiff, Nat.reduceAdd, Nat.reduceMul, Nat.reduceSub, Nat.reduceLT, Nat.reduceLeDiff, Nat.reduceBEq, reduceCtorEq, Int.reduceLT, Int.reduceEq, Int.reduceLE, Int.reduceAdd, Int.reduceSub, Int.reduceToNat, Int.reduceNeg, z, hc, my]
        refine wJ_of (F.num_Reader_Err_J T.rd) ?_; rintro _ _ ⟨rfl, rfl⟩
        simp (disch := omega) only [go_sem, ↓reduceIte, Nat.reduceEqDiff, Nat.reduceAdd, Nat.reduceMul, Nat.reduceSub, Nat.reduceLT, Nat.reduceLeDiff, Nat.reduceBEq, reduceCtorEq, Int.reduceLT, Int.reduceEq, Int.reduceLE, Int.reduceAdd, Int.reduceSub, Int.reduceToNat, Int.reduceNeg, z, hc]
        refine wst_op ⟨P1.1, P2.1, P3.1, P4.1, P5.1, (0, 0), 0, 0, (0, 0), ⟨#[]⟩⟩ (.slice bd P3.1.length cd) T.ox rfl rfl (by decide) (wrote_full _ _ rfl) fun Sf hof hbf => ?_
        have hcf := hof.c
        simp (disch := omega) only [go_sem, ↓reduceIte, Nat.reduceEqDiff, Nat.reduceAdd, Nat.reduceMul, Nat.reduceSub, Nat.reduceLT, Nat.reduceLeDiff, Nat.reduceBEq, reduceCtorEq, Int.reduceLT, Int.reduceEq, Int.reduceLE, Int.reduceAdd, Int.reduceSub, Int.reduceToNat, Int.reduceNeg, hcf]
        obtain ⟨f1, f2, f3⟩ := T.fin hbf
        rw [hO, rdF, if_pos z, if_pos my]
        exact ⟨⟨_, rfl, f2⟩, f1, f3⟩
      · simp (disch := omega) only [go_sem, ↓reduceIte, Nat.reduceEqDiff, Nat.reduceAdd, Nat.reduceMul, Nat.reduceSub, Nat.reduceLT, Nat.reduceLeDiff, Nat.reduceBEq, reduceCtorEq, Int.reduceLT, Int.reduceEq, Int.reduceLE, Int.reduceAdd, Int.reduceSub, Int.reduceToNat, Int.reduceNeg, z, hc, my]
        refine wJ_of (F.num_Reader_Fail_J (x := 30) T.rd (by decide)) ?_; rintro _ Sr ⟨rfl, hr, hb⟩
        replace T := T.step (p' := failP 30 P5.2) hr hb
        have ze : (failP 30 P5.2).2 ≠ 0 := by simp [failP, z]
        simp (disch := omega) only [go_sem, ↓reduceIte, Nat.reduceEqDiff, Nat.reduceAdd, Nat.reduceMul, Nat.reduceSub, Nat.reduceLT, Nat.reduceLeDiff, Nat.reduceBEq, reduceCtorEq, Int.reduceLT, Int.reduceEq, Int.reduceLE, Int.reduceAdd, Int.reduceSub, Int.reduceToNat, Int.reduceNeg]
        refine wJ_of (F.num_Reader_Err_J T.rd) ?_; rintro _ _ ⟨rfl, rfl⟩
        simp (disch := omega) only [go_sem, ↓reduceIte, Nat.reduceEqDiff, Nat.reduceAdd, Nat.reduceMul, Nat.reduceSub, Nat.reduceLT, Nat.reduceLeDiff, Nat.reduceBEq, reduceCtorEq, Int.reduceLT, Int.reduceEq, Int.reduceLE, Int.reduceAdd, Int.reduceSub, Int.reduceToNat, Int.reduceNeg, ze]
        refine wst_op oz nilS T.ox rfl rfl (by decide) (wrote_full _ _ rfl) fun Sf hof hbf => ?_
        have hcf := hof.c
        simp (disch := omega) only [go_sem, ↓reduceIte, Nat.reduceEqDiff, Nat.reduceAdd, Nat.reduceMul, Nat.reduceSub, Nat.reduceLT, Nat.reduceLeDiff, Nat.reduceBEq, reduceCtorEq, Int.reduceLT, Int.reduceEq, Int.reduceLE, Int.reduceAdd, Int.reduceSub, Int.reduceToNat, Int.reduceNeg, hcf]
        obtain ⟨f1, f2, f3⟩ := T.fin hbf
        rw [hO, rdF, if_pos z, if_neg my]
        exact ⟨⟨nilS, rfl, OwnT.nil ..⟩, f1, f3⟩
    · simp (disch := omega) only [go_sem, ↓reduceIte, Nat.reduceEqDiff, Nat.reduceAdd, Nat.reduceMul, Nat.reduceSub, Nat.reduceLT, Nat.reduceLeDiff, Nat.reduceBEq, reduceCtorEq, Int.reduceLT, Int.reduceEq, Int.reduceLE, Int.reduceAdd, Int.reduceSub, Int.reduceToNat, Int.reduceNeg, z]
      refine wJ_of (F.num_Reader_Err_J T.rd) ?_; rintro _ _ ⟨rfl, rfl⟩
      simp (disch := omega) only [go_sem, ↓reduceIte, Nat.reduceEqDiff, Nat.reduceAdd, Nat.reduceMul, Nat.reduceSub, Nat.reduceLT, Nat.reduceLeDiff, Nat.reduceBEq, reduceCtorEq, Int.reduceLT, Int.reduceEq, Int.reduceLE, Int.reduceAdd, Int.reduceSub, Int.reduceToNat, Int.reduceNeg, z]
      refine wst_op oz nilS T.ox rfl rfl (by decide) (wrote_full _ _ rfl) fun Sf hof hbf => ?_
      have hcf := hof.c
      simp (disch := omega) only [go_sem, ↓reduceIte, Nat.reduceEqDiff, Nat.reduceAdd, Nat.reduceMul, Nat.reduceSub, Nat.reduceLT, Nat.reduceLeDiff, Nat.reduceBEq, reduceCtorEq, Int.reduceLT, Int.reduceEq, Int.reduceLE, Int.reduceAdd, Int.reduceSub, Int.reduceToNat, Int.reduceNeg, hcf]
      obtain ⟨f1, f2, f3⟩ := T.fin hbf
      rw [hO, rdF, if_neg z]
      exact ⟨⟨nilS, rfl, OwnT.nil ..⟩, f1, f3⟩
  · have n3 : 3 < P4.1 := by omega
    simp (disch := omega) only [go_sem, ↓reduceIte, Nat.reduceEqDiff, Nat.reduceAdd, Nat.reduceMul, Nat.reduceSub, Nat.reduceLT, Nat.reduceLeDiff, Nat.reduceBEq, reduceCtorEq, Int.reduceLT, Int.reduceEq, Int.reduceLE, Int.reduceAdd, Int.reduceSub, Int.reduceToNat, Int.reduceNeg, hc4, n1, n3]
    refine wJ_of (F.num_Reader_Fail_J (x := 11) T.rd (by decide)) ?_; rintro _ Sr ⟨rfl, hr, hb⟩
    replace T := T.step (p' := failP 11 P4.2) hr hb
    replace G := G.fail 11
    simp (disch := omega) only [go_sem, ↓reduceIte, Nat.reduceEqDiff, Nat.reduceAdd, Nat.reduceMul, Nat.reduceSub, Nat.reduceLT, Nat.reduceLeDiff, Nat.reduceBEq, reduceCtorEq, Int.reduceLT, Int.reduceEq, Int.reduceLE, Int.reduceAdd, Int.reduceSub, Int.reduceToNat, Int.reduceNeg]
    have hG5 := G.d
    have hbn := T.n
    have hGL := G.2.2
    refine wJ_of (F.dots_Take_J T.rd (Nat.le_trans T.hB T.n) G.1 G.2.1 (by omega)) ?_; rintro _ Sr ⟨rfl, hr, hb⟩
    replace T := T.step (p' := (rdD (failP 11 P4.2).1 (failP 11 P4.2).2).2) hr hb
    replace G := hG5
    generalize hP5 : rdD (failP 11 P4.2).1 (failP 11 P4.2).2 = P5 at *
    simp (disch := omega) only [go_sem, ↓reduceIte, Nat.reduceEqDiff, Nat.reduceAdd, Nat.reduceMul, Nat.reduceSub, Nat.reduceLT, Nat.reduceLeDiff, Nat.reduceBEq, reduceCtorEq, Int.reduceLT, Int.reduceEq, Int.reduceLE, Int.reduceAdd, Int.reduceSub, Int.reduceToNat, Int.reduceNeg]
    refine wst_op ⟨P1.1, P2.1, P3.1, P4.1, P5.1, (0, 0), 0, 0, (0, 0), ⟨#[]⟩⟩ (.slice bd P3.1.length cd) T.ob rfl rfl (by decide) rfl fun Ss hob hbs => ?_
    replace T := T.set hob hbs rfl
    have hc5 := T.ob.c
    simp (disch := omega) only [go_sem, ↓reduceIte, Nat.reduceEqDiff, Nat.reduceAdd, Nat.reduceMul, Nat.reduceSub, Nat.reduceLT, Nat.reduceLeDiff, Nat.reduceBEq, reduceCtorEq, Int.reduceLT, Int.reduceEq, Int.reduceLE, Int.reduceAdd, Int.reduceSub, Int.reduceToNat, Int.reduceNeg, hc5, k1, k2, k3]
    have hO : rdO p = rdF ⟨P1.1, P2.1, P3.1, P4.1, P5.1, (0, 0), 0, 0, (0, 0), ⟨#[]⟩⟩ P5.2 := by
      simp only [rdO, rdH, hP1, hP2, hP3, hP4, hf, hP5]
      simp only [rdB, ↓reduceIte, Int.reduceEq, k1, k2, k3]
    refine wJ_of (F.num_Reader_Err_J T.rd) ?_; rintro _ _ ⟨rfl, rfl⟩
    by_cases z : P5.2.2 = 0
    · have hc := T.ob.c
      simp (disch := omega) only [go_sem, ↓reduceIte, Nat.reduceEqDiff, Nat.reduceAdd, Nat.reduceMul, Nat.reduceSub, Nat.reduceLT, Nat.reduceLeDiff, Nat.reduceBEq, reduceCtorEq, Int.reduceLT, Int.reduceEq, Int.reduceLE, Int.reduceAdd, Int.reduceSub, Int.reduceToNat, Int.reduceNeg, z, hc]
      refine wJ_of (F.ops_Check_J (o := ⟨P1.1, P2.1, P3.1, P4.1, P5.1, (0, 0), 0, 0, (0, 0), ⟨#[]⟩⟩) (T.ow.sl dotE) (by show P3.1.length < _; omega)) ?_; rintro _ _ ⟨rfl, rfl⟩
      by_cases my : mayO ⟨P1.1, P2.1, P3.1, P4.1, P5.1, (0, 0), 0, 0, (0, 0), ⟨#[]⟩⟩
      · simp (disch := omega) only [go_sem, ↓reduceIte, Nat.reduceEqDiff, Nat.reduceAdd, Nat.reduceMul, Nat.reduceSub, Nat.reduceLT, Nat.reduceLeDiff, Nat.reduceBEq, reduceCtorEq, Int.reduceLT, Int.reduceEq, Int.reduceLE, Int.reduceAdd, Int.reduceSub, Int.reduceToNat, Int.reduceNeg, z, hc, my]
        refine wJ_of (F.num_Reader_Err_J T.rd) ?_; rintro _ _ ⟨rfl, rfl⟩
        simp (disch := omega) only [go_sem, ↓reduceIte, Nat.reduceEqDiff, Nat.reduceAdd, Nat.reduceMul, Nat.reduceSub, Nat.reduceLT, Nat.reduceLeDiff, Nat.reduceBEq, reduceCtorEq, Int.reduceLT, Int.reduceEq, Int.reduceLE, Int.reduceAdd, Int.reduceSub, Int.reduceToNat, Int.reduceNeg, z, hc]
        refine wst_op ⟨P1.1, P2.1, P3.1, P4.1, P5.1, (0, 0), 0, 0, (0, 0), ⟨#[]⟩⟩ (.slice bd P3.1.length cd) T.ox rfl rfl (by decide) (wrote_full _ _ rfl) fun Sf hof hbf => ?_
        have hcf := hof.c
        simp (disch := omega) only [go_sem, ↓reduceIte, Nat.reduceEqDiff, Nat.reduceAdd, Nat.reduceMul, Nat.reduceSub, Nat.reduceLT, Nat.reduceLeDiff, Nat.reduceBEq, reduceCtorEq, Int.reduceLT, Int.reduceEq, Int.reduceLE, Int.reduceAdd, Int.reduceSub, Int.reduceToNat, Int.reduceNeg, hcf]
        obtain ⟨f1, f2, f3⟩ := T.fin hbf
        rw [hO, rdF, if_pos z, if_pos my]
        exact ⟨⟨_, rfl, f2⟩, f1, f3⟩
      · simp (disch := omega) only [go_sem, ↓reduceIte, Nat.reduceEqDiff, Nat.reduceAdd, Nat.reduceMul, Nat.reduceSub, Nat.reduceLT, Nat.reduceLeDiff, Nat.reduceBEq, reduceCtorEq, Int.reduceLT, Int.reduceEq, Int.reduceLE, Int.reduceAdd, Int.reduceSub, Int.reduceToNat, Int.reduceNeg, z, hc, my]
        refine wJ_of (F.num_Reader_Fail_J (x := 30) T.rd (by decide)) ?_; rintro _ Sr ⟨rfl, hr, hb⟩
        replace T := T.step (p' := failP 30 P5.2) hr hb
        have ze : (failP 30 P5.2).2 ≠ 0 := by simp [failP, z]
        simp (disch := omega) only [go_sem, ↓reduceIte, Nat.reduceEqDiff, Nat.reduceAdd, Nat.reduceMul, Nat.reduceSub, Nat.reduceLT, Nat.reduceLeDiff, Nat.reduceBEq, reduceCtorEq, Int.reduceLT, Int.reduceEq, Int.reduceLE, Int.reduceAdd, Int.reduceSub, Int.reduceToNat, Int.reduceNeg]
        refine wJ_of (F.num_Reader_Err_J T.rd) ?_; rintro _ _ ⟨rfl, rfl⟩
        simp (disch := omega) only [go_sem, ↓reduceIte, Nat.reduceEqDiff, Nat.reduceAdd, Nat.reduceMul, Nat.reduceSub, Nat.reduceLT, Nat.reduceLeDiff, Nat.reduceBEq, reduceCtorEq, Int.reduceLT, Int.reduceEq, Int.reduceLE, Int.reduceAdd, Int.reduceSub, Int.reduceToNat, Int.reduceNeg, ze]
        refine wst_op oz nilS T.ox rfl rfl (by decide) (wrote_full _ _ rfl) fun Sf hof hbf => ?_
        have hcf := hof.c
        simp (disch := omega) only [go_sem, ↓reduceIte, Nat.reduceEqDiff, Nat.reduceAdd, Nat.reduceMul, Nat.reduceSub, Nat.reduceLT, Nat.reduceLeDiff, Nat.reduceBEq, reduceCtorEq, Int.reduceLT, Int.reduceEq, Int.reduceLE, Int.reduceAdd, Int.reduceSub, Int.reduceToNat, Int.reduceNeg, hcf]
        obtain ⟨f1, f2, f3⟩ := T.fin hbf
        rw [hO, rdF, if_pos z, if_neg my]
        exact ⟨⟨nilS, rfl, OwnT.nil ..⟩, f1, f3⟩
    · simp (disch := omega) only [go_sem, ↓reduceIte, Nat.reduceEqDiff, Nat.reduceAdd, Nat.reduceMul, Nat.reduceSub, Nat.reduceLT, Nat.reduceLeDiff, Nat.reduceBEq, reduceCtorEq, Int.reduceLT, Int.reduceEq, Int.reduceLE, Int.reduceAdd, Int.reduceSub, Int.reduceToNat, Int.reduceNeg, z]
      refine wJ_of (F.num_Reader_Err_J T.rd) ?_; rintro _ _ ⟨rfl, rfl⟩
      simp (disch := omega) only [go_sem, ↓reduceIte, Nat.reduceEqDiff, Nat.reduceAdd, Nat.reduceMul, Nat.reduceSub, Nat.reduceLT, Nat.reduceLeDiff, Nat.reduceBEq, reduceCtorEq, Int.reduceLT, Int.reduceEq, Int.reduceLE, Int.reduceAdd, Int.reduceSub, Int.reduceToNat, Int.reduceNeg, z]
      refine wst_op oz nilS T.ox rfl rfl (by decide) (wrote_full _ _ rfl) fun Sf hof hbf => ?_
      have hcf := hof.c
      simp (disch := omega) only [go_sem, ↓reduceIte, Nat.reduceEqDiff, Nat.reduceAdd, Nat.reduceMul, Nat.reduceSub, Nat.reduceLT, Nat.reduceLeDiff, Nat.reduceBEq, reduceCtorEq, Int.reduceLT, Int.reduceEq, Int.reduceLE, Int.reduceAdd, Int.reduceSub, Int.reduceToNat, Int.reduceNeg, hcf]
      obtain ⟨f1, f2, f3⟩ := T.fin hbf
      rw [hO, rdF, if_neg z]
      exact ⟨⟨nilS, rfl, OwnT.nil ..⟩, f1, f3⟩
end Go.Osj
