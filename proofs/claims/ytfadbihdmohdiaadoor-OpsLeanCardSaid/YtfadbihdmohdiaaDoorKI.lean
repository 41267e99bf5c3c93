/- osierref07.Take. -/
import Derived.Test.YtfadbihdmohdiaaDoorKH
set_option linter.unusedVariables false
set_option linter.unusedSimpArgs false
set_option maxHeartbeats 1000000
namespace Go.Osj
theorem F.osierref07_Take_J {S : St} {q B L : Nat} {p : Rd} (h : RdT S q B p.1 p.2) (hBn : B ≤ S.n) (G : goodR L p) (hL : L < 50000) :
    J PR F.osierref07_Take [ptrV q] S fun v S' => (∃ d, v = opV (rdO p).1 d ∧ OwnT dotE S.n S' d (rdO p).1.deps) ∧ RdT S' q B (rdO p).2.1 (rdO p).2.2 ∧ St.But (ptrV q) S S' := by
  refine J_by PR.mixed F.osierref07_Take.ok (by simp) ?_
  simp (disch := omega) only [go_sem, ↓reduceIte, Nat.reduceEqDiff, Nat.reduceAdd, Nat.reduceMul, Nat.reduceSub, Nat.reduceLT, Nat.reduceLeDiff, Nat.reduceBEq, reduceCtorEq, Int.reduceLT, Int.reduceEq, Int.reduceLE, Int.reduceAdd, Int.reduceSub, Int.reduceToNat, Int.reduceNeg]
  refine walloc_O fun x S1 he1 hx hxn => ?_
  have hqn := h.lt
  have hG1 := G.d
  have hGL := G.2.2
  simp (disch := omega) only [go_sem, ↓reduceIte, Nat.reduceEqDiff, Nat.reduceAdd, Nat.reduceMul, Nat.reduceSub, Nat.reduceLT, Nat.reduceLeDiff, Nat.reduceBEq, reduceCtorEq, Int.reduceLT, Int.reduceEq, Int.reduceLE, Int.reduceAdd, Int.reduceSub, Int.reduceToNat, Int.reduceNeg]
  refine wJ_of (F.osierref03_Take_J (h.but he1) (Nat.le_trans hBn he1.n) G.1 G.2.1 (by omega)) ?_; rintro _ S2 ⟨rfl, hr, hb⟩
  replace G := hG1
  generalize hP1 : rdD p.1 p.2 = P1 at *
  simp (disch := omega) only [go_sem, ↓reduceIte, Nat.reduceEqDiff, Nat.reduceAdd, Nat.reduceMul, Nat.reduceSub, Nat.reduceLT, Nat.reduceLeDiff, Nat.reduceBEq, reduceCtorEq, Int.reduceLT, Int.reduceEq, Int.reduceLE, Int.reduceAdd, Int.reduceSub, Int.reduceToNat, Int.reduceNeg]
  refine wfresh_of fun y hy => ?_
  simp (disch := omega) only [go_sem, ↓reduceIte, Nat.reduceEqDiff, Nat.reduceAdd, Nat.reduceMul, Nat.reduceSub, Nat.reduceLT, Nat.reduceLeDiff, Nat.reduceBEq, reduceCtorEq, Int.reduceLT, Int.reduceEq, Int.reduceLE, Int.reduceAdd, Int.reduceSub, Int.reduceToNat, Int.reduceNeg]
  have he3 := (St.Ext.refl S2).put hy (.cells true 2 [.int .i64 P1.1.1, .int .i64 P1.1.2])
  have hb1n := hb.n
  have hx2 : opB S2 x oz nilS := hx.ne hb (by simp [blkOf]; omega)
  have T : RefSt S (S2.put y (.cells true 2 [.int .i64 P1.1.1, .int .i64 P1.1.2])) q B x y P1.2 P1.1 [] nilS := ⟨hr.but he3, hx2.ext he3, ⟨St.lt_put_self _ _ _, St.put_same _ _ _⟩, OwnT.nil .., fun j hj => by simp [blkOf] at hj, ((he1.toBut).trans hb).trans he3.toBut, hBn, hqn, hxn, by have := he1.n; omega⟩
  generalize S2.put y (.cells true 2 [.int .i64 P1.1.1, .int .i64 P1.1.2]) = S3 at *
  clear hr hb he3
  have hG2 := G.i
  have hbn := T.n
  have hGL := G.2.2
  refine wJ_of (F.osierref01_R_Int_J T.rd G.1 G.2.1 (by omega)) ?_; rintro _ Sr ⟨rfl, hr, hb⟩
  replace T := T.step (p' := (rdI P1.2.1 P1.2.2).2) hr hb
  replace G := hG2
  generalize hP2 : rdI P1.2.1 P1.2.2 = P2 at *
  simp (disch := omega) only [go_sem, ↓reduceIte, Nat.reduceEqDiff, Nat.reduceAdd, Nat.reduceMul, Nat.reduceSub, Nat.reduceLT, Nat.reduceLeDiff, Nat.reduceBEq, reduceCtorEq, Int.reduceLT, Int.reduceEq, Int.reduceLE, Int.reduceAdd, Int.reduceSub, Int.reduceToNat, Int.reduceNeg]
  have T0x := T.ox.1
  have hG3 := G.v
  have hbn := T.n
  have hGL := G.2.2
  refine wJ_of (F.osierref04_Take_J T.rd (Nat.le_trans T.hB T.n) G.1 G.2.1 (by omega)) ?_; rintro d Sr ⟨hod, hr, hb⟩
  have hvl := (rdV_good G.1 G.2.1).2.2.2
  replace T := T.step (p' := (rdV P2.2.1 P2.2.2).2) hr hb
  replace G := hG3
  generalize hP3 : rdV P2.2.1 P2.2.2 = P3 at *
  obtain ⟨bd, cd, rfl⟩ := (hod.sl dotE).len dotE
  have hdn := hod.blk dotE
  replace T := T.deps (hod.mono dotE hbn) fun j hj => by have := hdn j hj; omega
  clear hod
  simp (disch := omega) only [go_sem, ↓reduceIte, Nat.reduceEqDiff, Nat.reduceAdd, Nat.reduceMul, Nat.reduceSub, Nat.reduceLT, Nat.reduceLeDiff, Nat.reduceBEq, reduceCtorEq, Int.reduceLT, Int.reduceEq, Int.reduceLE, Int.reduceAdd, Int.reduceSub, Int.reduceToNat, Int.reduceNeg]
  have hG4 := G.i
  have hbn := T.n
  have hGL := G.2.2
  refine wJ_of (F.osierref01_R_Int_J T.rd G.1 G.2.1 (by omega)) ?_; rintro _ Sr ⟨rfl, hr, hb⟩
  replace T := T.step (p' := (rdI P3.2.1 P3.2.2).2) hr hb
  replace G := hG4
  generalize hP4 : rdI P3.2.1 P3.2.2 = P4 at *
  have hc4 := T.c
  by_cases k1 : P4.1 = 1
  · have hf : formP P4.1 P4.2 = P4.2 := if_pos (by omega)
    by_cases z4 : P4.2.2 = 0
    · simp (disch := omega) only [go_sem, ↓reduceIte, Nat.reduceEqDiff, Nat.reduceAdd, Nat.reduceMul, Nat.reduceSub, Nat.reduceLT, Nat.reduceLeDiff, Nat.reduceBEq, reduceCtorEq, Int.reduceLT, Int.reduceEq, Int.reduceLE, Int.reduceAdd, Int.reduceSub, Int.reduceToNat, Int.reduceNeg, hc4, k1, z4]
      refine wI_alt ?_ ?_
      · simp (disch := omega) only [go_sem, ↓reduceIte, Nat.reduceEqDiff, Nat.reduceAdd, Nat.reduceMul, Nat.reduceSub, Nat.reduceLT, Nat.reduceLeDiff, Nat.reduceBEq, reduceCtorEq, Int.reduceLT, Int.reduceEq, Int.reduceLE, Int.reduceAdd, Int.reduceSub, Int.reduceToNat, Int.reduceNeg]
        have hG5 := G.d
        have hbn := T.n
        have hGL := G.2.2
        refine wJ_of (F.osierref03_Take_J T.rd (Nat.le_trans T.hB T.n) G.1 G.2.1 (by omega)) ?_; rintro _ Sr ⟨rfl, hr, hb⟩
        replace T := T.step (p' := (rdD P4.2.1 P4.2.2).2) hr hb
        replace G := hG5
        generalize hP5 : rdD P4.2.1 P4.2.2 = P5 at *
        have hc5 := T.c
        simp (disch := omega) only [go_sem, ↓reduceIte, Nat.reduceEqDiff, Nat.reduceAdd, Nat.reduceMul, Nat.reduceSub, Nat.reduceLT, Nat.reduceLeDiff, Nat.reduceBEq, reduceCtorEq, Int.reduceLT, Int.reduceEq, Int.reduceLE, Int.reduceAdd, Int.reduceSub, Int.reduceToNat, Int.reduceNeg, hc5]
        refine walloc_O fun w Sw hew hww hwn => ?_
        obtain ⟨T, how, hnw, hoy, -⟩ := T.take hew hww hwn
        have hcy := load2 hoy
        simp (disch := omega) only [go_sem, ↓reduceIte, Nat.reduceEqDiff, Nat.reduceAdd, Nat.reduceMul, Nat.reduceSub, Nat.reduceLT, Nat.reduceLeDiff, Nat.reduceBEq, reduceCtorEq, Int.reduceLT, Int.reduceEq, Int.reduceLE, Int.reduceAdd, Int.reduceSub, Int.reduceToNat, Int.reduceNeg, hcy]
        refine wst_op ⟨P1.1, P2.1, P3.1, P4.1, P5.1, (0, 0), 0, 0, (0, 0), ⟨#[]⟩⟩ (.slice bd P3.1.length cd) T.ob rfl rfl (by decide) (by first | rfl | (simp only [k1]; rfl) | (simp only [k2]; rfl) | (simp only [k3]; rfl)) fun Ss hob hbs => ?_
        replace T := T.setD hob hbs how hnw
        simp (disch := omega) only [go_sem, ↓reduceIte, Nat.reduceEqDiff, Nat.reduceAdd, Nat.reduceMul, Nat.reduceSub, Nat.reduceLT, Nat.reduceLeDiff, Nat.reduceBEq, reduceCtorEq, Int.reduceLT, Int.reduceEq, Int.reduceLE, Int.reduceAdd, Int.reduceSub, Int.reduceToNat, Int.reduceNeg, k1]
        have hG6 := G.d
        have hbn := T.n
        have hGL := G.2.2
        refine wJ_of (F.osierref03_Take_J T.rd (Nat.le_trans T.hB T.n) G.1 G.2.1 (by omega)) ?_; rintro _ Sr ⟨rfl, hr, hb⟩
        replace T := T.step (p' := (rdD P5.2.1 P5.2.2).2) hr hb
        replace G := hG6
        generalize hP6 : rdD P5.2.1 P5.2.2 = P6 at *
        simp (disch := omega) only [go_sem, ↓reduceIte, Nat.reduceEqDiff, Nat.reduceAdd, Nat.reduceMul, Nat.reduceSub, Nat.reduceLT, Nat.reduceLeDiff, Nat.reduceBEq, reduceCtorEq, Int.reduceLT, Int.reduceEq, Int.reduceLE, Int.reduceAdd, Int.reduceSub, Int.reduceToNat, Int.reduceNeg]
        refine wst_op ⟨P1.1, P2.1, P3.1, P4.1, P5.1, P6.1, 0, 0, (0, 0), ⟨#[]⟩⟩ (.slice bd P3.1.length cd) T.ob rfl rfl (by decide) rfl fun Ss hob hbs => ?_
        replace T := T.set hob hbs rfl
        simp (disch := omega) only [go_sem, ↓reduceIte, Nat.reduceEqDiff, Nat.reduceAdd, Nat.reduceMul, Nat.reduceSub, Nat.reduceLT, Nat.reduceLeDiff, Nat.reduceBEq, reduceCtorEq, Int.reduceLT, Int.reduceEq, Int.reduceLE, Int.reduceAdd, Int.reduceSub, Int.reduceToNat, Int.reduceNeg]
        have hG7 := G.i
        have hbn := T.n
        have hGL := G.2.2
        refine wJ_of (F.osierref01_R_Int_J T.rd G.1 G.2.1 (by omega)) ?_; rintro _ Sr ⟨rfl, hr, hb⟩
        replace T := T.step (p' := (rdI P6.2.1 P6.2.2).2) hr hb
        replace G := hG7
        generalize hP7 : rdI P6.2.1 P6.2.2 = P7 at *
        simp (disch := omega) only [go_sem, ↓reduceIte, Nat.reduceEqDiff, Nat.reduceAdd, Nat.reduceMul, Nat.reduceSub, Nat.reduceLT, Nat.reduceLeDiff, Nat.reduceBEq, reduceCtorEq, Int.reduceLT, Int.reduceEq, Int.reduceLE, Int.reduceAdd, Int.reduceSub, Int.reduceToNat, Int.reduceNeg]
        refine wst_op ⟨P1.1, P2.1, P3.1, P4.1, P5.1, P6.1, P7.1, 0, (0, 0), ⟨#[]⟩⟩ (.slice bd P3.1.length cd) T.ob rfl rfl (by decide) rfl fun Ss hob hbs => ?_
        replace T := T.set hob hbs rfl
        simp (disch := omega) only [go_sem, ↓reduceIte, Nat.reduceEqDiff, Nat.reduceAdd, Nat.reduceMul, Nat.reduceSub, Nat.reduceLT, Nat.reduceLeDiff, Nat.reduceBEq, reduceCtorEq, Int.reduceLT, Int.reduceEq, Int.reduceLE, Int.reduceAdd, Int.reduceSub, Int.reduceToNat, Int.reduceNeg]
        have hG8 := G.i
        have hbn := T.n
        have hGL := G.2.2
        refine wJ_of (F.osierref01_R_Int_J T.rd G.1 G.2.1 (by omega)) ?_; rintro _ Sr ⟨rfl, hr, hb⟩
        replace T := T.step (p' := (rdI P7.2.1 P7.2.2).2) hr hb
        replace G := hG8
        generalize hP8 : rdI P7.2.1 P7.2.2 = P8 at *
        simp (disch := omega) only [go_sem, ↓reduceIte, Nat.reduceEqDiff, Nat.reduceAdd, Nat.reduceMul, Nat.reduceSub, Nat.reduceLT, Nat.reduceLeDiff, Nat.reduceBEq, reduceCtorEq, Int.reduceLT, Int.reduceEq, Int.reduceLE, Int.reduceAdd, Int.reduceSub, Int.reduceToNat, Int.reduceNeg]
        refine wst_op ⟨P1.1, P2.1, P3.1, P4.1, P5.1, P6.1, P7.1, P8.1, (0, 0), ⟨#[]⟩⟩ (.slice bd P3.1.length cd) T.ob rfl rfl (by decide) rfl fun Ss hob hbs => ?_
        replace T := T.set hob hbs rfl
        have hO : rdO p = rdF ⟨P1.1, P2.1, P3.1, P4.1, P5.1, P6.1, P7.1, P8.1, (0, 0), ⟨#[]⟩⟩ P8.2 := by
          simp only [rdO, rdH, hP1, hP2, hP3, hP4, hf, hP5]
          simp only [rdB, ↓reduceIte, Int.reduceEq, k1, hP6, hP7, hP8]
        have hc := T.ob.c
        have hc1 := T.c1
        by_cases z : P8.2.2 = 0
        · simp (disch := omega) only [go_sem, ↓reduceIte, Nat.reduceEqDiff, Nat.reduceAdd, Nat.reduceMul, Nat.reduceSub, Nat.reduceLT, Nat.reduceLeDiff, Nat.reduceBEq, reduceCtorEq, Int.reduceLT, Int.reduceEq, Int.reduceLE, Int.reduceAdd, Int.reduceSub, Int.reduceToNat, Int.reduceNeg, z, hc, hc1]
          refine wJ_of (F.osierref07_Check_J (o := ⟨P1.1, P2.1, P3.1, P4.1, P5.1, P6.1, P7.1, P8.1, (0, 0), ⟨#[]⟩⟩) (T.ow.sl dotE) (by show P3.1.length < _; omega)) ?_; rintro _ _ ⟨rfl, rfl⟩
          by_cases my : mayO ⟨P1.1, P2.1, P3.1, P4.1, P5.1, P6.1, P7.1, P8.1, (0, 0), ⟨#[]⟩⟩
          · simp (disch := omega) only [go_sem, ↓reduceIte, Nat.reduceEqDiff, Nat.reduceAdd, Nat.reduceMul, Nat.reduceSub, Nat.reduceLT, Nat.reduceLeDiff, Nat.reduceBEq, reduceCtorEq, Int.reduceLT, Int.reduceEq, Int.reduceLE, Int.reduceAdd, Int.reduceSub, Int.reduceToNat, Int.reduceNeg, z, hc, hc1, my]
            refine wst_op ⟨P1.1, P2.1, P3.1, P4.1, P5.1, P6.1, P7.1, P8.1, (0, 0), ⟨#[]⟩⟩ (.slice bd P3.1.length cd) T.ox rfl rfl (by decide) (wrote_full _ _ rfl) fun Sf hof hbf => ?_
            have hcf := hof.c
            simp (disch := omega) only [go_sem, ↓reduceIte, Nat.reduceEqDiff, Nat.reduceAdd, Nat.reduceMul, Nat.reduceSub, Nat.reduceLT, Nat.reduceLeDiff, Nat.reduceBEq, reduceCtorEq, Int.reduceLT, Int.reduceEq, Int.reduceLE, Int.reduceAdd, Int.reduceSub, Int.reduceToNat, Int.reduceNeg, hcf]
            obtain ⟨f1, f2, f3⟩ := T.fin hbf
            rw [hO, rdF, if_pos z, if_pos my]
            exact ⟨⟨_, rfl, f2⟩, f1, f3⟩
          · simp (disch := omega) only [go_sem, ↓reduceIte, Nat.reduceEqDiff, Nat.reduceAdd, Nat.reduceMul, Nat.reduceSub, Nat.reduceLT, Nat.reduceLeDiff, Nat.reduceBEq, reduceCtorEq, Int.reduceLT, Int.reduceEq, Int.reduceLE, Int.reduceAdd, Int.reduceSub, Int.reduceToNat, Int.reduceNeg, z, hc, hc1, my]
            refine wJ_of (F.osierref01_R_Fail_J (x := 30) T.rd (by decide)) ?_; rintro _ Sr ⟨rfl, hr, hb⟩
            replace T := T.step (p' := failP 30 P8.2) hr hb
            have ze : (failP 30 P8.2).2 ≠ 0 := by simp [failP, z]
            have hc2 := T.c1
            simp (disch := omega) only [go_sem, ↓reduceIte, Nat.reduceEqDiff, Nat.reduceAdd, Nat.reduceMul, Nat.reduceSub, Nat.reduceLT, Nat.reduceLeDiff, Nat.reduceBEq, reduceCtorEq, Int.reduceLT, Int.reduceEq, Int.reduceLE, Int.reduceAdd, Int.reduceSub, Int.reduceToNat, Int.reduceNeg, ze, hc2]
            refine wst_op oz nilS T.ox rfl rfl (by decide) (wrote_full _ _ rfl) fun Sf hof hbf => ?_
            have hcf := hof.c
            simp (disch := omega) only [go_sem, ↓reduceIte, Nat.reduceEqDiff, Nat.reduceAdd, Nat.reduceMul, Nat.reduceSub, Nat.reduceLT, Nat.reduceLeDiff, Nat.reduceBEq, reduceCtorEq, Int.reduceLT, Int.reduceEq, Int.reduceLE, Int.reduceAdd, Int.reduceSub, Int.reduceToNat, Int.reduceNeg, hcf]
            obtain ⟨f1, f2, f3⟩ := T.fin hbf
            rw [hO, rdF, if_pos z, if_neg my]
            exact ⟨⟨nilS, rfl, OwnT.nil ..⟩, f1, f3⟩
        · simp (disch := omega) only [go_sem, ↓reduceIte, Nat.reduceEqDiff, Nat.reduceAdd, Nat.reduceMul, Nat.reduceSub, Nat.reduceLT, Nat.reduceLeDiff, Nat.reduceBEq, reduceCtorEq, Int.reduceLT, Int.reduceEq, Int.reduceLE, Int.reduceAdd, Int.reduceSub, Int.reduceToNat, Int.reduceNeg, z, hc1]
          refine wst_op oz nilS T.ox rfl rfl (by decide) (wrote_full _ _ rfl) fun Sf hof hbf => ?_
          have hcf := hof.c
          simp (disch := omega) only [go_sem, ↓reduceIte, Nat.reduceEqDiff, Nat.reduceAdd, Nat.reduceMul, Nat.reduceSub, Nat.reduceLT, Nat.reduceLeDiff, Nat.reduceBEq, reduceCtorEq, Int.reduceLT, Int.reduceEq, Int.reduceLE, Int.reduceAdd, Int.reduceSub, Int.reduceToNat, Int.reduceNeg, hcf]
          obtain ⟨f1, f2, f3⟩ := T.fin hbf
          rw [hO, rdF, if_neg z]
          exact ⟨⟨nilS, rfl, OwnT.nil ..⟩, f1, f3⟩
      · simp (disch := omega) only [go_sem, ↓reduceIte, Nat.reduceEqDiff, Nat.reduceAdd, Nat.reduceMul, Nat.reduceSub, Nat.reduceLT, Nat.reduceLeDiff, Nat.reduceBEq, reduceCtorEq, Int.reduceLT, Int.reduceEq, Int.reduceLE, Int.reduceAdd, Int.reduceSub, Int.reduceToNat, Int.reduceNeg]
        refine walloc_O fun w Sw hew hww hwn => ?_
        obtain ⟨T, how, hnw, hoy, hqy⟩ := T.take hew hww hwn
        have hcy := load2 hoy
        simp (disch := omega) only [go_sem, ↓reduceIte, Nat.reduceEqDiff, Nat.reduceAdd, Nat.reduceMul, Nat.reduceSub, Nat.reduceLT, Nat.reduceLeDiff, Nat.reduceBEq, reduceCtorEq, Int.reduceLT, Int.reduceEq, Int.reduceLE, Int.reduceAdd, Int.reduceSub, Int.reduceToNat, Int.reduceNeg, hcy]
        have hG5 := G.d
        have hbn := T.n
        have hGL := G.2.2
        refine wJ_of (F.osierref03_Take_J T.rd (Nat.le_trans T.hB T.n) G.1 G.2.1 (by omega)) ?_; rintro _ Sr ⟨rfl, hr, hb⟩
        replace T := T.step (p' := (rdD P4.2.1 P4.2.2).2) hr hb
        replace G := hG5
        generalize hP5 : rdD P4.2.1 P4.2.2 = P5 at *
        have how := how.ptr T.hq hb
        have hcy2 := load2 (but2 hoy hb hqy)
        simp (disch := omega) only [go_sem, ↓reduceIte, Nat.reduceEqDiff, Nat.reduceAdd, Nat.reduceMul, Nat.reduceSub, Nat.reduceLT, Nat.reduceLeDiff, Nat.reduceBEq, reduceCtorEq, Int.reduceLT, Int.reduceEq, Int.reduceLE, Int.reduceAdd, Int.reduceSub, Int.reduceToNat, Int.reduceNeg, hcy2]
        refine wst_op ⟨P1.1, P2.1, P3.1, P4.1, P5.1, (0, 0), 0, 0, (0, 0), ⟨#[]⟩⟩ (.slice bd P3.1.length cd) T.ob rfl rfl (by decide) (by first | rfl | (simp only [k1]; rfl) | (simp only [k2]; rfl) | (simp only [k3]; rfl)) fun Ss hob hbs => ?_
        replace T := T.setD hob hbs how hnw
        simp (disch := omega) only [go_sem, ↓reduceIte, Nat.reduceEqDiff, Nat.reduceAdd, Nat.reduceMul, Nat.reduceSub, Nat.reduceLT, Nat.reduceLeDiff, Nat.reduceBEq, reduceCtorEq, Int.reduceLT, Int.reduceEq, Int.reduceLE, Int.reduceAdd, Int.reduceSub, Int.reduceToNat, Int.reduceNeg, k1]
        have hG6 := G.d
        have hbn := T.n
        have hGL := G.2.2
        refine wJ_of (F.osierref03_Take_J T.rd (Nat.le_trans T.hB T.n) G.1 G.2.1 (by omega)) ?_; rintro _ Sr ⟨rfl, hr, hb⟩
        replace T := T.step (p' := (rdD P5.2.1 P5.2.2).2) hr hb
        replace G := hG6
        generalize hP6 : rdD P5.2.1 P5.2.2 = P6 at *
        simp (disch := omega) only [go_sem, ↓reduceIte, Nat.reduceEqDiff, Nat.reduceAdd, Nat.reduceMul, Nat.reduceSub, Nat.reduceLT, Nat.reduceLeDiff, Nat.reduceBEq, reduceCtorEq, Int.reduceLT, Int.reduceEq, Int.reduceLE, Int.reduceAdd, Int.reduceSub, Int.reduceToNat, Int.reduceNeg]
        refine wst_op ⟨P1.1, P2.1, P3.1, P4.1, P5.1, P6.1, 0, 0, (0, 0), ⟨#[]⟩⟩ (.slice bd P3.1.length cd) T.ob rfl rfl (by decide) rfl fun Ss hob hbs => ?_
        replace T := T.set hob hbs rfl
        simp (disch := omega) only [go_sem, ↓reduceIte, Nat.reduceEqDiff, Nat.reduceAdd, Nat.reduceMul, Nat.reduceSub, Nat.reduceLT, Nat.reduceLeDiff, Nat.reduceBEq, reduceCtorEq, Int.reduceLT, Int.reduceEq, Int.reduceLE, Int.reduceAdd, Int.reduceSub, Int.reduceToNat, Int.reduceNeg]
        have hG7 := G.i
        have hbn := T.n
        have hGL := G.2.2
        refine wJ_of (F.osierref01_R_Int_J T.rd G.1 G.2.1 (by omega)) ?_; rintro _ Sr ⟨rfl, hr, hb⟩
        replace T := T.step (p' := (rdI P6.2.1 P6.2.2).2) hr hb
        replace G := hG7
        generalize hP7 : rdI P6.2.1 P6.2.2 = P7 at *
        simp (disch := omega) only [go_sem, ↓reduceIte, Nat.reduceEqDiff, Nat.reduceAdd, Nat.reduceMul, Nat.reduceSub, Nat.reduceLT, Nat.reduceLeDiff, Nat.reduceBEq, reduceCtorEq, Int.reduceLT, Int.reduceEq, Int.reduceLE, Int.reduceAdd, Int.reduceSub, Int.reduceToNat, Int.reduceNeg]
        refine wst_op ⟨P1.1, P2.1, P3.1, P4.1, P5.1, P6.1, P7.1, 0, (0, 0), ⟨#[]⟩⟩ (.slice bd P3.1.length cd) T.ob rfl rfl (by decide) rfl fun Ss hob hbs => ?_
        replace T := T.set hob hbs rfl
        simp (disch := omega) only [go_sem, ↓reduceIte, Nat.reduceEqDiff, Nat.reduceAdd, Nat.reduceMul, Nat.reduceSub, Nat.reduceLT, Nat.reduceLeDiff, Nat.reduceBEq, reduceCtorEq, Int.reduceLT, Int.reduceEq, Int.reduceLE, Int.reduceAdd, Int.reduceSub, Int.reduceToNat, Int.reduceNeg]
        have hG8 := G.i
        have hbn := T.n
        have hGL := G.2.2
        refine wJ_of (F.osierref01_R_Int_J T.rd G.1 G.2.1 (by omega)) ?_; rintro _ Sr ⟨rfl, hr, hb⟩
        replace T := T.step (p' := (rdI P7.2.1 P7.2.2).2) hr hb
        replace G := hG8
        generalize hP8 : rdI P7.2.1 P7.2.2 = P8 at *
        simp (disch := omega) only [go_sem, ↓reduceIte, Nat.reduceEqDiff, Nat.reduceAdd, Nat.reduceMul, Nat.reduceSub, Nat.reduceLT, Nat.reduceLeDiff, Nat.reduceBEq, reduceCtorEq, Int.reduceLT, Int.reduceEq, Int.reduceLE, Int.reduceAdd, Int.reduceSub, Int.reduceToNat, Int.reduceNeg]
        refine wst_op ⟨P1.1, P2.1, P3.1, P4.1, P5.1, P6.1, P7.1, P8.1, (0, 0), ⟨#[]⟩⟩ (.slice bd P3.1.length cd) T.ob rfl rfl (by decide) rfl fun Ss hob hbs => ?_
        replace T := T.set hob hbs rfl
        have hO : rdO p = rdF ⟨P1.1, P2.1, P3.1, P4.1, P5.1, P6.1, P7.1, P8.1, (0, 0), ⟨#[]⟩⟩ P8.2 := by
          simp only [rdO, rdH, hP1, hP2, hP3, hP4, hf, hP5]
          simp only [rdB, ↓reduceIte, Int.reduceEq, k1, hP6, hP7, hP8]
        have hc := T.ob.c
        have hc1 := T.c1
        by_cases z : P8.2.2 = 0
        · simp (disch := omega) only [go_sem, ↓reduceIte, Nat.reduceEqDiff, Nat.reduceAdd, Nat.reduceMul, Nat.reduceSub, Nat.reduceLT, Nat.reduceLeDiff, Nat.reduceBEq, reduceCtorEq, Int.reduceLT, Int.reduceEq, Int.reduceLE, Int.reduceAdd, Int.reduceSub, Int.reduceToNat, Int.reduceNeg, z, hc, hc1]
          refine wJ_of (F.osierref07_Check_J (o := ⟨P1.1, P2.1, P3.1, P4.1, P5.1, P6.1, P7.1, P8.1, (0, 0), ⟨#[]⟩⟩) (T.ow.sl dotE) (by show P3.1.length < _; omega)) ?_; rintro _ _ ⟨rfl, rfl⟩
          by_cases my : mayO ⟨P1.1, P2.1, P3.1, P4.1, P5.1, P6.1, P7.1, P8.1, (0, 0), ⟨#[]⟩⟩
          · simp (disch := omega) only [go_sem, ↓reduceIte, Nat.reduceEqDiff, Nat.reduceAdd, Nat.reduceMul, Nat.reduceSub, Nat.reduceLT, Nat.reduceLeDiff, Nat.reduceBEq, reduceCtorEq, Int.reduceLT, Int.reduceEq, Int.reduceLE, Int.reduceAdd, Int.reduceSub, Int.reduceToNat, Int.reduceNeg, z, hc, hc1, my]
            refine wst_op ⟨P1.1, P2.1, P3.1, P4.1, P5.1, P6.1, P7.1, P8.1, (0, 0), ⟨#[]⟩⟩ (.slice bd P3.1.length cd) T.ox rfl rfl (by decide) (wrote_full _ _ rfl) fun Sf hof hbf => ?_
            have hcf := hof.c
            simp (disch := omega) only [go_sem, ↓reduceIte, Nat.reduceEqDiff, Nat.reduceAdd, Nat.reduceMul, Nat.reduceSub, Nat.reduceLT, Nat.reduceLeDiff, Nat.reduceBEq, reduceCtorEq, Int.reduceLT, Int.reduceEq, Int.reduceLE, Int.reduceAdd, Int.reduceSub, Int.reduceToNat, Int.reduceNeg, hcf]
            obtain ⟨f1, f2, f3⟩ := T.fin hbf
            rw [hO, rdF, if_pos z, if_pos my]
            exact ⟨⟨_, rfl, f2⟩, f1, f3⟩
          · simp (disch := omega) only [go_sem, ↓reduceIte, Nat.reduceEqDiff, Nat.reduceAdd, Nat.reduceMul, Nat.reduceSub, Nat.reduceLT, Nat.reduceLeDiff, Nat.reduceBEq, reduceCtorEq, Int.reduceLT, Int.reduceEq, Int.reduceLE, Int.reduceAdd, Int.reduceSub, Int.reduceToNat, Int.reduceNeg, z, hc, hc1, my]
            refine wJ_of (F.osierref01_R_Fail_J (x := 30) T.rd (by decide)) ?_; rintro _ Sr ⟨rfl, hr, hb⟩
            replace T := T.step (p' := failP 30 P8.2) hr hb
            have ze : (failP 30 P8.2).2 ≠ 0 := by simp [failP, z]
            have hc2 := T.c1
            simp (disch := omega) only [go_sem, ↓reduceIte, Nat.reduceEqDiff, Nat.reduceAdd, Nat.reduceMul, Nat.reduceSub, Nat.reduceLT, Nat.reduceLeDiff, Nat.reduceBEq, reduceCtorEq, Int.reduceLT, Int.reduceEq, Int.reduceLE, Int.reduceAdd, Int.reduceSub, Int.reduceToNat, Int.reduceNeg, ze, hc2]
            refine wst_op oz nilS T.ox rfl rfl (by decide) (wrote_full _ _ rfl) fun Sf hof hbf => ?_
            have hcf := hof.c
            simp (disch := omega) only [go_sem, ↓reduceIte, Nat.reduceEqDiff, Nat.reduceAdd, Nat.reduceMul, Nat.reduceSub, Nat.reduceLT, Nat.reduceLeDiff, Nat.reduceBEq, reduceCtorEq, Int.reduceLT, Int.reduceEq, Int.reduceLE, Int.reduceAdd, Int.reduceSub, Int.reduceToNat, Int.reduceNeg, hcf]
            obtain ⟨f1, f2, f3⟩ := T.fin hbf
            rw [hO, rdF, if_pos z, if_neg my]
            exact ⟨⟨nilS, rfl, OwnT.nil ..⟩, f1, f3⟩
        · simp (disch := omega) only [go_sem, ↓reduceIte, Nat.reduceEqDiff, Nat.reduceAdd, Nat.reduceMul, Nat.reduceSub, Nat.reduceLT, Nat.reduceLeDiff, Nat.reduceBEq, reduceCtorEq, Int.reduceLT, Int.reduceEq, Int.reduceLE, Int.reduceAdd, Int.reduceSub, Int.reduceToNat, Int.reduceNeg, z, hc1]
          refine wst_op oz nilS T.ox rfl rfl (by decide) (wrote_full _ _ rfl) fun Sf hof hbf => ?_
          have hcf := hof.c
          simp (disch := omega) only [go_sem, ↓reduceIte, Nat.reduceEqDiff, Nat.reduceAdd, Nat.reduceMul, Nat.reduceSub, Nat.reduceLT, Nat.reduceLeDiff, Nat.reduceBEq, reduceCtorEq, Int.reduceLT, Int.reduceEq, Int.reduceLE, Int.reduceAdd, Int.reduceSub, Int.reduceToNat, Int.reduceNeg, hcf]
          obtain ⟨f1, f2, f3⟩ := T.fin hbf
          rw [hO, rdF, if_neg z]
          exact ⟨⟨nilS, rfl, OwnT.nil ..⟩, f1, f3⟩
    · simp (disch := omega) only [go_sem, ↓reduceIte, Nat.reduceEqDiff, Nat.reduceAdd, Nat.reduceMul, Nat.reduceSub, Nat.reduceLT, Nat.reduceLeDiff, Nat.reduceBEq, reduceCtorEq, Int.reduceLT, Int.reduceEq, Int.reduceLE, Int.reduceAdd, Int.reduceSub, Int.reduceToNat, Int.reduceNeg, hc4, k1, z4]
      refine wI_alt ?_ ?_
      · simp (disch := omega) only [go_sem, ↓reduceIte, Nat.reduceEqDiff, Nat.reduceAdd, Nat.reduceMul, Nat.reduceSub, Nat.reduceLT, Nat.reduceLeDiff, Nat.reduceBEq, reduceCtorEq, Int.reduceLT, Int.reduceEq, Int.reduceLE, Int.reduceAdd, Int.reduceSub, Int.reduceToNat, Int.reduceNeg]
        have hG5 := G.d
        have hbn := T.n
        have hGL := G.2.2
        refine wJ_of (F.osierref03_Take_J T.rd (Nat.le_trans T.hB T.n) G.1 G.2.1 (by omega)) ?_; rintro _ Sr ⟨rfl, hr, hb⟩
        replace T := T.step (p' := (rdD P4.2.1 P4.2.2).2) hr hb
        replace G := hG5
        generalize hP5 : rdD P4.2.1 P4.2.2 = P5 at *
        have hc5 := T.c
        simp (disch := omega) only [go_sem, ↓reduceIte, Nat.reduceEqDiff, Nat.reduceAdd, Nat.reduceMul, Nat.reduceSub, Nat.reduceLT, Nat.reduceLeDiff, Nat.reduceBEq, reduceCtorEq, Int.reduceLT, Int.reduceEq, Int.reduceLE, Int.reduceAdd, Int.reduceSub, Int.reduceToNat, Int.reduceNeg, hc5]
        refine walloc_O fun w Sw hew hww hwn => ?_
        obtain ⟨T, how, hnw, hoy, -⟩ := T.take hew hww hwn
        have hcy := load2 hoy
        simp (disch := omega) only [go_sem, ↓reduceIte, Nat.reduceEqDiff, Nat.reduceAdd, Nat.reduceMul, Nat.reduceSub, Nat.reduceLT, Nat.reduceLeDiff, Nat.reduceBEq, reduceCtorEq, Int.reduceLT, Int.reduceEq, Int.reduceLE, Int.reduceAdd, Int.reduceSub, Int.reduceToNat, Int.reduceNeg, hcy]
        refine wst_op ⟨P1.1, P2.1, P3.1, P4.1, P5.1, (0, 0), 0, 0, (0, 0), ⟨#[]⟩⟩ (.slice bd P3.1.length cd) T.ob rfl rfl (by decide) (by first | rfl | (simp only [k1]; rfl) | (simp only [k2]; rfl) | (simp only [k3]; rfl)) fun Ss hob hbs => ?_
        replace T := T.setD hob hbs how hnw
        simp (disch := omega) only [go_sem, ↓reduceIte, Nat.reduceEqDiff, Nat.reduceAdd, Nat.reduceMul, Nat.reduceSub, Nat.reduceLT, Nat.reduceLeDiff, Nat.reduceBEq, reduceCtorEq, Int.reduceLT, Int.reduceEq, Int.reduceLE, Int.reduceAdd, Int.reduceSub, Int.reduceToNat, Int.reduceNeg, k1]
        have hG6 := G.d
        have hbn := T.n
        have hGL := G.2.2
        refine wJ_of (F.osierref03_Take_J T.rd (Nat.le_trans T.hB T.n) G.1 G.2.1 (by omega)) ?_; rintro _ Sr ⟨rfl, hr, hb⟩
        replace T := T.step (p' := (rdD P5.2.1 P5.2.2).2) hr hb
        replace G := hG6
        generalize hP6 : rdD P5.2.1 P5.2.2 = P6 at *
        simp (disch := omega) only [go_sem, ↓reduceIte, Nat.reduceEqDiff, Nat.reduceAdd, Nat.reduceMul, Nat.reduceSub, Nat.reduceLT, Nat.reduceLeDiff, Nat.reduceBEq, reduceCtorEq, Int.reduceLT, Int.reduceEq, Int.reduceLE, Int.reduceAdd, Int.reduceSub, Int.reduceToNat, Int.reduceNeg]
        refine wst_op ⟨P1.1, P2.1, P3.1, P4.1, P5.1, P6.1, 0, 0, (0, 0), ⟨#[]⟩⟩ (.slice bd P3.1.length cd) T.ob rfl rfl (by decide) rfl fun Ss hob hbs => ?_
        replace T := T.set hob hbs rfl
        simp (disch := omega) only [go_sem, ↓reduceIte, Nat.reduceEqDiff, Nat.reduceAdd, Nat.reduceMul, Nat.reduceSub, Nat.reduceLT, Nat.reduceLeDiff, Nat.reduceBEq, reduceCtorEq, Int.reduceLT, Int.reduceEq, Int.reduceLE, Int.reduceAdd, Int.reduceSub, Int.reduceToNat, Int.reduceNeg]
        have hG7 := G.i
        have hbn := T.n
        have hGL := G.2.2
        refine wJ_of (F.osierref01_R_Int_J T.rd G.1 G.2.1 (by omega)) ?_; rintro _ Sr ⟨rfl, hr, hb⟩
        replace T := T.step (p' := (rdI P6.2.1 P6.2.2).2) hr hb
        replace G := hG7
        generalize hP7 : rdI P6.2.1 P6.2.2 = P7 at *
        simp (disch := omega) only [go_sem, ↓reduceIte, Nat.reduceEqDiff, Nat.reduceAdd, Nat.reduceMul, Nat.reduceSub, Nat.reduceLT, Nat.reduceLeDiff, Nat.reduceBEq, reduceCtorEq, Int.reduceLT, Int.reduceEq, Int.reduceLE, Int.reduceAdd, Int.reduceSub, Int.reduceToNat, Int.reduceNeg]
        refine wst_op ⟨P1.1, P2.1, P3.1, P4.1, P5.1, P6.1, P7.1, 0, (0, 0), ⟨#[]⟩⟩ (.slice bd P3.1.length cd) T.ob rfl rfl (by decide) rfl fun Ss hob hbs => ?_
        replace T := T.set hob hbs rfl
        simp (disch := omega) only [go_sem, ↓reduceIte, Nat.reduceEqDiff, Nat.reduceAdd, Nat.reduceMul, Nat.reduceSub, Nat.reduceLT, Nat.reduceLeDiff, Nat.reduceBEq, reduceCtorEq, Int.reduceLT, Int.reduceEq, Int.reduceLE, Int.reduceAdd, Int.reduceSub, Int.reduceToNat, Int.reduceNeg]
        have hG8 := G.i
        have hbn := T.n
        have hGL := G.2.2
        refine wJ_of (F.osierref01_R_Int_J T.rd G.1 G.2.1 (by omega)) ?_; rintro _ Sr ⟨rfl, hr, hb⟩
        replace T := T.step (p' := (rdI P7.2.1 P7.2.2).2) hr hb
        replace G := hG8
        generalize hP8 : rdI P7.2.1 P7.2.2 = P8 at *
        simp (disch := omega) only [go_sem, ↓reduceIte, Nat.reduceEqDiff, Nat.reduceAdd, Nat.reduceMul, Nat.reduceSub, Nat.reduceLT, Nat.reduceLeDiff, Nat.reduceBEq, reduceCtorEq, Int.reduceLT, Int.reduceEq, Int.reduceLE, Int.reduceAdd, Int.reduceSub, Int.reduceToNat, Int.reduceNeg]
        refine wst_op ⟨P1.1, P2.1, P3.1, P4.1, P5.1, P6.1, P7.1, P8.1, (0, 0), ⟨#[]⟩⟩ (.slice bd P3.1.length cd) T.ob rfl rfl (by decide) rfl fun Ss hob hbs => ?_
        replace T := T.set hob hbs rfl
        have hO : rdO p = rdF ⟨P1.1, P2.1, P3.1, P4.1, P5.1, P6.1, P7.1, P8.1, (0, 0), ⟨#[]⟩⟩ P8.2 := by
          simp only [rdO, rdH, hP1, hP2, hP3, hP4, hf, hP5]
          simp only [rdB, ↓reduceIte, Int.reduceEq, k1, hP6, hP7, hP8]
        have hc := T.ob.c
        have hc1 := T.c1
        by_cases z : P8.2.2 = 0
        · simp (disch := omega) only [go_sem, ↓reduceIte, Nat.reduceEqDiff, Nat.reduceAdd, Nat.reduceMul, Nat.reduceSub, Nat.reduceLT, Nat.reduceLeDiff, Nat.reduceBEq, reduceCtorEq, Int.reduceLT, Int.reduceEq, Int.reduceLE, Int.reduceAdd, Int.reduceSub, Int.reduceToNat, Int.reduceNeg, z, hc, hc1]
          refine wJ_of (F.osierref07_Check_J (o := ⟨P1.1, P2.1, P3.1, P4.1, P5.1, P6.1, P7.1, P8.1, (0, 0), ⟨#[]⟩⟩) (T.ow.sl dotE) (by show P3.1.length < _; omega)) ?_; rintro _ _ ⟨rfl, rfl⟩
          by_cases my : mayO ⟨P1.1, P2.1, P3.1, P4.1, P5.1, P6.1, P7.1, P8.1, (0, 0), ⟨#[]⟩⟩
          · simp (disch := omega) only [go_sem, ↓reduceIte, Nat.reduceEqDiff, Nat.reduceAdd, Nat.reduceMul, Nat.reduceSub, Nat.reduceLT, Nat.reduceLeDiff, Nat.reduceBEq, reduceCtorEq, Int.reduceLT, Int.reduceEq, Int.reduceLE, Int.reduceAdd, Int.reduceSub, Int.reduceToNat, Int.reduceNeg, z, hc, hc1, my]
            refine wst_op ⟨P1.1, P2.1, P3.1, P4.1, P5.1, P6.1, P7.1, P8.1, (0, 0), ⟨#[]⟩⟩ (.slice bd P3.1.length cd) T.ox rfl rfl (by decide) (wrote_full _ _ rfl) fun Sf hof hbf => ?_
            have hcf := hof.c
            simp (disch := omega) only [go_sem, ↓reduceIte, Nat.reduceEqDiff, Nat.reduceAdd, Nat.reduceMul, Nat.reduceSub, Nat.reduceLT, Nat.reduceLeDiff, Nat.reduceBEq, reduceCtorEq, Int.reduceLT, Int.reduceEq, Int.reduceLE, Int.reduceAdd, Int.reduceSub, Int.reduceToNat, Int.reduceNeg, hcf]
            obtain ⟨f1, f2, f3⟩ := T.fin hbf
            rw [hO, rdF, if_pos z, if_pos my]
            exact ⟨⟨_, rfl, f2⟩, f1, f3⟩
          · simp (disch := omega) only [go_sem, ↓reduceIte, Nat.reduceEqDiff, Nat.reduceAdd, Nat.reduceMul, Nat.reduceSub, Nat.reduceLT, Nat.reduceLeDiff, Nat.reduceBEq, reduceCtorEq, Int.reduceLT, Int.reduceEq, Int.reduceLE, Int.reduceAdd, Int.reduceSub, Int.reduceToNat, Int.reduceNeg, z, hc, hc1, my]
            refine wJ_of (F.osierref01_R_Fail_J (x := 30) T.rd (by decide)) ?_; rintro _ Sr ⟨rfl, hr, hb⟩
            replace T := T.step (p' := failP 30 P8.2) hr hb
            have ze : (failP 30 P8.2).2 ≠ 0 := by simp [failP, z]
            have hc2 := T.c1
            simp (disch := omega) only [go_sem, ↓reduceIte, Nat.reduceEqDiff, Nat.reduceAdd, Nat.reduceMul, Nat.reduceSub, Nat.reduceLT, Nat.reduceLeDiff, Nat.reduceBEq, reduceCtorEq, Int.reduceLT, Int.reduceEq, Int.reduceLE, Int.reduceAdd, Int.reduceSub, Int.reduceToNat, Int.reduceNeg, ze, hc2]
            refine wst_op oz nilS T.ox rfl rfl (by decide) (wrote_full _ _ rfl) fun Sf hof hbf => ?_
            have hcf := hof.c
            simp (disch := omega) only [go_sem, ↓reduceIte, Nat.reduceEqDiff, Nat.reduceAdd, Nat.reduceMul, Nat.reduceSub, Nat.reduceLT, Nat.reduceLeDiff, Nat.reduceBEq, reduceCtorEq, Int.reduceLT, Int.reduceEq, Int.reduceLE, Int.reduceAdd, Int.reduceSub, Int.reduceToNat, Int.reduceNeg, hcf]
            obtain ⟨f1, f2, f3⟩ := T.fin hbf
            rw [hO, rdF, if_pos z, if_neg my]
            exact ⟨⟨nilS, rfl, OwnT.nil ..⟩, f1, f3⟩
        · simp (disch := omega) only [go_sem, ↓reduceIte, Nat.reduceEqDiff, Nat.reduceAdd, Nat.reduceMul, Nat.reduceSub, Nat.reduceLT, Nat.reduceLeDiff, Nat.reduceBEq, reduceCtorEq, Int.reduceLT, Int.reduceEq, Int.reduceLE, Int.reduceAdd, Int.reduceSub, Int.reduceToNat, Int.reduceNeg, z, hc1]
          refine wst_op oz nilS T.ox rfl rfl (by decide) (wrote_full _ _ rfl) fun Sf hof hbf => ?_
          have hcf := hof.c
          simp (disch := omega) only [go_sem, ↓reduceIte, Nat.reduceEqDiff, Nat.reduceAdd, Nat.reduceMul, Nat.reduceSub, Nat.reduceLT, Nat.reduceLeDiff, Nat.reduceBEq, reduceCtorEq, Int.reduceLT, Int.reduceEq, Int.reduceLE, Int.reduceAdd, Int.reduceSub, Int.reduceToNat, Int.reduceNeg, hcf]
          obtain ⟨f1, f2, f3⟩ := T.fin hbf
          rw [hO, rdF, if_neg z]
          exact ⟨⟨nilS, rfl, OwnT.nil ..⟩, f1, f3⟩
      · simp (disch := omega) only [go_sem, ↓reduceIte, Nat.reduceEqDiff, Nat.reduceAdd, Nat.reduceMul, Nat.reduceSub, Nat.reduceLT, Nat.reduceLeDiff, Nat.reduceBEq, reduceCtorEq, Int.reduceLT, Int.reduceEq, Int.reduceLE, Int.reduceAdd, Int.reduceSub, Int.reduceToNat, Int.reduceNeg]
        refine walloc_O fun w Sw hew hww hwn => ?_
        obtain ⟨T, how, hnw, hoy, hqy⟩ := T.take hew hww hwn
        have hcy := load2 hoy
        simp (disch := omega) only [go_sem, ↓reduceIte, Nat.reduceEqDiff, Nat.reduceAdd, Nat.reduceMul, Nat.reduceSub, Nat.reduceLT, Nat.reduceLeDiff, Nat.reduceBEq, reduceCtorEq, Int.reduceLT, Int.reduceEq, Int.reduceLE, Int.reduceAdd, Int.reduceSub, Int.reduceToNat, Int.reduceNeg, hcy]
        have hG5 := G.d
        have hbn := T.n
        have hGL := G.2.2
        refine wJ_of (F.osierref03_Take_J T.rd (Nat.le_trans T.hB T.n) G.1 G.2.1 (by omega)) ?_; rintro _ Sr ⟨rfl, hr, hb⟩
        replace T := T.step (p' := (rdD P4.2.1 P4.2.2).2) hr hb
        replace G := hG5
        generalize hP5 : rdD P4.2.1 P4.2.2 = P5 at *
        have how := how.ptr T.hq hb
        have hcy2 := load2 (but2 hoy hb hqy)
        simp (disch := omega) only [go_sem, ↓reduceIte, Nat.reduceEqDiff, Nat.reduceAdd, Nat.reduceMul, Nat.reduceSub, Nat.reduceLT, Nat.reduceLeDiff, Nat.reduceBEq, reduceCtorEq, Int.reduceLT, Int.reduceEq, Int.reduceLE, Int.reduceAdd, Int.reduceSub, Int.reduceToNat, Int.reduceNeg, hcy2]
        refine wst_op ⟨P1.1, P2.1, P3.1, P4.1, P5.1, (0, 0), 0, 0, (0, 0), ⟨#[]⟩⟩ (.slice bd P3.1.length cd) T.ob rfl rfl (by decide) (by first | rfl | (simp only [k1]; rfl) | (simp only [k2]; rfl) | (simp only [k3]; rfl)) fun Ss hob hbs => ?_
        replace T := T.setD hob hbs how hnw
        simp (disch := omega) only [go_sem, ↓reduceIte, Nat.reduceEqDiff, Nat.reduceAdd, Nat.reduceMul, Nat.reduceSub, Nat.reduceLT, Nat.reduceLeDiff, Nat.reduceBEq, reduceCtorEq, Int.reduceLT, Int.reduceEq, Int.reduceLE, Int.reduceAdd, Int.reduceSub, Int.reduceToNat, Int.reduceNeg, k1]
        have hG6 := G.d
        have hbn := T.n
        have hGL := G.2.2
        refine wJ_of (F.osierref03_Take_J T.rd (Nat.le_trans T.hB T.n) G.1 G.2.1 (by omega)) ?_; rintro _ Sr ⟨rfl, hr, hb⟩
        replace T := T.step (p' := (rdD P5.2.1 P5.2.2).2) hr hb
        replace G := hG6
        generalize hP6 : rdD P5.2.1 P5.2.2 = P6 at *
        simp (disch := omega) only [go_sem, ↓reduceIte, Nat.reduceEqDiff, Nat.reduceAdd, Nat.reduceMul, Nat.reduceSub, Nat.reduceLT, Nat.reduceLeDiff, Nat.reduceBEq, reduceCtorEq, Int.reduceLT, Int.reduceEq, Int.reduceLE, Int.reduceAdd, Int.reduceSub, Int.reduceToNat, Int.reduceNeg]
        refine wst_op ⟨P1.1, P2.1, P3.1, P4.1, P5.1, P6.1, 0, 0, (0, 0), ⟨#[]⟩⟩ (.slice bd P3.1.length cd) T.ob rfl rfl (by decide) rfl fun Ss hob hbs => ?_
        replace T := T.set hob hbs rfl
        simp (disch := omega) only [go_sem, ↓reduceIte, Nat.reduceEqDiff, Nat.reduceAdd, Nat.reduceMul, Nat.reduceSub, Nat.reduceLT, Nat.reduceLeDiff, Nat.reduceBEq, reduceCtorEq, Int.reduceLT, Int.reduceEq, Int.reduceLE, Int.reduceAdd, Int.reduceSub, Int.reduceToNat, Int.reduceNeg]
        have hG7 := G.i
        have hbn := T.n
        have hGL := G.2.2
        refine wJ_of (F.osierref01_R_Int_J T.rd G.1 G.2.1 (by omega)) ?_; rintro _ Sr ⟨rfl, hr, hb⟩
        replace T := T.step (p' := (rdI P6.2.1 P6.2.2).2) hr hb
        replace G := hG7
        generalize hP7 : rdI P6.2.1 P6.2.2 = P7 at *
        simp (disch := omega) only [go_sem, ↓reduceIte, Nat.reduceEqDiff, Nat.reduceAdd, Nat.reduceMul, Nat.reduceSub, Nat.reduceLT, Nat.reduceLeDiff, Nat.reduceBEq, reduceCtorEq, Int.reduceLT, Int.reduceEq, Int.reduceLE, Int.reduceAdd, Int.reduceSub, Int.reduceToNat, Int.reduceNeg]
        refine wst_op ⟨P1.1, P2.1, P3.1, P4.1, P5.1, P6.1, P7.1, 0, (0, 0), ⟨#[]⟩⟩ (.slice bd P3.1.length cd) T.ob rfl rfl (by decide) rfl fun Ss hob hbs => ?_
        replace T := T.set hob hbs rfl
        simp (disch := omega) only [go_sem, ↓reduceIte, Nat.reduceEqDiff, Nat.reduceAdd, Nat.reduceMul, Nat.reduceSub, Nat.reduceLT, Nat.reduceLeDiff, Nat.reduceBEq, reduceCtorEq, Int.reduceLT, Int.reduceEq, Int.reduceLE, Int.reduceAdd, Int.reduceSub, Int.reduceToNat, Int.reduceNeg]
        have hG8 := G.i
        have hbn := T.n
        have hGL := G.2.2
        refine wJ_of (F.osierref01_R_Int_J T.rd G.1 G.2.1 (by omega)) ?_; rintro _ Sr ⟨rfl, hr, hb⟩
        replace T := T.step (p' := (rdI P7.2.1 P7.2.2).2) hr hb
        replace G := hG8
        generalize hP8 : rdI P7.2.1 P7.2.2 = P8 at *
        simp (disch := omega) only [go_sem, ↓reduceIte, Nat.reduceEqDiff, Nat.reduceAdd, Nat.reduceMul, Nat.reduceSub, Nat.reduceLT, Nat.reduceLeDiff, Nat.reduceBEq, reduceCtorEq, Int.reduceLT, Int.reduceEq, Int.reduceLE, Int.reduceAdd, Int.reduceSub, Int.reduceToNat, Int.reduceNeg]
        refine wst_op ⟨P1.1, P2.1, P3.1, P4.1, P5.1, P6.1, P7.1, P8.1, (0, 0), ⟨#[]⟩⟩ (.slice bd P3.1.length cd) T.ob rfl rfl (by decide) rfl fun Ss hob hbs => ?_
        replace T := T.set hob hbs rfl
        have hO : rdO p = rdF ⟨P1.1, P2.1, P3.1, P4.1, P5.1, P6.1, P7.1, P8.1, (0, 0), ⟨#[]⟩⟩ P8.2 := by
          simp only [rdO, rdH, hP1, hP2, hP3, hP4, hf, hP5]
          simp only [rdB, ↓reduceIte, Int.reduceEq, k1, hP6, hP7, hP8]
        have hc := T.ob.c
        have hc1 := T.c1
        by_cases z : P8.2.2 = 0
        · simp (disch := omega) only [go_sem, ↓reduceIte, Nat.reduceEqDiff, Nat.reduceAdd, Nat.reduceMul, Nat.reduceSub, Nat.reduceLT, Nat.reduceLeDiff, Nat.reduceBEq, reduceCtorEq, Int.reduceLT, Int.reduceEq, Int.reduceLE, Int.reduceAdd, Int.reduceSub, Int.reduceToNat, Int.reduceNeg, z, hc, hc1]
          refine wJ_of (F.osierref07_Check_J (o := ⟨P1.1, P2.1, P3.1, P4.1, P5.1, P6.1, P7.1, P8.1, (0, 0), ⟨#[]⟩⟩) (T.ow.sl dotE) (by show P3.1.length < _; omega)) ?_; rintro _ _ ⟨rfl, rfl⟩
          by_cases my : mayO ⟨P1.1, P2.1, P3.1, P4.1, P5.1, P6.1, P7.1, P8.1, (0, 0), ⟨#[]⟩⟩
          · simp (disch := omega) only [go_sem, ↓reduceIte, Nat.reduceEqDiff, Nat.reduceAdd, Nat.reduceMul, Nat.reduceSub, Nat.reduceLT, Nat.reduceLeDiff, Nat.reduceBEq, reduceCtorEq, Int.reduceLT, Int.reduceEq, Int.reduceLE, Int.reduceAdd, Int.reduceSub, Int.reduceToNat, Int.reduceNeg, z, hc, hc1, my]
            refine wst_op ⟨P1.1, P2.1, P3.1, P4.1, P5.1, P6.1, P7.1, P8.1, (0, 0), ⟨#[]⟩⟩ (.slice bd P3.1.length cd) T.ox rfl rfl (by decide) (wrote_full _ _ rfl) fun Sf hof hbf => ?_
            have hcf := hof.c
            simp (disch := omega) only [go_sem, ↓reduceIte, Nat.reduceEqDiff, Nat.reduceAdd, Nat.reduceMul, Nat.reduceSub, Nat.reduceLT, Nat.reduceLeDiff, Nat.reduceBEq, reduceCtorEq, Int.reduceLT, Int.reduceEq, Int.reduceLE, Int.reduceAdd, Int.reduceSub, Int.reduceToNat, Int.reduceNeg, hcf]
            obtain ⟨f1, f2, f3⟩ := T.fin hbf
            rw [hO, rdF, if_pos z, if_pos my]
            exact ⟨⟨_, rfl, f2⟩, f1, f3⟩
          · simp (disch := omega) only [go_sem, ↓reduceIte, Nat.reduceEqDiff, Nat.reduceAdd, Nat.reduceMul, Nat.reduceSub, Nat.reduceLT, Nat.reduceLeDiff, Nat.reduceBEq, reduceCtorEq, Int.reduceLT, Int.reduceEq, Int.reduceLE, Int.reduceAdd, Int.reduceSub, Int.reduceToNat, Int.reduceNeg, z, hc, hc1, my]
            refine wJ_of (F.osierref01_R_Fail_J (x := 30) T.rd (by decide)) ?_; rintro _ Sr ⟨rfl, hr, hb⟩
            replace T := T.step (p' := failP 30 P8.2) hr hb
            have ze : (failP 30 P8.2).2 ≠ 0 := by simp [failP, z]
            have hc2 := T.c1
            simp (disch := omega) only [go_sem, ↓reduceIte, Nat.reduceEqDiff, Nat.reduceAdd, Nat.reduceMul, Nat.reduceSub, Nat.reduceLT, Nat.reduceLeDiff, Nat.reduceBEq, reduceCtorEq, Int.reduceLT, Int.reduceEq, Int.reduceLE, Int.reduceAdd, Int.reduceSub, Int.reduceToNat, Int.reduceNeg, ze, hc2]
            refine wst_op oz nilS T.ox rfl rfl (by decide) (wrote_full _ _ rfl) fun Sf hof hbf => ?_
            have hcf := hof.c
            simp (disch := omega) only [go_sem, ↓reduceIte, Nat.reduceEqDiff, Nat.reduceAdd, Nat.reduceMul, Nat.reduceSub, Nat.reduceLT, Nat.reduceLeDiff, Nat.reduceBEq, reduceCtorEq, Int.reduceLT, Int.reduceEq, Int.reduceLE, Int.reduceAdd, Int.reduceSub, Int.reduceToNat, Int.reduceNeg, hcf]
            obtain ⟨f1, f2, f3⟩ := T.fin hbf
            rw [hO, rdF, if_pos z, if_neg my]
            exact ⟨⟨nilS, rfl, OwnT.nil ..⟩, f1, f3⟩
        · simp (disch := omega) only [go_sem, ↓reduceIte, Nat.reduceEqDiff, Nat.reduceAdd, Nat.reduceMul, Nat.reduceSub, Nat.reduceLT, Nat.reduceLeDiff, Nat.reduceBEq, reduceCtorEq, Int.reduceLT, Int.reduceEq, Int.reduceLE, Int.reduceAdd, Int.reduceSub, Int.reduceToNat, Int.reduceNeg, z, hc1]
          refine wst_op oz nilS T.ox rfl rfl (by decide) (wrote_full _ _ rfl) fun Sf hof hbf => ?_
          have hcf := hof.c
          simp (disch := omega) only [go_sem, ↓reduceIte, Nat.reduceEqDiff, Nat.reduceAdd, Nat.reduceMul, Nat.reduceSub, Nat.reduceLT, Nat.reduceLeDiff, Nat.reduceBEq, reduceCtorEq, Int.reduceLT, Int.reduceEq, Int.reduceLE, Int.reduceAdd, Int.reduceSub, Int.reduceToNat, Int.reduceNeg, hcf]
          obtain ⟨f1, f2, f3⟩ := T.fin hbf
          rw [hO, rdF, if_neg z]
          exact ⟨⟨nilS, rfl, OwnT.nil ..⟩, f1, f3⟩
  by_cases k2 : P4.1 = 2
  · have hf : formP P4.1 P4.2 = P4.2 := if_pos (by omega)
    by_cases z4 : P4.2.2 = 0
    · simp (disch := omega) only [go_sem, ↓reduceIte, Nat.reduceEqDiff, Nat.reduceAdd, Nat.reduceMul, Nat.reduceSub, Nat.reduceLT, Nat.reduceLeDiff, Nat.reduceBEq, reduceCtorEq, Int.reduceLT, Int.reduceEq, Int.reduceLE, Int.reduceAdd, Int.reduceSub, Int.reduceToNat, Int.reduceNeg, hc4, k1, k2, z4]
      refine wI_alt ?_ ?_
      · simp (disch := omega) only [go_sem, ↓reduceIte, Nat.reduceEqDiff, Nat.reduceAdd, Nat.reduceMul, Nat.reduceSub, Nat.reduceLT, Nat.reduceLeDiff, Nat.reduceBEq, reduceCtorEq, Int.reduceLT, Int.reduceEq, Int.reduceLE, Int.reduceAdd, Int.reduceSub, Int.reduceToNat, Int.reduceNeg]
        have hG5 := G.d
        have hbn := T.n
        have hGL := G.2.2
        refine wJ_of (F.osierref03_Take_J T.rd (Nat.le_trans T.hB T.n) G.1 G.2.1 (by omega)) ?_; rintro _ Sr ⟨rfl, hr, hb⟩
        replace T := T.step (p' := (rdD P4.2.1 P4.2.2).2) hr hb
        replace G := hG5
        generalize hP5 : rdD P4.2.1 P4.2.2 = P5 at *
        have hc5 := T.c
        simp (disch := omega) only [go_sem, ↓reduceIte, Nat.reduceEqDiff, Nat.reduceAdd, Nat.reduceMul, Nat.reduceSub, Nat.reduceLT, Nat.reduceLeDiff, Nat.reduceBEq, reduceCtorEq, Int.reduceLT, Int.reduceEq, Int.reduceLE, Int.reduceAdd, Int.reduceSub, Int.reduceToNat, Int.reduceNeg, hc5]
        refine walloc_O fun w Sw hew hww hwn => ?_
        obtain ⟨T, how, hnw, hoy, -⟩ := T.take hew hww hwn
        have hcy := load2 hoy
        simp (disch := omega) only [go_sem, ↓reduceIte, Nat.reduceEqDiff, Nat.reduceAdd, Nat.reduceMul, Nat.reduceSub, Nat.reduceLT, Nat.reduceLeDiff, Nat.reduceBEq, reduceCtorEq, Int.reduceLT, Int.reduceEq, Int.reduceLE, Int.reduceAdd, Int.reduceSub, Int.reduceToNat, Int.reduceNeg, hcy]
        refine wst_op ⟨P1.1, P2.1, P3.1, P4.1, P5.1, (0, 0), 0, 0, (0, 0), ⟨#[]⟩⟩ (.slice bd P3.1.length cd) T.ob rfl rfl (by decide) (by first | rfl | (simp only [k1]; rfl) | (simp only [k2]; rfl) | (simp only [k3]; rfl)) fun Ss hob hbs => ?_
        replace T := T.setD hob hbs how hnw
        simp (disch := omega) only [go_sem, ↓reduceIte, Nat.reduceEqDiff, Nat.reduceAdd, Nat.reduceMul, Nat.reduceSub, Nat.reduceLT, Nat.reduceLeDiff, Nat.reduceBEq, reduceCtorEq, Int.reduceLT, Int.reduceEq, Int.reduceLE, Int.reduceAdd, Int.reduceSub, Int.reduceToNat, Int.reduceNeg, k1, k2]
        have hG6 := G.d
        have hbn := T.n
        have hGL := G.2.2
        refine wJ_of (F.osierref03_Take_J T.rd (Nat.le_trans T.hB T.n) G.1 G.2.1 (by omega)) ?_; rintro _ Sr ⟨rfl, hr, hb⟩
        replace T := T.step (p' := (rdD P5.2.1 P5.2.2).2) hr hb
        replace G := hG6
        generalize hP6 : rdD P5.2.1 P5.2.2 = P6 at *
        simp (disch := omega) only [go_sem, ↓reduceIte, Nat.reduceEqDiff, Nat.reduceAdd, Nat.reduceMul, Nat.reduceSub, Nat.reduceLT, Nat.reduceLeDiff, Nat.reduceBEq, reduceCtorEq, Int.reduceLT, Int.reduceEq, Int.reduceLE, Int.reduceAdd, Int.reduceSub, Int.reduceToNat, Int.reduceNeg]
        refine wst_op ⟨P1.1, P2.1, P3.1, P4.1, P5.1, P6.1, 0, 0, (0, 0), ⟨#[]⟩⟩ (.slice bd P3.1.length cd) T.ob rfl rfl (by decide) rfl fun Ss hob hbs => ?_
        replace T := T.set hob hbs rfl
        have hO : rdO p = rdF ⟨P1.1, P2.1, P3.1, P4.1, P5.1, P6.1, 0, 0, (0, 0), ⟨#[]⟩⟩ P6.2 := by
          simp only [rdO, rdH, hP1, hP2, hP3, hP4, hf, hP5]
          simp only [rdB, ↓reduceIte, Int.reduceEq, k2, hP6]
        have hc := T.ob.c
        have hc1 := T.c1
        by_cases z : P6.2.2 = 0
        · simp (disch := omega) only [go_sem, ↓reduceIte, Nat.reduceEqDiff, Nat.reduceAdd, Nat.reduceMul, Nat.reduceSub, Nat.reduceLT, Nat.reduceLeDiff, Nat.reduceBEq, reduceCtorEq, Int.reduceLT, Int.reduceEq, Int.reduceLE, Int.reduceAdd, Int.reduceSub, Int.reduceToNat, Int.reduceNeg, z, hc, hc1]
          refine wJ_of (F.osierref07_Check_J (o := ⟨P1.1, P2.1, P3.1, P4.1, P5.1, P6.1, 0, 0, (0, 0), ⟨#[]⟩⟩) (T.ow.sl dotE) (by show P3.1.length < _; omega)) ?_; rintro _ _ ⟨rfl, rfl⟩
          by_cases my : mayO ⟨P1.1, P2.1, P3.1, P4.1, P5.1, P6.1, 0, 0, (0, 0), ⟨#[]⟩⟩
          · simp (disch := omega) only [go_sem, ↓reduceIte, Nat.reduceEqDiff, Nat.reduceAdd, Nat.reduceMul, Nat.reduceSub, Nat.reduceLT, Nat.reduceLeDiff, Nat.reduceBEq, reduceCtorEq, Int.reduceLT, Int.reduceEq, Int.reduceLE, Int.reduceAdd, Int.reduceSub, Int.reduceToNat, Int.reduceNeg, z, hc, hc1, my]
            refine wst_op ⟨P1.1, P2.1, P3.1, P4.1, P5.1, P6.1, 0, 0, (0, 0), ⟨#[]⟩⟩ (.slice bd P3.1.length cd) T.ox rfl rfl (by decide) (wrote_full _ _ rfl) fun Sf hof hbf => ?_
            have hcf := hof.c
            simp (disch := omega) only [go_sem, ↓reduceIte, Nat.reduceEqDiff, Nat.reduceAdd, Nat.reduceMul, Nat.reduceSub, Nat.reduceLT, Nat.reduceLeDiff, Nat.reduceBEq, reduceCtorEq, Int.reduceLT, Int.reduceEq, Int.reduceLE, Int.reduceAdd, Int.reduceSub, Int.reduceToNat, Int.reduceNeg, hcf]
            obtain ⟨f1, f2, f3⟩ := T.fin hbf
            rw [hO, rdF, if_pos z, if_pos my]
            exact ⟨⟨_, rfl, f2⟩, f1, f3⟩
          · simp (disch := omega) only [go_sem, ↓reduceIte, Nat.reduceEqDiff, Nat.reduceAdd, Nat.reduceMul, Nat.reduceSub, Nat.reduceLT, Nat.reduceLeDiff, Nat.reduceBEq, reduceCtorEq, Int.reduceLT, Int.reduceEq, Int.reduceLE, Int.reduceAdd, Int.reduceSub, Int.reduceToNat, Int.reduceNeg, z, hc, hc1, my]
            refine wJ_of (F.osierref01_R_Fail_J (x := 30) T.rd (by decide)) ?_; rintro _ Sr ⟨rfl, hr, hb⟩
            replace T := T.step (p' := failP 30 P6.2) hr hb
            have ze : (failP 30 P6.2).2 ≠ 0 := by simp [failP, z]
            have hc2 := T.c1
            simp (disch := omega) only [go_sem, ↓reduceIte, Nat.reduceEqDiff, Nat.reduceAdd, Nat.reduceMul, Nat.reduceSub, Nat.reduceLT, Nat.reduceLeDiff, Nat.reduceBEq, reduceCtorEq, Int.reduceLT, Int.reduceEq, Int.reduceLE, Int.reduceAdd, Int.reduceSub, Int.reduceToNat, Int.reduceNeg, ze, hc2]
            refine wst_op oz nilS T.ox rfl rfl (by decide) (wrote_full _ _ rfl) fun Sf hof hbf => ?_
            have hcf := hof.c
            simp (disch := omega) only [go_sem, ↓reduceIte, Nat.reduceEqDiff, Nat.reduceAdd, Nat.reduceMul, Nat.reduceSub, Nat.reduceLT, Nat.reduceLeDiff, Nat.reduceBEq, reduceCtorEq, Int.reduceLT, Int.reduceEq, Int.reduceLE, Int.reduceAdd, Int.reduceSub, Int.reduceToNat, Int.reduceNeg, hcf]
            obtain ⟨f1, f2, f3⟩ := T.fin hbf
            rw [hO, rdF, if_pos z, if_neg my]
            exact ⟨⟨nilS, rfl, OwnT.nil ..⟩, f1, f3⟩
        · simp (disch := omega) only [go_sem, ↓reduceIte, Nat.reduceEqDiff, Nat.reduceAdd, Nat.reduceMul, Nat.reduceSub, Nat.reduceLT, Nat.reduceLeDiff, Nat.reduceBEq, reduceCtorEq, Int.reduceLT, Int.reduceEq, Int.reduceLE, Int.reduceAdd, Int.reduceSub, Int.reduceToNat, Int.reduceNeg, z, hc1]
          refine wst_op oz nilS T.ox rfl rfl (by decide) (wrote_full _ _ rfl) fun Sf hof hbf => ?_
          have hcf := hof.c
          simp (disch := omega) only [go_sem, ↓reduceIte, Nat.reduceEqDiff, Nat.reduceAdd, Nat.reduceMul, Nat.reduceSub, Nat.reduceLT, Nat.reduceLeDiff, Nat.reduceBEq, reduceCtorEq, Int.reduceLT, Int.reduceEq, Int.reduceLE, Int.reduceAdd, Int.reduceSub, Int.reduceToNat, Int.reduceNeg, hcf]
          obtain ⟨f1, f2, f3⟩ := T.fin hbf
          rw [hO, rdF, if_neg z]
          exact ⟨⟨nilS, rfl, OwnT.nil ..⟩, f1, f3⟩
      · simp (disch := omega) only [go_sem, ↓reduceIte, Nat.reduceEqDiff, Nat.reduceAdd, Nat.reduceMul, Nat.reduceSub, Nat.reduceLT, Nat.reduceLeDiff, Nat.reduceBEq, reduceCtorEq, Int.reduceLT, Int.reduceEq, Int.reduceLE, Int.reduceAdd, Int.reduceSub, Int.reduceToNat, Int.reduceNeg]
        refine walloc_O fun w Sw hew hww hwn => ?_
        obtain ⟨T, how, hnw, hoy, hqy⟩ := T.take hew hww hwn
        have hcy := load2 hoy
        simp (disch := omega) only [go_sem, ↓reduceIte, Nat.reduceEqDiff, Nat.reduceAdd, Nat.reduceMul, Nat.reduceSub, Nat.reduceLT, Nat.reduceLeDiff, Nat.reduceBEq, reduceCtorEq, Int.reduceLT, Int.reduceEq, Int.reduceLE, Int.reduceAdd, Int.reduceSub, Int.reduceToNat, Int.reduceNeg, hcy]
        have hG5 := G.d
        have hbn := T.n
        have hGL := G.2.2
        refine wJ_of (F.osierref03_Take_J T.rd (Nat.le_trans T.hB T.n) G.1 G.2.1 (by omega)) ?_; rintro _ Sr ⟨rfl, hr, hb⟩
        replace T := T.step (p' := (rdD P4.2.1 P4.2.2).2) hr hb
        replace G := hG5
        generalize hP5 : rdD P4.2.1 P4.2.2 = P5 at *
        have how := how.ptr T.hq hb
        have hcy2 := load2 (but2 hoy hb hqy)
        simp (disch := omega) only [go_sem, ↓reduceIte, Nat.reduceEqDiff, Nat.reduceAdd, Nat.reduceMul, Nat.reduceSub, Nat.reduceLT, Nat.reduceLeDiff, Nat.reduceBEq, reduceCtorEq, Int.reduceLT, Int.reduceEq, Int.reduceLE, Int.reduceAdd, Int.reduceSub, Int.reduceToNat, Int.reduceNeg, hcy2]
        refine wst_op ⟨P1.1, P2.1, P3.1, P4.1, P5.1, (0, 0), 0, 0, (0, 0), ⟨#[]⟩⟩ (.slice bd P3.1.length cd) T.ob rfl rfl (by decide) (by first | rfl | (simp only [k1]; rfl) | (simp only [k2]; rfl) | (simp only [k3]; rfl)) fun Ss hob hbs => ?_
        replace T := T.setD hob hbs how hnw
        simp (disch := omega) only [go_sem, ↓reduceIte, Nat.reduceEqDiff, Nat.reduceAdd, Nat.reduceMul, Nat.reduceSub, Nat.reduceLT, Nat.reduceLeDiff, Nat.reduceBEq, reduceCtorEq, Int.reduceLT, Int.reduceEq, Int.reduceLE, Int.reduceAdd, Int.reduceSub, Int.reduceToNat, Int.reduceNeg, k1, k2]
        have hG6 := G.d
        have hbn := T.n
        have hGL := G.2.2
        refine wJ_of (F.osierref03_Take_J T.rd (Nat.le_trans T.hB T.n) G.1 G.2.1 (by omega)) ?_; rintro _ Sr ⟨rfl, hr, hb⟩
        replace T := T.step (p' := (rdD P5.2.1 P5.2.2).2) hr hb
        replace G := hG6
        generalize hP6 : rdD P5.2.1 P5.2.2 = P6 at *
        simp (disch := omega) only [go_sem, ↓reduceIte, Nat.reduceEqDiff, Nat.reduceAdd, Nat.reduceMul, Nat.reduceSub, Nat.reduceLT, Nat.reduceLeDiff, Nat.reduceBEq, reduceCtorEq, Int.reduceLT, Int.reduceEq, Int.reduceLE, Int.reduceAdd, Int.reduceSub, Int.reduceToNat, Int.reduceNeg]
        refine wst_op ⟨P1.1, P2.1, P3.1, P4.1, P5.1, P6.1, 0, 0, (0, 0), ⟨#[]⟩⟩ (.slice bd P3.1.length cd) T.ob rfl rfl (by decide) rfl fun Ss hob hbs => ?_
        replace T := T.set hob hbs rfl
        have hO : rdO p = rdF ⟨P1.1, P2.1, P3.1, P4.1, P5.1, P6.1, 0, 0, (0, 0), ⟨#[]⟩⟩ P6.2 := by
          simp only [rdO, rdH, hP1, hP2, hP3, hP4, hf, hP5]
          simp only [rdB, ↓reduceIte, Int.reduceEq, k2, hP6]
        have hc := T.ob.c
        have hc1 := T.c1
        by_cases z : P6.2.2 = 0
        · simp (disch := omega) only [go_sem, ↓reduceIte, Nat.reduceEqDiff, Nat.reduceAdd, Nat.reduceMul, Nat.reduceSub, Nat.reduceLT, Nat.reduceLeDiff, Nat.reduceBEq, reduceCtorEq, Int.reduceLT, Int.reduceEq, Int.reduceLE, Int.reduceAdd, Int.reduceSub, Int.reduceToNat, Int.reduceNeg, z, hc, hc1]
          refine wJ_of (F.osierref07_Check_J (o := ⟨P1.1, P2.1, P3.1, P4.1, P5.1, P6.1, 0, 0, (0, 0), ⟨#[]⟩⟩) (T.ow.sl dotE) (by show P3.1.length < _; omega)) ?_; rintro _ _ ⟨rfl, rfl⟩
          by_cases my : mayO ⟨P1.1, P2.1, P3.1, P4.1, P5.1, P6.1, 0, 0, (0, 0), ⟨#[]⟩⟩
          · simp (disch := omega) only [go_sem, ↓reduceIte, Nat.reduceEqDiff, Nat.reduceAdd, Nat.reduceMul, Nat.reduceSub, Nat.reduceLT, Nat.reduceLeDiff, Nat.reduceBEq, reduceCtorEq, Int.reduceLT, Int.reduceEq, Int.reduceLE, Int.reduceAdd, Int.reduceSub, Int.reduceToNat, Int.reduceNeg, z, hc, hc1, my]
            refine wst_op ⟨P1.1, P2.1, P3.1, P4.1, P5.1, P6.1, 0, 0, (0, 0), ⟨#[]⟩⟩ (.slice bd P3.1.length cd) T.ox rfl rfl (by decide) (wrote_full _ _ rfl) fun Sf hof hbf => ?_
            have hcf := hof.c
            simp (disch := omega) only [go_sem, ↓reduceIte, Nat.reduceEqDiff, Nat.reduceAdd, Nat.reduceMul, Nat.reduceSub, Nat.reduceLT, Nat.reduceLeDiff, Nat.reduceBEq, reduceCtorEq, Int.reduceLT, Int.reduceEq, Int.reduceLE, Int.reduceAdd, Int.reduceSub, Int.reduceToNat, Int.reduceNeg, hcf]
            obtain ⟨f1, f2, f3⟩ := T.fin hbf
            rw [hO, rdF, if_pos z, if_pos my]
            exact ⟨⟨_, rfl, f2⟩, f1, f3⟩
          · simp (disch := omega) only [go_sem, ↓reduceIte, Nat.reduceEqDiff, Nat.reduceAdd, Nat.reduceMul, Nat.reduceSub, Nat.reduceLT, Nat.reduceLeDiff, Nat.reduceBEq, reduceCtorEq, Int.reduceLT, Int.reduceEq, Int.reduceLE, Int.reduceAdd, Int.reduceSub, Int.reduceToNat, Int.reduceNeg, z, hc, hc1, my]
            refine wJ_of (F.osierref01_R_Fail_J (x := 30) T.rd (by decide)) ?_; rintro _ Sr ⟨rfl, hr, hb⟩
            replace T := T.step (p' := failP 30 P6.2) hr hb
            have ze : (failP 30 P6.2).2 ≠ 0 := by simp [failP, z]
            have hc2 := T.c1
            simp (disch := omega) only [go_sem, ↓reduceIte, Nat.reduceEqDiff, Nat.reduceAdd, Nat.reduceMul, Nat.reduceSub, Nat.reduceLT, Nat.reduceLeDiff, Nat.reduceBEq, reduceCtorEq, Int.reduceLT, Int.reduceEq, Int.reduceLE, Int.reduceAdd, Int.reduceSub, Int.reduceToNat, Int.reduceNeg, ze, hc2]
            refine wst_op oz nilS T.ox rfl rfl (by decide) (wrote_full _ _ rfl) fun Sf hof hbf => ?_
            have hcf := hof.c
            simp (disch := omega) only [go_sem, ↓reduceIte, Nat.reduceEqDiff, Nat.reduceAdd, Nat.reduceMul, Nat.reduceSub, Nat.reduceLT, Nat.reduceLeDiff, Nat.reduceBEq, reduceCtorEq, Int.reduceLT, Int.reduceEq, Int.reduceLE, Int.reduceAdd, Int.reduceSub, Int.reduceToNat, Int.reduceNeg, hcf]
            obtain ⟨f1, f2, f3⟩ := T.fin hbf
            rw [hO, rdF, if_pos z, if_neg my]
            exact ⟨⟨nilS, rfl, OwnT.nil ..⟩, f1, f3⟩
        · simp (disch := omega) only [go_sem, ↓reduceIte, Nat.reduceEqDiff, Nat.reduceAdd, Nat.reduceMul, Nat.reduceSub, Nat.reduceLT, Nat.reduceLeDiff, Nat.reduceBEq, reduceCtorEq, Int.reduceLT, Int.reduceEq, Int.reduceLE, Int.reduceAdd, Int.reduceSub, Int.reduceToNat, Int.reduceNeg, z, hc1]
          refine wst_op oz nilS T.ox rfl rfl (by decide) (wrote_full _ _ rfl) fun Sf hof hbf => ?_
          have hcf := hof.c
          simp (disch := omega) only [go_sem, ↓reduceIte, Nat.reduceEqDiff, Nat.reduceAdd, Nat.reduceMul, Nat.reduceSub, Nat.reduceLT, Nat.reduceLeDiff, Nat.reduceBEq, reduceCtorEq, Int.reduceLT, Int.reduceEq, Int.reduceLE, Int.reduceAdd, Int.reduceSub, Int.reduceToNat, Int.reduceNeg, hcf]
          obtain ⟨f1, f2, f3⟩ := T.fin hbf
          rw [hO, rdF, if_neg z]
          exact ⟨⟨nilS, rfl, OwnT.nil ..⟩, f1, f3⟩
    · simp (disch := omega) only [go_sem, ↓reduceIte, Nat.reduceEqDiff, Nat.reduceAdd, Nat.reduceMul, Nat.reduceSub, Nat.reduceLT, Nat.reduceLeDiff, Nat.reduceBEq, reduceCtorEq, Int.reduceLT, Int.reduceEq, Int.reduceLE, Int.reduceAdd, Int.reduceSub, Int.reduceToNat, Int.reduceNeg, hc4, k1, k2, z4]
      refine wI_alt ?_ ?_
      · simp (disch := omega) only [go_sem, ↓reduceIte, Nat.reduceEqDiff, Nat.reduceAdd, Nat.reduceMul, Nat.reduceSub, Nat.reduceLT, Nat.reduceLeDiff, Nat.reduceBEq, reduceCtorEq, Int.reduceLT, Int.reduceEq, Int.reduceLE, Int.reduceAdd, Int.reduceSub, Int.reduceToNat, Int.reduceNeg]
        have hG5 := G.d
        have hbn := T.n
        have hGL := G.2.2
        refine wJ_of (F.osierref03_Take_J T.rd (Nat.le_trans T.hB T.n) G.1 G.2.1 (by omega)) ?_; rintro _ Sr ⟨rfl, hr, hb⟩
        replace T := T.step (p' := (rdD P4.2.1 P4.2.2).2) hr hb
        replace G := hG5
        generalize hP5 : rdD P4.2.1 P4.2.2 = P5 at *
        have hc5 := T.c
        simp (disch := omega) only [go_sem, ↓reduceIte, Nat.reduceEqDiff, Nat.reduceAdd, Nat.reduceMul, Nat.reduceSub, Nat.reduceLT, Nat.reduceLeDiff, Nat.reduceBEq, reduceCtorEq, Int.reduceLT, Int.reduceEq, Int.reduceLE, Int.reduceAdd, Int.reduceSub, Int.reduceToNat, Int.reduceNeg, hc5]
        refine walloc_O fun w Sw hew hww hwn => ?_
        obtain ⟨T, how, hnw, hoy, -⟩ := T.take hew hww hwn
        have hcy := load2 hoy
        simp (disch := omega) only [go_sem, ↓reduceIte, Nat.reduceEqDiff, Nat.reduceAdd, Nat.reduceMul, Nat.reduceSub, Nat.reduceLT, Nat.reduceLeDiff, Nat.reduceBEq, reduceCtorEq, Int.reduceLT, Int.reduceEq, Int.reduceLE, Int.reduceAdd, Int.reduceSub, Int.reduceToNat, Int.reduceNeg, hcy]
        refine wst_op ⟨P1.1, P2.1, P3.1, P4.1, P5.1, (0, 0), 0, 0, (0, 0), ⟨#[]⟩⟩ (.slice bd P3.1.length cd) T.ob rfl rfl (by decide) (by first | rfl | (simp only [k1]; rfl) | (simp only [k2]; rfl) | (simp only [k3]; rfl)) fun Ss hob hbs => ?_
        replace T := T.setD hob hbs how hnw
        simp (disch := omega) only [go_sem, ↓reduceIte, Nat.reduceEqDiff, Nat.reduceAdd, Nat.reduceMul, Nat.reduceSub, Nat.reduceLT, Nat.reduceLeDiff, Nat.reduceBEq, reduceCtorEq, Int.reduceLT, Int.reduceEq, Int.reduceLE, Int.reduceAdd, Int.reduceSub, Int.reduceToNat, Int.reduceNeg, k1, k2]
        have hG6 := G.d
        have hbn := T.n
        have hGL := G.2.2
        refine wJ_of (F.osierref03_Take_J T.rd (Nat.le_trans T.hB T.n) G.1 G.2.1 (by omega)) ?_; rintro _ Sr ⟨rfl, hr, hb⟩
        replace T := T.step (p' := (rdD P5.2.1 P5.2.2).2) hr hb
        replace G := hG6
        generalize hP6 : rdD P5.2.1 P5.2.2 = P6 at *
        simp (disch := omega) only [go_sem, ↓reduceIte, Nat.reduceEqDiff, Nat.reduceAdd, Nat.reduceMul, Nat.reduceSub, Nat.reduceLT, Nat.reduceLeDiff, Nat.reduceBEq, reduceCtorEq, Int.reduceLT, Int.reduceEq, Int.reduceLE, Int.reduceAdd, Int.reduceSub, Int.reduceToNat, Int.reduceNeg]
        refine wst_op ⟨P1.1, P2.1, P3.1, P4.1, P5.1, P6.1, 0, 0, (0, 0), ⟨#[]⟩⟩ (.slice bd P3.1.length cd) T.ob rfl rfl (by decide) rfl fun Ss hob hbs => ?_
        replace T := T.set hob hbs rfl
        have hO : rdO p = rdF ⟨P1.1, P2.1, P3.1, P4.1, P5.1, P6.1, 0, 0, (0, 0), ⟨#[]⟩⟩ P6.2 := by
          simp only [rdO, rdH, hP1, hP2, hP3, hP4, hf, hP5]
          simp only [rdB, ↓reduceIte, Int.reduceEq, k2, hP6]
        have hc := T.ob.c
        have hc1 := T.c1
        by_cases z : P6.2.2 = 0
        · simp (disch := omega) only [go_sem, ↓reduceIte, Nat.reduceEqDiff, Nat.reduceAdd, Nat.reduceMul, Nat.reduceSub, Nat.reduceLT, Nat.reduceLeDiff, Nat.reduceBEq, reduceCtorEq, Int.reduceLT, Int.reduceEq, Int.reduceLE, Int.reduceAdd, Int.reduceSub, Int.reduceToNat, Int.reduceNeg, z, hc, hc1]
          refine wJ_of (F.osierref07_Check_J (o := ⟨P1.1, P2.1, P3.1, P4.1, P5.1, P6.1, 0, 0, (0, 0), ⟨#[]⟩⟩) (T.ow.sl dotE) (by show P3.1.length < _; omega)) ?_; rintro _ _ ⟨rfl, rfl⟩
          by_cases my : mayO ⟨P1.1, P2.1, P3.1, P4.1, P5.1, P6.1, 0, 0, (0, 0), ⟨#[]⟩⟩
          · simp (disch := omega) only [go_sem, ↓reduceIte, Nat.reduceEqDiff, Nat.reduceAdd, Nat.reduceMul, Nat.reduceSub, Nat.reduceLT, Nat.reduceLeDiff, Nat.reduceBEq, reduceCtorEq, Int.reduceLT, Int.reduceEq, Int.reduceLE, Int.reduceAdd, Int.reduceSub, Int.reduceToNat, Int.reduceNeg, z, hc, hc1, my]
            refine wst_op ⟨P1.1, P2.1, P3.1, P4.1, P5.1, P6.1, 0, 0, (0, 0), ⟨#[]⟩⟩ (.slice bd P3.1.length cd) T.ox rfl rfl (by decide) (wrote_full _ _ rfl) fun Sf hof hbf => ?_
            have hcf := hof.c
            simp (disch := omega) only [go_sem, ↓reduceIte, Nat.reduceEqDiff, Nat.reduceAdd, Nat.reduceMul, Nat.reduceSub, Nat.reduceLT, Nat.reduceLeDiff, Nat.reduceBEq, reduceCtorEq, Int.reduceLT, Int.reduceEq, Int.reduceLE, Int.reduceAdd, Int.reduceSub, Int.reduceToNat, Int.reduceNeg, hcf]
            obtain ⟨f1, f2, f3⟩ := T.fin hbf
            rw [hO, rdF, if_pos z, if_pos my]
            exact ⟨⟨_, rfl, f2⟩, f1, f3⟩
          · simp (disch := omega) only [go_sem, ↓reduceIte, Nat.reduceEqDiff, Nat.reduceAdd, Nat.reduceMul, Nat.reduceSub, Nat.reduceLT, Nat.reduceLeDiff, Nat.reduceBEq, reduceCtorEq, Int.reduceLT, Int.reduceEq, Int.reduceLE, Int.reduceAdd, Int.reduceSub, Int.reduceToNat, Int.reduceNeg, z, hc, hc1, my]
            refine wJ_of (F.osierref01_R_Fail_J (x := 30) T.rd (by decide)) ?_; rintro _ Sr ⟨rfl, hr, hb⟩
            replace T := T.step (p' := failP 30 P6.2) hr hb
            have ze : (failP 30 P6.2).2 ≠ 0 := by simp [failP, z]
            have hc2 := T.c1
            simp (disch := omega) only [go_sem, ↓reduceIte, Nat.reduceEqDiff, Nat.reduceAdd, Nat.reduceMul, Nat.reduceSub, Nat.reduceLT, Nat.reduceLeDiff, Nat.reduceBEq, reduceCtorEq, Int.reduceLT, Int.reduceEq, Int.reduceLE, Int.reduceAdd, Int.reduceSub, Int.reduceToNat, Int.reduceNeg, ze, hc2]
            refine wst_op oz nilS T.ox rfl rfl (by decide) (wrote_full _ _ rfl) fun Sf hof hbf => ?_
            have hcf := hof.c
            simp (disch := omega) only [go_sem, ↓reduceIte, Nat.reduceEqDiff, Nat.reduceAdd, Nat.reduceMul, Nat.reduceSub, Nat.reduceLT, Nat.reduceLeDiff, Nat.reduceBEq, reduceCtorEq, Int.reduceLT, Int.reduceEq, Int.reduceLE, Int.reduceAdd, Int.reduceSub, Int.reduceToNat, Int.reduceNeg, hcf]
            obtain ⟨f1, f2, f3⟩ := T.fin hbf
            rw [hO, rdF, if_pos z, if_neg my]
            exact ⟨⟨nilS, rfl, OwnT.nil ..⟩, f1, f3⟩
        · simp (disch := omega) only [go_sem, ↓reduceIte, Nat.reduceEqDiff, Nat.reduceAdd, Nat.reduceMul, Nat.reduceSub, Nat.reduceLT, Nat.reduceLeDiff, Nat.reduceBEq, reduceCtorEq, Int.reduceLT, Int.reduceEq, Int.reduceLE, Int.reduceAdd, Int.reduceSub, Int.reduceToNat, Int.reduceNeg, z, hc1]
          refine wst_op oz nilS T.ox rfl rfl (by decide) (wrote_full _ _ rfl) fun Sf hof hbf => ?_
          have hcf := hof.c
          simp (disch := omega) only [go_sem, ↓reduceIte, Nat.reduceEqDiff, Nat.reduceAdd, Nat.reduceMul, Nat.reduceSub, Nat.reduceLT, Nat.reduceLeDiff, Nat.reduceBEq, reduceCtorEq, Int.reduceLT, Int.reduceEq, Int.reduceLE, Int.reduceAdd, Int.reduceSub, Int.reduceToNat, Int.reduceNeg, hcf]
          obtain ⟨f1, f2, f3⟩ := T.fin hbf
          rw [hO, rdF, if_neg z]
          exact ⟨⟨nilS, rfl, OwnT.nil ..⟩, f1, f3⟩
      · simp (disch := omega) only [go_sem, ↓reduceIte, Nat.reduceEqDiff, Nat.reduceAdd, Nat.reduceMul, Nat.reduceSub, Nat.reduceLT, Nat.reduceLeDiff, Nat.reduceBEq, reduceCtorEq, Int.reduceLT, Int.reduceEq, Int.reduceLE, Int.reduceAdd, Int.reduceSub, Int.reduceToNat, Int.reduceNeg]
        refine walloc_O fun w Sw hew hww hwn => ?_
        obtain ⟨T, how, hnw, hoy, hqy⟩ := T.take hew hww hwn
        have hcy := load2 hoy
        simp (disch := omega) only [go_sem, ↓reduceIte, Nat.reduceEqDiff, Nat.reduceAdd, Nat.reduceMul, Nat.reduceSub, Nat.reduceLT, Nat.reduceLeDiff, Nat.reduceBEq, reduceCtorEq, Int.reduceLT, Int.reduceEq, Int.reduceLE, Int.reduceAdd, Int.reduceSub, Int.reduceToNat, Int.reduceNeg, hcy]
        have hG5 := G.d
        have hbn := T.n
        have hGL := G.2.2
        refine wJ_of (F.osierref03_Take_J T.rd (Nat.le_trans T.hB T.n) G.1 G.2.1 (by omega)) ?_; rintro _ Sr ⟨rfl, hr, hb⟩
        replace T := T.step (p' := (rdD P4.2.1 P4.2.2).2) hr hb
        replace G := hG5
        generalize hP5 : rdD P4.2.1 P4.2.2 = P5 at *
        have how := how.ptr T.hq hb
        have hcy2 := load2 (but2 hoy hb hqy)
        simp (disch := omega) only [go_sem, ↓reduceIte, Nat.reduceEqDiff, Nat.reduceAdd, Nat.reduceMul, Nat.reduceSub, Nat.reduceLT, Nat.reduceLeDiff, Nat.reduceBEq, reduceCtorEq, Int.reduceLT, Int.reduceEq, Int.reduceLE, Int.reduceAdd, Int.reduceSub, Int.reduceToNat, Int.reduceNeg, hcy2]
        refine wst_op ⟨P1.1, P2.1, P3.1, P4.1, P5.1, (0, 0), 0, 0, (0, 0), ⟨#[]⟩⟩ (.slice bd P3.1.length cd) T.ob rfl rfl (by decide) (by first | rfl | (simp only [k1]; rfl) | (simp only [k2]; rfl) | (simp only [k3]; rfl)) fun Ss hob hbs => ?_
        replace T := T.setD hob hbs how hnw
        simp (disch := omega) only [go_sem, ↓reduceIte, Nat.reduceEqDiff, Nat.reduceAdd, Nat.reduceMul, Nat.reduceSub, Nat.reduceLT, Nat.reduceLeDiff, Nat.reduceBEq, reduceCtorEq, Int.reduceLT, Int.reduceEq, Int.reduceLE, Int.reduceAdd, Int.reduceSub, Int.reduceToNat, Int.reduceNeg, k1, k2]
        have hG6 := G.d
        have hbn := T.n
        have hGL := G.2.2
        refine wJ_of (F.osierref03_Take_J T.rd (Nat.le_trans T.hB T.n) G.1 G.2.1 (by omega)) ?_; rintro _ Sr ⟨rfl, hr, hb⟩
        replace T := T.step (p' := (rdD P5.2.1 P5.2.2).2) hr hb
        replace G := hG6
        generalize hP6 : rdD P5.2.1 P5.2.2 = P6 at *
        simp (disch := omega) only [go_sem, ↓reduceIte, Nat.reduceEqDiff, Nat.reduceAdd, Nat.reduceMul, Nat.reduceSub, Nat.reduceLT, Nat.reduceLeDiff, Nat.reduceBEq, reduceCtorEq, Int.reduceLT, Int.reduceEq, Int.reduceLE, Int.reduceAdd, Int.reduceSub, Int.reduceToNat, Int.reduceNeg]
        refine wst_op ⟨P1.1, P2.1, P3.1, P4.1, P5.1, P6.1, 0, 0, (0, 0), ⟨#[]⟩⟩ (.slice bd P3.1.length cd) T.ob rfl rfl (by decide) rfl fun Ss hob hbs => ?_
        replace T := T.set hob hbs rfl
        have hO : rdO p = rdF ⟨P1.1, P2.1, P3.1, P4.1, P5.1, P6.1, 0, 0, (0, 0), ⟨#[]⟩⟩ P6.2 := by
          simp only [rdO, rdH, hP1, hP2, hP3, hP4, hf, hP5]
          simp only [rdB, ↓reduceIte, Int.reduceEq, k2, hP6]
        have hc := T.ob.c
        have hc1 := T.c1
        by_cases z : P6.2.2 = 0
        · simp (disch := omega) only [go_sem, ↓reduceIte, Nat.reduceEqDiff, Nat.reduceAdd, Nat.reduceMul, Nat.reduceSub, Nat.reduceLT, Nat.reduceLeDiff, Nat.reduceBEq, reduceCtorEq, Int.reduceLT, Int.reduceEq, Int.reduceLE, Int.reduceAdd, Int.reduceSub, Int.reduceToNat, Int.reduceNeg, z, hc, hc1]
          refine wJ_of (F.osierref07_Check_J (o := ⟨P1.1, P2.1, P3.1, P4.1, P5.1, P6.1, 0, 0, (0, 0), ⟨#[]⟩⟩) (T.ow.sl dotE) (by show P3.1.length < _; omega)) ?_; rintro _ _ ⟨rfl, rfl⟩
          by_cases my : mayO ⟨P1.1, P2.1, P3.1, P4.1, P5.1, P6.1, 0, 0, (0, 0), ⟨#[]⟩⟩
          · simp (disch := omega) only [go_sem, ↓reduceIte, Nat.reduceEqDiff, Nat.reduceAdd, Nat.reduceMul, Nat.reduceSub, Nat.reduceLT, Nat.reduceLeDiff, Nat.reduceBEq, reduceCtorEq, Int.reduceLT, Int.reduceEq, Int.reduceLE, Int.reduceAdd, Int.reduceSub, Int.reduceToNat, Int.reduceNeg, z, hc, hc1, my]
            refine wst_op ⟨P1.1, P2.1, P3.1, P4.1, P5.1, P6.1, 0, 0, (0, 0), ⟨#[]⟩⟩ (.slice bd P3.1.length cd) T.ox rfl rfl (by decide) (wrote_full _ _ rfl) fun Sf hof hbf => ?_
            have hcf := hof.c
            simp (disch := omega) only [go_sem, ↓reduceIte, Nat.reduceEqDiff, Nat.reduceAdd, Nat.reduceMul, Nat.reduceSub, Nat.reduceLT, Nat.reduceLeDiff, Nat.reduceBEq, reduceCtorEq, Int.reduceLT, Int.reduceEq, Int.reduceLE, Int.reduceAdd, Int.reduceSub, Int.reduceToNat, Int.reduceNeg, hcf]
            obtain ⟨f1, f2, f3⟩ := T.fin hbf
            rw [hO, rdF, if_pos z, if_pos my]
            exact ⟨⟨_, rfl, f2⟩, f1, f3⟩
          · simp (disch := omega) only [go_sem, ↓reduceIte, Nat.reduceEqDiff, Nat.reduceAdd, Nat.reduceMul, Nat.reduceSub, Nat.reduceLT, Nat.reduceLeDiff, Nat.reduceBEq, reduceCtorEq, Int.reduceLT, Int.reduceEq, Int.reduceLE, Int.reduceAdd, Int.reduceSub, Int.reduceToNat, Int.reduceNeg, z, hc, hc1, my]
            refine wJ_of (F.osierref01_R_Fail_J (x := 30) T.rd (by decide)) ?_; rintro _ Sr ⟨rfl, hr, hb⟩
            replace T := T.step (p' := failP 30 P6.2) hr hb
            have ze : (failP 30 P6.2).2 ≠ 0 := by simp [failP, z]
            have hc2 := T.c1
            simp (disch := omega) only [go_sem, ↓reduceIte, Nat.reduceEqDiff, Nat.reduceAdd, Nat.reduceMul, Nat.reduceSub, Nat.reduceLT, Nat.reduceLeDiff, Nat.reduceBEq, reduceCtorEq, Int.reduceLT, Int.reduceEq, Int.reduceLE, Int.reduceAdd, Int.reduceSub, Int.reduceToNat, Int.reduceNeg, ze, hc2]
            refine wst_op oz nilS T.ox rfl rfl (by decide) (wrote_full _ _ rfl) fun Sf hof hbf => ?_
            have hcf := hof.c
            simp (disch := omega) only [go_sem, ↓reduceIte, Nat.reduceEqDiff, Nat.reduceAdd, Nat.reduceMul, Nat.reduceSub, Nat.reduceLT, Nat.reduceLeDiff, Nat.reduceBEq, reduceCtorEq, Int.reduceLT, Int.reduceEq, Int.reduceLE, Int.reduceAdd, Int.reduceSub, Int.reduceToNat, Int.reduceNeg, hcf]
            obtain ⟨f1, f2, f3⟩ := T.fin hbf
            rw [hO, rdF, if_pos z, if_neg my]
            exact ⟨⟨nilS, rfl, OwnT.nil ..⟩, f1, f3⟩
        · simp (disch := omega) only [go_sem, ↓reduceIte, Nat.reduceEqDiff, Nat.reduceAdd, Nat.reduceMul, Nat.reduceSub, Nat.reduceLT, Nat.reduceLeDiff, Nat.reduceBEq, reduceCtorEq, Int.reduceLT, Int.reduceEq, Int.reduceLE, Int.reduceAdd, Int.reduceSub, Int.reduceToNat, Int.reduceNeg, z, hc1]
          refine wst_op oz nilS T.ox rfl rfl (by decide) (wrote_full _ _ rfl) fun Sf hof hbf => ?_
          have hcf := hof.c
          simp (disch := omega) only [go_sem, ↓reduceIte, Nat.reduceEqDiff, Nat.reduceAdd, Nat.reduceMul, Nat.reduceSub, Nat.reduceLT, Nat.reduceLeDiff, Nat.reduceBEq, reduceCtorEq, Int.reduceLT, Int.reduceEq, Int.reduceLE, Int.reduceAdd, Int.reduceSub, Int.reduceToNat, Int.reduceNeg, hcf]
          obtain ⟨f1, f2, f3⟩ := T.fin hbf
          rw [hO, rdF, if_neg z]
          exact ⟨⟨nilS, rfl, OwnT.nil ..⟩, f1, f3⟩
  by_cases k3 : P4.1 = 3
  · have hf : formP P4.1 P4.2 = P4.2 := if_pos (by omega)
    by_cases z4 : P4.2.2 = 0
    · simp (disch := omega) only [go_sem, ↓reduceIte, Nat.reduceEqDiff, Nat.reduceAdd, Nat.reduceMul, Nat.reduceSub, Nat.reduceLT, Nat.reduceLeDiff, Nat.reduceBEq, reduceCtorEq, Int.reduceLT, Int.reduceEq, Int.reduceLE, Int.reduceAdd, Int.reduceSub, Int.reduceToNat, Int.reduceNeg, hc4, k1, k2, k3, z4]
      refine wI_alt ?_ ?_
      · simp (disch := omega) only [go_sem, ↓reduceIte, Nat.reduceEqDiff, Nat.reduceAdd, Nat.reduceMul, Nat.reduceSub, Nat.reduceLT, Nat.reduceLeDiff, Nat.reduceBEq, reduceCtorEq, Int.reduceLT, Int.reduceEq, Int.reduceLE, Int.reduceAdd, Int.reduceSub, Int.reduceToNat, Int.reduceNeg]
        have hG5 := G.d
        have hbn := T.n
        have hGL := G.2.2
        refine wJ_of (F.osierref03_Take_J T.rd (Nat.le_trans T.hB T.n) G.1 G.2.1 (by omega)) ?_; rintro _ Sr ⟨rfl, hr, hb⟩
        replace T := T.step (p' := (rdD P4.2.1 P4.2.2).2) hr hb
        replace G := hG5
        generalize hP5 : rdD P4.2.1 P4.2.2 = P5 at *
        have hc5 := T.c
        simp (disch := omega) only [go_sem, ↓reduceIte, Nat.reduceEqDiff, Nat.reduceAdd, Nat.reduceMul, Nat.reduceSub, Nat.reduceLT, Nat.reduceLeDiff, Nat.reduceBEq, reduceCtorEq, Int.reduceLT, Int.reduceEq, Int.reduceLE, Int.reduceAdd, Int.reduceSub, Int.reduceToNat, Int.reduceNeg, hc5]
        refine walloc_O fun w Sw hew hww hwn => ?_
        obtain ⟨T, how, hnw, hoy, -⟩ := T.take hew hww hwn
        have hcy := load2 hoy
        simp (disch := omega) only [go_sem, ↓reduceIte, Nat.reduceEqDiff, Nat.reduceAdd, Nat.reduceMul, Nat.reduceSub, Nat.reduceLT, Nat.reduceLeDiff, Nat.reduceBEq, reduceCtorEq, Int.reduceLT, Int.reduceEq, Int.reduceLE, Int.reduceAdd, Int.reduceSub, Int.reduceToNat, Int.reduceNeg, hcy]
        refine wst_op ⟨P1.1, P2.1, P3.1, P4.1, P5.1, (0, 0), 0, 0, (0, 0), ⟨#[]⟩⟩ (.slice bd P3.1.length cd) T.ob rfl rfl (by decide) (by first | rfl | (simp only [k1]; rfl) | (simp only [k2]; rfl) | (simp only [k3]; rfl)) fun Ss hob hbs => ?_
        replace T := T.setD hob hbs how hnw
        simp (disch := omega) only [go_sem, ↓reduceIte, Nat.reduceEqDiff, Nat.reduceAdd, Nat.reduceMul, Nat.reduceSub, Nat.reduceLT, Nat.reduceLeDiff, Nat.reduceBEq, reduceCtorEq, Int.reduceLT, Int.reduceEq, Int.reduceLE, Int.reduceAdd, Int.reduceSub, Int.reduceToNat, Int.reduceNeg, k1, k2, k3]
        have hG6 := G.d
        have hbn := T.n
        have hGL := G.2.2
        refine wJ_of (F.osierref03_Take_J T.rd (Nat.le_trans T.hB T.n) G.1 G.2.1 (by omega)) ?_; rintro _ Sr ⟨rfl, hr, hb⟩
        replace T := T.step (p' := (rdD P5.2.1 P5.2.2).2) hr hb
        replace G := hG6
        generalize hP6 : rdD P5.2.1 P5.2.2 = P6 at *
        simp (disch := omega) only [go_sem, ↓reduceIte, Nat.reduceEqDiff, Nat.reduceAdd, Nat.reduceMul, Nat.reduceSub, Nat.reduceLT, Nat.reduceLeDiff, Nat.reduceBEq, reduceCtorEq, Int.reduceLT, Int.reduceEq, Int.reduceLE, Int.reduceAdd, Int.reduceSub, Int.reduceToNat, Int.reduceNeg]
        refine wst_op ⟨P1.1, P2.1, P3.1, P4.1, P5.1, (0, 0), 0, 0, P6.1, ⟨#[]⟩⟩ (.slice bd P3.1.length cd) T.ob rfl rfl (by decide) rfl fun Ss hob hbs => ?_
        replace T := T.set hob hbs rfl
        simp (disch := omega) only [go_sem, ↓reduceIte, Nat.reduceEqDiff, Nat.reduceAdd, Nat.reduceMul, Nat.reduceSub, Nat.reduceLT, Nat.reduceLeDiff, Nat.reduceBEq, reduceCtorEq, Int.reduceLT, Int.reduceEq, Int.reduceLE, Int.reduceAdd, Int.reduceSub, Int.reduceToNat, Int.reduceNeg]
        have hG7 := G.t
        have hbn := T.n
        have hGL := G.2.2
        refine wJ_of (F.osierref01_R_Text_J T.rd G.1 G.2.1 (by omega)) ?_; rintro _ Sr ⟨rfl, hr, hb⟩
        replace T := T.step (p' := (rdT P6.2.1 P6.2.2).2) hr hb
        replace G := hG7
        generalize hP7 : rdT P6.2.1 P6.2.2 = P7 at *
        simp (disch := omega) only [go_sem, ↓reduceIte, Nat.reduceEqDiff, Nat.reduceAdd, Nat.reduceMul, Nat.reduceSub, Nat.reduceLT, Nat.reduceLeDiff, Nat.reduceBEq, reduceCtorEq, Int.reduceLT, Int.reduceEq, Int.reduceLE, Int.reduceAdd, Int.reduceSub, Int.reduceToNat, Int.reduceNeg]
        refine wst_op ⟨P1.1, P2.1, P3.1, P4.1, P5.1, (0, 0), 0, 0, P6.1, P7.1⟩ (.slice bd P3.1.length cd) T.ob rfl rfl (by decide) rfl fun Ss hob hbs => ?_
        replace T := T.set hob hbs rfl
        have hO : rdO p = rdF ⟨P1.1, P2.1, P3.1, P4.1, P5.1, (0, 0), 0, 0, P6.1, P7.1⟩ P7.2 := by
          simp only [rdO, rdH, hP1, hP2, hP3, hP4, hf, hP5]
          simp only [rdB, ↓reduceIte, Int.reduceEq, k3, hP6, hP7]
        have hc := T.ob.c
        have hc1 := T.c1
        by_cases z : P7.2.2 = 0
        · simp (disch := omega) only [go_sem, ↓reduceIte, Nat.reduceEqDiff, Nat.reduceAdd, Nat.reduceMul, Nat.reduceSub, Nat.reduceLT, Nat.reduceLeDiff, Nat.reduceBEq, reduceCtorEq, Int.reduceLT, Int.reduceEq, Int.reduceLE, Int.reduceAdd, Int.reduceSub, Int.reduceToNat, Int.reduceNeg, z, hc, hc1]
          refine wJ_of (F.osierref07_Check_J (o := ⟨P1.1, P2.1, P3.1, P4.1, P5.1, (0, 0), 0, 0, P6.1, P7.1⟩) (T.ow.sl dotE) (by show P3.1.length < _; omega)) ?_; rintro _ _ ⟨rfl, rfl⟩
          by_cases my : mayO ⟨P1.1, P2.1, P3.1, P4.1, P5.1, (0, 0), 0, 0, P6.1, P7.1⟩
          · simp (disch := omega) only [go_sem, ↓reduceIte, Nat.reduceEqDiff, Nat.reduceAdd, Nat.reduceMul, Nat.reduceSub, Nat.reduceLT, Nat.reduceLeDiff, Nat.reduceBEq, reduceCtorEq, Int.reduceLT, Int.reduceEq, Int.reduceLE, Int.reduceAdd, Int.reduceSub, Int.reduceToNat, Int.reduceNeg, z, hc, hc1, my]
            refine wst_op ⟨P1.1, P2.1, P3.1, P4.1, P5.1, (0, 0), 0, 0, P6.1, P7.1⟩ (.slice bd P3.1.length cd) T.ox rfl rfl (by decide) (wrote_full _ _ rfl) fun Sf hof hbf => ?_
            have hcf := hof.c
            simp (disch := omega) only [go_sem, ↓reduceIte, Nat.reduceEqDiff, Nat.reduceAdd, Nat.reduceMul, Nat.reduceSub, Nat.reduceLT, Nat.reduceLeDiff, Nat.reduceBEq, reduceCtorEq, Int.reduceLT, Int.reduceEq, Int.reduceLE, Int.reduceAdd, Int.reduceSub, Int.reduceToNat, Int.reduceNeg, hcf]
            obtain ⟨f1, f2, f3⟩ := T.fin hbf
            rw [hO, rdF, if_pos z, if_pos my]
            exact ⟨⟨_, rfl, f2⟩, f1, f3⟩
          · simp (disch := omega) only [go_sem, ↓reduceIte, Nat.reduceEqDiff, Nat.reduceAdd, Nat.reduceMul, Nat.reduceSub, Nat.reduceLT, Nat.reduceLeDiff, Nat.reduceBEq, reduceCtorEq, Int.reduceLT, Int.reduceEq, Int.reduceLE, Int.reduceAdd, Int.reduceSub, Int.reduceToNat, Int.reduceNeg, z, hc, hc1, my]
            refine wJ_of (F.osierref01_R_Fail_J (x := 30) T.rd (by decide)) ?_; rintro _ Sr ⟨rfl, hr, hb⟩
            replace T := T.step (p' := failP 30 P7.2) hr hb
            have ze : (failP 30 P7.2).2 ≠ 0 := by simp [failP, z]
            have hc2 := T.c1
            simp (disch := omega) only [go_sem, ↓reduceIte, Nat.reduceEqDiff, Nat.reduceAdd, Nat.reduceMul, Nat.reduceSub, Nat.reduceLT, Nat.reduceLeDiff, Nat.reduceBEq, reduceCtorEq, Int.reduceLT, Int.reduceEq, Int.reduceLE, Int.reduceAdd, Int.reduceSub, Int.reduceToNat, Int.reduceNeg, ze, hc2]
            refine wst_op oz nilS T.ox rfl rfl (by decide) (wrote_full _ _ rfl) fun Sf hof hbf => ?_
            have hcf := hof.c
            simp (disch := omega) only [go_sem, ↓reduceIte, Nat.reduceEqDiff, Nat.reduceAdd, Nat.reduceMul, Nat.reduceSub, Nat.reduceLT, Nat.reduceLeDiff, Nat.reduceBEq, reduceCtorEq, Int.reduceLT, Int.reduceEq, Int.reduceLE, Int.reduceAdd, Int.reduceSub, Int.reduceToNat, Int.reduceNeg, hcf]
            obtain ⟨f1, f2, f3⟩ := T.fin hbf
            rw [hO, rdF, if_pos z, if_neg my]
            exact ⟨⟨nilS, rfl, OwnT.nil ..⟩, f1, f3⟩
        · simp (disch := omega) only [go_sem, ↓reduceIte, Nat.reduceEqDiff, Nat.reduceAdd, Nat.reduceMul, Nat.reduceSub, Nat.reduceLT, Nat.reduceLeDiff, Nat.reduceBEq, reduceCtorEq, Int.reduceLT, Int.reduceEq, Int.reduceLE, Int.reduceAdd, Int.reduceSub, Int.reduceToNat, Int.reduceNeg, z, hc1]
          refine wst_op oz nilS T.ox rfl rfl (by decide) (wrote_full _ _ rfl) fun Sf hof hbf => ?_
          have hcf := hof.c
          simp (disch := omega) only [go_sem, ↓reduceIte, Nat.reduceEqDiff, Nat.reduceAdd, Nat.reduceMul, Nat.reduceSub, Nat.reduceLT, Nat.reduceLeDiff, Nat.reduceBEq, reduceCtorEq, Int.reduceLT, Int.reduceEq, Int.reduceLE, Int.reduceAdd, Int.reduceSub, Int.reduceToNat, Int.reduceNeg, hcf]
          obtain ⟨f1, f2, f3⟩ := T.fin hbf
          rw [hO, rdF, if_neg z]
          exact ⟨⟨nilS, rfl, OwnT.nil ..⟩, f1, f3⟩
      · simp (disch := omega) only [go_sem, ↓reduceIte, Nat.reduceEqDiff, Nat.reduceAdd, Nat.reduceMul, Nat.reduceSub, Nat.reduceLT, Nat.reduceLeDiff, Nat.reduceBEq, reduceCtorEq, Int.reduceLT, Int.reduceEq, Int.reduceLE, Int.reduceAdd, Int.reduceSub, Int.reduceToNat, Int.reduceNeg]
        refine walloc_O fun w Sw hew hww hwn => ?_
        obtain ⟨T, how, hnw, hoy, hqy⟩ := T.take hew hww hwn
        have hcy := load2 hoy
        simp (disch := omega) only [go_sem, ↓reduceIte, Nat.reduceEqDiff, Nat.reduceAdd, Nat.reduceMul, Nat.reduceSub, Nat.reduceLT, Nat.reduceLeDiff, Nat.reduceBEq, reduceCtorEq, Int.reduceLT, Int.reduceEq, Int.reduceLE, Int.reduceAdd, Int.reduceSub, Int.reduceToNat, Int.reduceNeg, hcy]
        have hG5 := G.d
        have hbn := T.n
        have hGL := G.2.2
        refine wJ_of (F.osierref03_Take_J T.rd (Nat.le_trans T.hB T.n) G.1 G.2.1 (by omega)) ?_; rintro _ Sr ⟨rfl, hr, hb⟩
        replace T := T.step (p' := (rdD P4.2.1 P4.2.2).2) hr hb
        replace G := hG5
        generalize hP5 : rdD P4.2.1 P4.2.2 = P5 at *
        have how := how.ptr T.hq hb
        have hcy2 := load2 (but2 hoy hb hqy)
        simp (disch := omega) only [go_sem, ↓reduceIte, Nat.reduceEqDiff, Nat.reduceAdd, Nat.reduceMul, Nat.reduceSub, Nat.reduceLT, Nat.reduceLeDiff, Nat.reduceBEq, reduceCtorEq, Int.reduceLT, Int.reduceEq, Int.reduceLE, Int.reduceAdd, Int.reduceSub, Int.reduceToNat, Int.reduceNeg, hcy2]
        refine wst_op ⟨P1.1, P2.1, P3.1, P4.1, P5.1, (0, 0), 0, 0, (0, 0), ⟨#[]⟩⟩ (.slice bd P3.1.length cd) T.ob rfl rfl (by decide) (by first | rfl | (simp only [k1]; rfl) | (simp only [k2]; rfl) | (simp only [k3]; rfl)) fun Ss hob hbs => ?_
        replace T := T.setD hob hbs how hnw
        simp (disch := omega) only [go_sem, ↓reduceIte, Nat.reduceEqDiff, Nat.reduceAdd, Nat.reduceMul, Nat.reduceSub, Nat.reduceLT, Nat.reduceLeDiff, Nat.reduceBEq, reduceCtorEq, Int.reduceLT, Int.reduceEq, Int.reduceLE, Int.reduceAdd, Int.reduceSub, Int.reduceToNat, Int.reduceNeg, k1, k2, k3]
        have hG6 := G.d
        have hbn := T.n
        have hGL := G.2.2
        refine wJ_of (F.osierref03_Take_J T.rd (Nat.le_trans T.hB T.n) G.1 G.2.1 (by omega)) ?_; rintro _ Sr ⟨rfl, hr, hb⟩
        replace T := T.step (p' := (rdD P5.2.1 P5.2.2).2) hr hb
        replace G := hG6
        generalize hP6 : rdD P5.2.1 P5.2.2 = P6 at *
        simp (disch := omega) only [go_sem, ↓reduceIte, Nat.reduceEqDiff, Nat.reduceAdd, Nat.reduceMul, Nat.reduceSub, Nat.reduceLT, Nat.reduceLeDiff, Nat.reduceBEq, reduceCtorEq, Int.reduceLT, Int.reduceEq, Int.reduceLE, Int.reduceAdd, Int.reduceSub, Int.reduceToNat, Int.reduceNeg]
        refine wst_op ⟨P1.1, P2.1, P3.1, P4.1, P5.1, (0, 0), 0, 0, P6.1, ⟨#[]⟩⟩ (.slice bd P3.1.length cd) T.ob rfl rfl (by decide) rfl fun Ss hob hbs => ?_
        replace T := T.set hob hbs rfl
        simp (disch := omega) only [go_sem, ↓reduceIte, Nat.reduceEqDiff, Nat.reduceAdd, Nat.reduceMul, Nat.reduceSub, Nat.reduceLT, Nat.reduceLeDiff, Nat.reduceBEq, reduceCtorEq, Int.reduceLT, Int.reduceEq, Int.reduceLE, Int.reduceAdd, Int.reduceSub, Int.reduceToNat, Int.reduceNeg]
        have hG7 := G.t
        have hbn := T.n
        have hGL := G.2.2
        refine wJ_of (F.osierref01_R_Text_J T.rd G.1 G.2.1 (by omega)) ?_; rintro _ Sr ⟨rfl, hr, hb⟩
        replace T := T.step (p' := (rdT P6.2.1 P6.2.2).2) hr hb
        replace G := hG7
        generalize hP7 : rdT P6.2.1 P6.2.2 = P7 at *
        simp (disch := omega) only [go_sem, ↓reduceIte, Nat.reduceEqDiff, Nat.reduceAdd, Nat.reduceMul, Nat.reduceSub, Nat.reduceLT, Nat.reduceLeDiff, Nat.reduceBEq, reduceCtorEq, Int.reduceLT, Int.reduceEq, Int.reduceLE, Int.reduceAdd, Int.reduceSub, Int.reduceToNat, Int.reduceNeg]
        refine wst_op ⟨P1.1, P2.1, P3.1, P4.1, P5.1, (0, 0), 0, 0, P6.1, P7.1⟩ (.slice bd P3.1.length cd) T.ob rfl rfl (by decide) rfl fun Ss hob hbs => ?_
        replace T := T.set hob hbs rfl
        have hO : rdO p = rdF ⟨P1.1, P2.1, P3.1, P4.1, P5.1, (0, 0), 0, 0, P6.1, P7.1⟩ P7.2 := by
          simp only [rdO, rdH, hP1, hP2, hP3, hP4, hf, hP5]
          simp only [rdB, ↓reduceIte, Int.reduceEq, k3, hP6, hP7]
        have hc := T.ob.c
        have hc1 := T.c1
        by_cases z : P7.2.2 = 0
        · simp (disch := omega) only [go_sem, ↓reduceIte, Nat.reduceEqDiff, Nat.reduceAdd, Nat.reduceMul, Nat.reduceSub, Nat.reduceLT, Nat.reduceLeDiff, Nat.reduceBEq, reduceCtorEq, Int.reduceLT, Int.reduceEq, Int.reduceLE, Int.reduceAdd, Int.reduceSub, Int.reduceToNat, Int.reduceNeg, z, hc, hc1]
          refine wJ_of (F.osierref07_Check_J (o := ⟨P1.1, P2.1, P3.1, P4.1, P5.1, (0, 0), 0, 0, P6.1, P7.1⟩) (T.ow.sl dotE) (by show P3.1.length < _; omega)) ?_; rintro _ _ ⟨rfl, rfl⟩
          by_cases my : mayO ⟨P1.1, P2.1, P3.1, P4.1, P5.1, (0, 0), 0, 0, P6.1, P7.1⟩
          · simp (disch := omega) only [go_sem, ↓reduceIte, Nat.reduceEqDiff, Nat.reduceAdd, Nat.reduceMul, Nat.reduceSub, Nat.reduceLT, Nat.reduceLeDiff, Nat.reduceBEq, reduceCtorEq, Int.reduceLT, Int.reduceEq, Int.reduceLE, Int.reduceAdd, Int.reduceSub, Int.reduceToNat, Int.reduceNeg, z, hc, hc1, my]
            refine wst_op ⟨P1.1, P2.1, P3.1, P4.1, P5.1, (0, 0), 0, 0, P6.1, P7.1⟩ (.slice bd P3.1.length cd) T.ox rfl rfl (by decide) (wrote_full _ _ rfl) fun Sf hof hbf => ?_
            have hcf := hof.c
            simp (disch := omega) only [go_sem, ↓reduceIte, Nat.reduceEqDiff, Nat.reduceAdd, Nat.reduceMul, Nat.reduceSub, Nat.reduceLT, Nat.reduceLeDiff, Nat.reduceBEq, reduceCtorEq, Int.reduceLT, Int.reduceEq, Int.reduceLE, Int.reduceAdd, Int.reduceSub, Int.reduceToNat, Int.reduceNeg, hcf]
            obtain ⟨f1, f2, f3⟩ := T.fin hbf
            rw [hO, rdF, if_pos z, if_pos my]
            exact ⟨⟨_, rfl, f2⟩, f1, f3⟩
          · simp (disch := omega) only [go_sem, ↓reduceIte, Nat.reduceEqDiff, Nat.reduceAdd, Nat.reduceMul, Nat.reduceSub, Nat.reduceLT, Nat.reduceLeDiff, Nat.reduceBEq, reduceCtorEq, Int.reduceLT, Int.reduceEq, Int.reduceLE, Int.reduceAdd, Int.reduceSub, Int.reduceToNat, Int.reduceNeg, z, hc, hc1, my]
            refine wJ_of (F.osierref01_R_Fail_J (x := 30) T.rd (by decide)) ?_; rintro _ Sr ⟨rfl, hr, hb⟩
            replace T := T.step (p' := failP 30 P7.2) hr hb
            have ze : (failP 30 P7.2).2 ≠ 0 := by simp [failP, z]
            have hc2 := T.c1
            simp (disch := omega) only [go_sem, ↓reduceIte, Nat.reduceEqDiff, Nat.reduceAdd, Nat.reduceMul, Nat.reduceSub, Nat.reduceLT, Nat.reduceLeDiff, Nat.reduceBEq, reduceCtorEq, Int.reduceLT, Int.reduceEq, Int.reduceLE, Int.reduceAdd, Int.reduceSub, Int.reduceToNat, Int.reduceNeg, ze, hc2]
            refine wst_op oz nilS T.ox rfl rfl (by decide) (wrote_full _ _ rfl) fun Sf hof hbf => ?_
            have hcf := hof.c
            simp (disch := omega) only [go_sem, ↓reduceIte, Nat.reduceEqDiff, Nat.reduceAdd, Nat.reduceMul, Nat.reduceSub, Nat.reduceLT, Nat.reduceLeDiff, Nat.reduceBEq, reduceCtorEq, Int.reduceLT, Int.reduceEq, Int.reduceLE, Int.reduceAdd, Int.reduceSub, Int.reduceToNat, Int.reduceNeg, hcf]
            obtain ⟨f1, f2, f3⟩ := T.fin hbf
            rw [hO, rdF, if_pos z, if_neg my]
            exact ⟨⟨nilS, rfl, OwnT.nil ..⟩, f1, f3⟩
        · simp (disch := omega) only [go_sem, ↓reduceIte, Nat.reduceEqDiff, Nat.reduceAdd, Nat.reduceMul, Nat.reduceSub, Nat.reduceLT, Nat.reduceLeDiff, Nat.reduceBEq, reduceCtorEq, Int.reduceLT, Int.reduceEq, Int.reduceLE, Int.reduceAdd, Int.reduceSub, Int.reduceToNat, Int.reduceNeg, z, hc1]
          refine wst_op oz nilS T.ox rfl rfl (by decide) (wrote_full _ _ rfl) fun Sf hof hbf => ?_
          have hcf := hof.c
          simp (disch := omega) only [go_sem, ↓reduceIte, Nat.reduceEqDiff, Nat.reduceAdd, Nat.reduceMul, Nat.reduceSub, Nat.reduceLT, Nat.reduceLeDiff, Nat.reduceBEq, reduceCtorEq, Int.reduceLT, Int.reduceEq, Int.reduceLE, Int.reduceAdd, Int.reduceSub, Int.reduceToNat, Int.reduceNeg, hcf]
          obtain ⟨f1, f2, f3⟩ := T.fin hbf
          rw [hO, rdF, if_neg z]
          exact ⟨⟨nilS, rfl, OwnT.nil ..⟩, f1, f3⟩
    · simp (disch := omega) only [go_sem, ↓reduceIte, Nat.reduceEqDiff, Nat.reduceAdd, Nat.reduceMul, Nat.reduceSub, Nat.reduceLT, Nat.reduceLeDiff, Nat.reduceBEq, reduceCtorEq, Int.reduceLT, Int.reduceEq, Int.reduceLE, Int.reduceAdd, Int.reduceSub, Int.reduceToNat, Int.reduceNeg, hc4, k1, k2, k3, z4]
      refine wI_alt ?_ ?_
      · simp (disch := omega) only [go_sem, ↓reduceIte, Nat.reduceEqDiff, Nat.reduceAdd, Nat.reduceMul, Nat.reduceSub, Nat.reduceLT, Nat.reduceLeDiff, Nat.reduceBEq, reduceCtorEq, Int.reduceLT, Int.reduceEq, Int.reduceLE, Int.reduceAdd, Int.reduceSub, Int.reduceToNat, Int.reduceNeg]
        have hG5 := G.d
        have hbn := T.n
        have hGL := G.2.2
        refine wJ_of (F.osierref03_Take_J T.rd (Nat.le_trans T.hB T.n) G.1 G.2.1 (by omega)) ?_; rintro _ Sr ⟨rfl, hr, hb⟩
        replace T := T.step (p' := (rdD P4.2.1 P4.2.2).2) hr hb
        replace G := hG5
        generalize hP5 : rdD P4.2.1 P4.2.2 = P5 at *
        have hc5 := T.c
        simp (disch := omega) only [go_sem, ↓reduceIte, Nat.reduceEqDiff, Nat.reduceAdd, Nat.reduceMul, Nat.reduceSub, Nat.reduceLT, Nat.reduceLeDiff, Nat.reduceBEq, reduceCtorEq, Int.reduceLT, Int.reduceEq, Int.reduceLE, Int.reduceAdd, Int.reduceSub, Int.reduceToNat, Int.reduceNeg, hc5]
        refine walloc_O fun w Sw hew hww hwn => ?_
        obtain ⟨T, how, hnw, hoy, -⟩ := T.take hew hww hwn
        have hcy := load2 hoy
        simp (disch := omega) only [go_sem, ↓reduceIte, Nat.reduceEqDiff, Nat.reduceAdd, Nat.reduceMul, Nat.reduceSub, Nat.reduceLT, Nat.reduceLeDiff, Nat.reduceBEq, reduceCtorEq, Int.reduceLT, Int.reduceEq, Int.reduceLE, Int.reduceAdd, Int.reduceSub, Int.reduceToNat, Int.reduceNeg, hcy]
        refine wst_op ⟨P1.1, P2.1, P3.1, P4.1, P5.1, (0, 0), 0, 0, (0, 0), ⟨#[]⟩⟩ (.slice bd P3.1.length cd) T.ob rfl rfl (by decide) (by first | rfl | (simp only [k1]; rfl) | (simp only [k2]; rfl) | (simp only [k3]; rfl)) fun Ss hob hbs => ?_
        replace T := T.setD hob hbs how hnw
        simp (disch := omega) only [go_sem, ↓reduceIte, Nat.reduceEqDiff, Nat.reduceAdd, Nat.reduceMul, Nat.reduceSub, Nat.reduceLT, Nat.reduceLeDiff, Nat.reduceBEq, reduceCtorEq, Int.reduceLT, Int.reduceEq, Int.reduceLE, Int.reduceAdd, Int.reduceSub, Int.reduceToNat, Int.reduceNeg, k1, k2, k3]
        have hG6 := G.d
        have hbn := T.n
        have hGL := G.2.2
        refine wJ_of (F.osierref03_Take_J T.rd (Nat.le_trans T.hB T.n) G.1 G.2.1 (by omega)) ?_; rintro _ Sr ⟨rfl, hr, hb⟩
        replace T := T.step (p' := (rdD P5.2.1 P5.2.2).2) hr hb
        replace G := hG6
        generalize hP6 : rdD P5.2.1 P5.2.2 = P6 at *
        simp (disch := omega) only [go_sem, ↓reduceIte, Nat.reduceEqDiff, Nat.reduceAdd, Nat.reduceMul, Nat.reduceSub, Nat.reduceLT, Nat.reduceLeDiff, Nat.reduceBEq, reduceCtorEq, Int.reduceLT, Int.reduceEq, Int.reduceLE, Int.reduceAdd, Int.reduceSub, Int.reduceToNat, Int.reduceNeg]
        refine wst_op ⟨P1.1, P2.1, P3.1, P4.1, P5.1, (0, 0), 0, 0, P6.1, ⟨#[]⟩⟩ (.slice bd P3.1.length cd) T.ob rfl rfl (by decide) rfl fun Ss hob hbs => ?_
        replace T := T.set hob hbs rfl
        simp (disch := omega) only [go_sem, ↓reduceIte, Nat.reduceEqDiff, Nat.reduceAdd, Nat.reduceMul, Nat.reduceSub, Nat.reduceLT, Nat.reduceLeDiff, Nat.reduceBEq, reduceCtorEq, Int.reduceLT, Int.reduceEq, Int.reduceLE, Int.reduceAdd, Int.reduceSub, Int.reduceToNat, Int.reduceNeg]
        have hG7 := G.t
        have hbn := T.n
        have hGL := G.2.2
        refine wJ_of (F.osierref01_R_Text_J T.rd G.1 G.2.1 (by omega)) ?_; rintro _ Sr ⟨rfl, hr, hb⟩
        replace T := T.step (p' := (rdT P6.2.1 P6.2.2).2) hr hb
        replace G := hG7
        generalize hP7 : rdT P6.2.1 P6.2.2 = P7 at *
        simp (disch := omega) only [go_sem, ↓reduceIte, Nat.reduceEqDiff, Nat.reduceAdd, Nat.reduceMul, Nat.reduceSub, Nat.reduceLT, Nat.reduceLeDiff, Nat.reduceBEq, reduceCtorEq, Int.reduceLT, Int.reduceEq, Int.reduceLE, Int.reduceAdd, Int.reduceSub, Int.reduceToNat, Int.reduceNeg]
        refine wst_op ⟨P1.1, P2.1, P3.1, P4.1, P5.1, (0, 0), 0, 0, P6.1, P7.1⟩ (.slice bd P3.1.length cd) T.ob rfl rfl (by decide) rfl fun Ss hob hbs => ?_
        replace T := T.set hob hbs rfl
        have hO : rdO p = rdF ⟨P1.1, P2.1, P3.1, P4.1, P5.1, (0, 0), 0, 0, P6.1, P7.1⟩ P7.2 := by
          simp only [rdO, rdH, hP1, hP2, hP3, hP4, hf, hP5]
          simp only [rdB, ↓reduceIte, Int.reduceEq, k3, hP6, hP7]
        have hc := T.ob.c
        have hc1 := T.c1
        by_cases z : P7.2.2 = 0
        · simp (disch := omega) only [go_sem, ↓reduceIte, Nat.reduceEqDiff, Nat.reduceAdd, Nat.reduceMul, Nat.reduceSub, Nat.reduceLT, Nat.reduceLeDiff, Nat.reduceBEq, reduceCtorEq, Int.reduceLT, Int.reduceEq, Int.reduceLE, Int.reduceAdd, Int.reduceSub, Int.reduceToNat, Int.reduceNeg, z, hc, hc1]
          refine wJ_of (F.osierref07_Check_J (o := ⟨P1.1, P2.1, P3.1, P4.1, P5.1, (0, 0), 0, 0, P6.1, P7.1⟩) (T.ow.sl dotE) (by show P3.1.length < _; omega)) ?_; rintro _ _ ⟨rfl, rfl⟩
          by_cases my : mayO ⟨P1.1, P2.1, P3.1, P4.1, P5.1, (0, 0), 0, 0, P6.1, P7.1⟩
          · simp (disch := omega) only [go_sem, ↓reduceIte, Nat.reduceEqDiff, Nat.reduceAdd, Nat.reduceMul, Nat.reduceSub, Nat.reduceLT, Nat.reduceLeDiff, Nat.reduceBEq, reduceCtorEq, Int.reduceLT, Int.reduceEq, Int.reduceLE, Int.reduceAdd, Int.reduceSub, Int.reduceToNat, Int.reduceNeg, z, hc, hc1, my]
            refine wst_op ⟨P1.1, P2.1, P3.1, P4.1, P5.1, (0, 0), 0, 0, P6.1, P7.1⟩ (.slice bd P3.1.length cd) T.ox rfl rfl (by decide) (wrote_full _ _ rfl) fun Sf hof hbf => ?_
            have hcf := hof.c
            simp (disch := omega) only [go_sem, ↓reduceIte, Nat.reduceEqDiff, Nat.reduceAdd, Nat.reduceMul, Nat.reduceSub, Nat.reduceLT, Nat.reduceLeDiff, Nat.reduceBEq, reduceCtorEq, Int.reduceLT, Int.reduceEq, Int.reduceLE, Int.reduceAdd, Int.reduceSub, Int.reduceToNat, Int.reduceNeg, hcf]
            obtain ⟨f1, f2, f3⟩ := T.fin hbf
            rw [hO, rdF, if_pos z, if_pos my]
            exact ⟨⟨_, rfl, f2⟩, f1, f3⟩
          · simp (disch := omega) only [go_sem, ↓reduceIte, Nat.reduceEqDiff, Nat.reduceAdd, Nat.reduceMul, Nat.reduceSub, Nat.reduceLT, Nat.reduceLeDiff, Nat.reduceBEq, reduceCtorEq, Int.reduceLT, Int.reduceEq, Int.reduceLE, Int.reduceAdd, Int.reduceSub, Int.reduceToNat, Int.reduceNeg, z, hc, hc1, my]
            refine wJ_of (F.osierref01_R_Fail_J (x := 30) T.rd (by decide)) ?_; rintro _ Sr ⟨rfl, hr, hb⟩
            replace T := T.step (p' := failP 30 P7.2) hr hb
            have ze : (failP 30 P7.2).2 ≠ 0 := by simp [failP, z]
            have hc2 := T.c1
            simp (disch := omega) only [go_sem, ↓reduceIte, Nat.reduceEqDiff, Nat.reduceAdd, Nat.reduceMul, Nat.reduceSub, Nat.reduceLT, Nat.reduceLeDiff, Nat.reduceBEq, reduceCtorEq, Int.reduceLT, Int.reduceEq, Int.reduceLE, Int.reduceAdd, Int.reduceSub, Int.reduceToNat, Int.reduceNeg, ze, hc2]
            refine wst_op oz nilS T.ox rfl rfl (by decide) (wrote_full _ _ rfl) fun Sf hof hbf => ?_
            have hcf := hof.c
            simp (disch := omega) only [go_sem, ↓reduceIte, Nat.reduceEqDiff, Nat.reduceAdd, Nat.reduceMul, Nat.reduceSub, Nat.reduceLT, Nat.reduceLeDiff, Nat.reduceBEq, reduceCtorEq, Int.reduceLT, Int.reduceEq, Int.reduceLE, Int.reduceAdd, Int.reduceSub, Int.reduceToNat, Int.reduceNeg, hcf]
            obtain ⟨f1, f2, f3⟩ := T.fin hbf
            rw [hO, rdF, if_pos z, if_neg my]
            exact ⟨⟨nilS, rfl, OwnT.nil ..⟩, f1, f3⟩
        · simp (disch := omega) only [go_sem, ↓reduceIte, Nat.reduceEqDiff, Nat.reduceAdd, Nat.reduceMul, Nat.reduceSub, Nat.reduceLT, Nat.reduceLeDiff, Nat.reduceBEq, reduceCtorEq, Int.reduceLT, Int.reduceEq, Int.reduceLE, Int.reduceAdd, Int.reduceSub, Int.reduceToNat, Int.reduceNeg, z, hc1]
          refine wst_op oz nilS T.ox rfl rfl (by decide) (wrote_full _ _ rfl) fun Sf hof hbf => ?_
          have hcf := hof.c
          simp (disch := omega) only [go_sem, ↓reduceIte, Nat.reduceEqDiff, Nat.reduceAdd, Nat.reduceMul, Nat.reduceSub, Nat.reduceLT, Nat.reduceLeDiff, Nat.reduceBEq, reduceCtorEq, Int.reduceLT, Int.reduceEq, Int.reduceLE, Int.reduceAdd, Int.reduceSub, Int.reduceToNat, Int.reduceNeg, hcf]
          obtain ⟨f1, f2, f3⟩ := T.fin hbf
          rw [hO, rdF, if_neg z]
          exact ⟨⟨nilS, rfl, OwnT.nil ..⟩, f1, f3⟩
      · simp (disch := omega) only [go_sem, ↓reduceIte, Nat.reduceEqDiff, Nat.reduceAdd, Nat.reduceMul, Nat.reduceSub, Nat.reduceLT, Nat.reduceLeDiff, Nat.reduceBEq, reduceCtorEq, Int.reduceLT, Int.reduceEq, Int.reduceLE, Int.reduceAdd, Int.reduceSub, Int.reduceToNat, Int.reduceNeg]
        refine walloc_O fun w Sw hew hww hwn => ?_
        obtain ⟨T, how, hnw, hoy, hqy⟩ := T.take hew hww hwn
        have hcy := load2 hoy
        simp (disch := omega) only [go_sem, ↓reduceIte, Nat.reduceEqDiff, Nat.reduceAdd, Nat.reduceMul, Nat.reduceSub, Nat.reduceLT, Nat.reduceLeDiff, Nat.reduceBEq, reduceCtorEq, Int.reduceLT, Int.reduceEq, Int.reduceLE, Int.reduceAdd, Int.reduceSub, Int.reduceToNat, Int.reduceNeg, hcy]
        have hG5 := G.d
        have hbn := T.n
        have hGL := G.2.2
        refine wJ_of (F.osierref03_Take_J T.rd (Nat.le_trans T.hB T.n) G.1 G.2.1 (by omega)) ?_; rintro _ Sr ⟨rfl, hr, hb⟩
        replace T := T.step (p' := (rdD P4.2.1 P4.2.2).2) hr hb
        replace G := hG5
        generalize hP5 : rdD P4.2.1 P4.2.2 = P5 at *
        have how := how.ptr T.hq hb
        have hcy2 := load2 (but2 hoy hb hqy)
        simp (disch := omega) only [go_sem, ↓reduceIte, Nat.reduceEqDiff, Nat.reduceAdd, Nat.reduceMul, Nat.reduceSub, Nat.reduceLT, Nat.reduceLeDiff, Nat.reduceBEq, reduceCtorEq, Int.reduceLT, Int.reduceEq, Int.reduceLE, Int.reduceAdd, Int.reduceSub, Int.reduceToNat, Int.reduceNeg, hcy2]
        refine wst_op ⟨P1.1, P2.1, P3.1, P4.1, P5.1, (0, 0), 0, 0, (0, 0), ⟨#[]⟩⟩ (.slice bd P3.1.length cd) T.ob rfl rfl (by decide) (by first | rfl | (simp only [k1]; rfl) | (simp only [k2]; rfl) | (simp only [k3]; rfl)) fun Ss hob hbs => ?_
        replace T := T.setD hob hbs how hnw
        simp (disch := omega) only [go_sem, ↓reduceIte, Nat.reduceEqDiff, Nat.reduceAdd, Nat.reduceMul, Nat.reduceSub, Nat.reduceLT, Nat.reduceLeDiff, Nat.reduceBEq, reduceCtorEq, Int.reduceLT, Int.reduceEq, Int.reduceLE, Int.reduceAdd, Int.reduceSub, Int.reduceToNat, Int.reduceNeg, k1, k2, k3]
        have hG6 := G.d
        have hbn := T.n
        have hGL := G.2.2
        refine wJ_of (F.osierref03_Take_J T.rd (Nat.le_trans T.hB T.n) G.1 G.2.1 (by omega)) ?_; rintro _ Sr ⟨rfl, hr, hb⟩
        replace T := T.step (p' := (rdD P5.2.1 P5.2.2).2) hr hb
        replace G := hG6
        generalize hP6 : rdD P5.2.1 P5.2.2 = P6 at *
        simp (disch := omega) only [go_sem, ↓reduceIte, Nat.reduceEqDiff, Nat.reduceAdd, Nat.reduceMul, Nat.reduceSub, Nat.reduceLT, Nat.reduceLeDiff, Nat.reduceBEq, reduceCtorEq, Int.reduceLT, Int.reduceEq, Int.reduceLE, Int.reduceAdd, Int.reduceSub, Int.reduceToNat, Int.reduceNeg]
        refine wst_op ⟨P1.1, P2.1, P3.1, P4.1, P5.1, (0, 0), 0, 0, P6.1, ⟨#[]⟩⟩ (.slice bd P3.1.length cd) T.ob rfl rfl (by decide) rfl fun Ss hob hbs => ?_
        replace T := T.set hob hbs rfl
        simp (disch := omega) only [go_sem, ↓reduceIte, Nat.reduceEqDiff, Nat.reduceAdd, Nat.reduceMul, Nat.reduceSub, Nat.reduceLT, Nat.reduceLeDiff, Nat.reduceBEq, reduceCtorEq, Int.reduceLT, Int.reduceEq, Int.reduceLE, Int.reduceAdd, Int.reduceSub, Int.reduceToNat, Int.reduceNeg]
        have hG7 := G.t
        have hbn := T.n
        have hGL := G.2.2
        refine wJ_of (F.osierref01_R_Text_J T.rd G.1 G.2.1 (by omega)) ?_; rintro _ Sr ⟨rfl, hr, hb⟩
        replace T := T.step (p' := (rdT P6.2.1 P6.2.2).2) hr hb
        replace G := hG7
        generalize hP7 : rdT P6.2.1 P6.2.2 = P7 at *
        simp (disch := omega) only [go_sem, ↓reduceIte, Nat.reduceEqDiff, Nat.reduceAdd, Nat.reduceMul, Nat.reduceSub, Nat.reduceLT, Nat.reduceLeDiff, Nat.reduceBEq, reduceCtorEq, Int.reduceLT, Int.reduceEq, Int.reduceLE, Int.reduceAdd, Int.reduceSub, Int.reduceToNat, Int.reduceNeg]
        refine wst_op ⟨P1.1, P2.1, P3.1, P4.1, P5.1, (0, 0), 0, 0, P6.1, P7.1⟩ (.slice bd P3.1.length cd) T.ob rfl rfl (by decide) rfl fun Ss hob hbs => ?_
        replace T := T.set hob hbs rfl
        have hO : rdO p = rdF ⟨P1.1, P2.1, P3.1, P4.1, P5.1, (0, 0), 0, 0, P6.1, P7.1⟩ P7.2 := by
          simp only [rdO, rdH, hP1, hP2, hP3, hP4, hf, hP5]
          simp only [rdB, ↓reduceIte, Int.reduceEq, k3, hP6, hP7]
        have hc := T.ob.c
        have hc1 := T.c1
        by_cases z : P7.2.2 = 0
        · simp (disch := omega) only [go_sem, ↓reduceIte, Nat.reduceEqDiff, Nat.reduceAdd, Nat.reduceMul, Nat.reduceSub, Nat.reduceLT, Nat.reduceLeDiff, Nat.reduceBEq, reduceCtorEq, Int.reduceLT, Int.reduceEq, Int.reduceLE, Int.reduceAdd, Int.reduceSub, Int.reduceToNat, Int.reduceNeg, z, hc, hc1]
          refine wJ_of (F.osierref07_Check_J (o := ⟨P1.1, P2.1, P3.1, P4.1, P5.1, (0, 0), 0, 0, P6.1, P7.1⟩) (T.ow.sl dotE) (by show P3.1.length < _; omega)) ?_; rintro _ _ ⟨rfl, rfl⟩
          by_cases my : mayO ⟨P1.1, P2.1, P3.1, P4.1, P5.1, (0, 0), 0, 0, P6.1, P7.1⟩
          · simp (disch := omega) only [go_sem, ↓reduceIte, Nat.reduceEqDiff, Nat.reduceAdd, Nat.reduceMul, Nat.reduceSub, Nat.reduceLT, Nat.reduceLeDiff, Nat.reduceBEq, reduceCtorEq, Int.reduceLT, Int.reduceEq, Int.reduceLE, Int.reduceAdd, Int.reduceSub, Int.reduceToNat, Int.reduceNeg, z, hc, hc1, my]
            refine wst_op ⟨P1.1, P2.1, P3.1, P4.1, P5.1, (0, 0), 0, 0, P6.1, P7.1⟩ (.slice bd P3.1.length cd) T.ox rfl rfl (by decide) (wrote_full _ _ rfl) fun Sf hof hbf => ?_
            have hcf := hof.c
            simp (disch := omega) only [go_sem, ↓reduceIte, Nat.reduceEqDiff, Nat.reduceAdd, Nat.reduceMul, Nat.reduceSub, Nat.reduceLT, Nat.reduceLeDiff, Nat.reduceBEq, reduceCtorEq, Int.reduceLT, Int.reduceEq, Int.reduceLE, Int.reduceAdd, Int.reduceSub, Int.reduceToNat, Int.reduceNeg, hcf]
            obtain ⟨f1, f2, f3⟩ := T.fin hbf
            rw [hO, rdF, if_pos z, if_pos my]
            exact ⟨⟨_, rfl, f2⟩, f1, f3⟩
          · simp (disch := omega) only [go_sem, ↓reduceIte, Nat.reduceEqDiff, Nat.reduceAdd, Nat.reduceMul, Nat.reduceSub, Nat.reduceLT, Nat.reduceLeDiff, Nat.reduceBEq, reduceCtorEq, Int.reduceLT, Int.reduceEq, Int.reduceLE, Int.reduceAdd, Int.reduceSub, Int.reduceToNat, Int.reduceNeg, z, hc, hc1, my]
            refine wJ_of (F.osierref01_R_Fail_J (x := 30) T.rd (by decide)) ?_; rintro _ Sr ⟨rfl, hr, hb⟩
            replace T := T.step (p' := failP 30 P7.2) hr hb
            have ze : (failP 30 P7.2).2 ≠ 0 := by simp [failP, z]
            have hc2 := T.c1
            simp (disch := omega) only [go_sem, ↓reduceIte, Nat.reduceEqDiff, Nat.reduceAdd, Nat.reduceMul, Nat.reduceSub, Nat.reduceLT, Nat.reduceLeDiff, Nat.reduceBEq, reduceCtorEq, Int.reduceLT, Int.reduceEq, Int.reduceLE, Int.reduceAdd, Int.reduceSub, Int.reduceToNat, Int.reduceNeg, ze, hc2]
            refine wst_op oz nilS T.ox rfl rfl (by decide) (wrote_full _ _ rfl) fun Sf hof hbf => ?_
            have hcf := hof.c
            simp (disch := omega) only [go_sem, ↓reduceIte, Nat.reduceEqDiff, Nat.reduceAdd, Nat.reduceMul, Nat.reduceSub, Nat.reduceLT, Nat.reduceLeDiff, Nat.reduceBEq, reduceCtorEq, Int.reduceLT, Int.reduceEq, Int.reduceLE, Int.reduceAdd, Int.reduceSub, Int.reduceToNat, Int.reduceNeg, hcf]
            obtain ⟨f1, f2, f3⟩ := T.fin hbf
            rw [hO, rdF, if_pos z, if_neg my]
            exact ⟨⟨nilS, rfl, OwnT.nil ..⟩, f1, f3⟩
        · simp (disch := omega) only [go_sem, ↓reduceIte, Nat.reduceEqDiff, Nat.reduceAdd, Nat.reduceMul, Nat.reduceSub, Nat.reduceLT, Nat.reduceLeDiff, Nat.reduceBEq, reduceCtorEq, Int.reduceLT, Int.reduceEq, Int.reduceLE, Int.reduceAdd, Int.reduceSub, Int.reduceToNat, Int.reduceNeg, z, hc1]
          refine wst_op oz nilS T.ox rfl rfl (by decide) (wrote_full _ _ rfl) fun Sf hof hbf => ?_
          have hcf := hof.c
          simp (disch := omega) only [go_sem, ↓reduceIte, Nat.reduceEqDiff, Nat.reduceAdd, Nat.reduceMul, Nat.reduceSub, Nat.reduceLT, Nat.reduceLeDiff, Nat.reduceBEq, reduceCtorEq, Int.reduceLT, Int.reduceEq, Int.reduceLE, Int.reduceAdd, Int.reduceSub, Int.reduceToNat, Int.reduceNeg, hcf]
          obtain ⟨f1, f2, f3⟩ := T.fin hbf
          rw [hO, rdF, if_neg z]
          exact ⟨⟨nilS, rfl, OwnT.nil ..⟩, f1, f3⟩
  have hf : formP P4.1 P4.2 = failP 11 P4.2 := if_neg (by omega)
  by_cases z4 : P4.2.2 = 0
  · simp (disch := omega) only [go_sem, ↓reduceIte, Nat.reduceEqDiff, Nat.reduceAdd, Nat.reduceMul, Nat.reduceSub, Nat.reduceLT, Nat.reduceLeDiff, Nat.reduceBEq, reduceCtorEq, Int.reduceLT, Int.reduceEq, Int.reduceLE, Int.reduceAdd, Int.reduceSub, Int.reduceToNat, Int.reduceNeg, hc4, k1, k2, k3, z4]
    refine wJ_of (F.osierref01_R_Fail_J (x := 11) T.rd (by decide)) ?_; rintro _ Sr ⟨rfl, hr, hb⟩
    replace T := T.step (p' := failP 11 P4.2) hr hb
    replace G := G.fail 11
    have hc4 := T.c
    simp (disch := omega) only [go_sem, ↓reduceIte, Nat.reduceEqDiff, Nat.reduceAdd, Nat.reduceMul, Nat.reduceSub, Nat.reduceLT, Nat.reduceLeDiff, Nat.reduceBEq, reduceCtorEq, Int.reduceLT, Int.reduceEq, Int.reduceLE, Int.reduceAdd, Int.reduceSub, Int.reduceToNat, Int.reduceNeg, hc4]
    refine wI_alt ?_ ?_
    · simp (disch := omega) only [go_sem, ↓reduceIte, Nat.reduceEqDiff, Nat.reduceAdd, Nat.reduceMul, Nat.reduceSub, Nat.reduceLT, Nat.reduceLeDiff, Nat.reduceBEq, reduceCtorEq, Int.reduceLT, Int.reduceEq, Int.reduceLE, Int.reduceAdd, Int.reduceSub, Int.reduceToNat, Int.reduceNeg]
      have hG5 := G.d
      have hbn := T.n
      have hGL := G.2.2
      refine wJ_of (F.osierref03_Take_J T.rd (Nat.le_trans T.hB T.n) G.1 G.2.1 (by omega)) ?_; rintro _ Sr ⟨rfl, hr, hb⟩
      replace T := T.step (p' := (rdD (failP 11 P4.2).1 (failP 11 P4.2).2).2) hr hb
      replace G := hG5
      generalize hP5 : rdD (failP 11 P4.2).1 (failP 11 P4.2).2 = P5 at *
      have hc5 := T.c
      simp (disch := omega) only [go_sem, ↓reduceIte, Nat.reduceEqDiff, Nat.reduceAdd, Nat.reduceMul, Nat.reduceSub, Nat.reduceLT, Nat.reduceLeDiff, Nat.reduceBEq, reduceCtorEq, Int.reduceLT, Int.reduceEq, Int.reduceLE, Int.reduceAdd, Int.reduceSub, Int.reduceToNat, Int.reduceNeg, hc5]
      refine walloc_O fun w Sw hew hww hwn => ?_
      obtain ⟨T, how, hnw, hoy, -⟩ := T.take hew hww hwn
      have hcy := load2 hoy
      simp (disch := omega) only [go_sem, ↓reduceIte, Nat.reduceEqDiff, Nat.reduceAdd, Nat.reduceMul, Nat.reduceSub, Nat.reduceLT, Nat.reduceLeDiff, Nat.reduceBEq, reduceCtorEq, Int.reduceLT, Int.reduceEq, Int.reduceLE, Int.reduceAdd, Int.reduceSub, Int.reduceToNat, Int.reduceNeg, hcy]
      refine wst_op ⟨P1.1, P2.1, P3.1, P4.1, P5.1, (0, 0), 0, 0, (0, 0), ⟨#[]⟩⟩ (.slice bd P3.1.length cd) T.ob rfl rfl (by decide) (by first | rfl | (simp only [k1]; rfl) | (simp only [k2]; rfl) | (simp only [k3]; rfl)) fun Ss hob hbs => ?_
      replace T := T.setD hob hbs how hnw
      simp (disch := omega) only [go_sem, ↓reduceIte, Nat.reduceEqDiff, Nat.reduceAdd, Nat.reduceMul, Nat.reduceSub, Nat.reduceLT, Nat.reduceLeDiff, Nat.reduceBEq, reduceCtorEq, Int.reduceLT, Int.reduceEq, Int.reduceLE, Int.reduceAdd, Int.reduceSub, Int.reduceToNat, Int.reduceNeg, k1, k2, k3]
      have hO : rdO p = rdF ⟨P1.1, P2.1, P3.1, P4.1, P5.1, (0, 0), 0, 0, (0, 0), ⟨#[]⟩⟩ P5.2 := by
        simp only [rdO, rdH, hP1, hP2, hP3, hP4, hf, hP5]
        simp only [rdB, ↓reduceIte, Int.reduceEq, k1, k2, k3]
      have hc := T.ob.c
      have hc1 := T.c1
      by_cases z : P5.2.2 = 0
      · simp (disch := omega) only [go_sem, ↓reduceIte, Nat.reduceEqDiff, Nat.reduceAdd, Nat.reduceMul, Nat.reduceSub, Nat.reduceLT, Nat.reduceLeDiff, Nat.reduceBEq, reduceCtorEq, Int.reduceLT, Int.reduceEq, Int.reduceLE, Int.reduceAdd, Int.reduceSub, Int.reduceToNat, Int.reduceNeg, z, hc, hc1]
        refine wJ_of (F.osierref07_Check_J (o := ⟨P1.1, P2.1, P3.1, P4.1, P5.1, (0, 0), 0, 0, (0, 0), ⟨#[]⟩⟩) (T.ow.sl dotE) (by show P3.1.length < _; omega)) ?_; rintro _ _ ⟨rfl, rfl⟩
        by_cases my : mayO ⟨P1.1, P2.1, P3.1, P4.1, P5.1, (0, 0), 0, 0, (0, 0), ⟨#[]⟩⟩
        · simp (disch := omega) only [go_sem, ↓reduceIte, Nat.reduceEqDiff, Nat.reduceAdd, Nat.reduceMul, Nat.reduceSub, Nat.reduceLT, Nat.reduceLeDiff, Nat.reduceBEq, reduceCtorEq, Int.reduceLT, Int.reduceEq, Int.reduceLE, Int.reduceAdd, Int.reduceSub, Int.reduceToNat, Int.reduceNeg, z, hc, hc1, my]
          refine wst_op ⟨P1.1, P2.1, P3.1, P4.1, P5.1, (0, 0), 0, 0, (0, 0), ⟨#[]⟩⟩ (.slice bd P3.1.length cd) T.ox rfl rfl (by decide) (wrote_full _ _ rfl) fun Sf hof hbf => ?_
          have hcf := hof.c
          simp (disch := omega) only [go_sem, ↓reduceIte, Nat.reduceEqDiff, Nat.reduceAdd, Nat.reduceMul, Nat.reduceSub, Nat.reduceLT, Nat.reduceLeDiff, Nat.reduceBEq, reduceCtorEq, Int.reduceLT, Int.reduceEq, Int.reduceLE, Int.reduceAdd, Int.reduceSub, Int.reduceToNat, Int.reduceNeg, hcf]
          obtain ⟨f1, f2, f3⟩ := T.fin hbf
          rw [hO, rdF, if_pos z, if_pos my]
          exact ⟨⟨_, rfl, f2⟩, f1, f3⟩
        · simp (disch := omega) only [go_sem, ↓reduceIte, Nat.reduceEqDiff, Nat.reduceAdd, Nat.reduceMul, Nat.reduceSub, Nat.reduceLT, Nat.reduceLeDiff, Nat.reduceBEq, reduceCtorEq, Int.reduceLT, Int.reduceEq, Int.reduceLE, Int.reduceAdd, Int.reduceSub, Int.reduceToNat, Int.reduceNeg, z, hc, hc1, my]
          refine wJ_of (F.osierref01_R_Fail_J (x := 30) T.rd (by decide)) ?_; rintro _ Sr ⟨rfl, hr, hb⟩
          replace T := T.step (p' := failP 30 P5.2) hr hb
          have ze : (failP 30 P5.2).2 ≠ 0 := by simp [failP, z]
          have hc2 := T.c1
          simp (disch := omega) only [go_sem, ↓reduceIte, Nat.reduceEqDiff, Nat.reduceAdd, Nat.reduceMul, Nat.reduceSub, Nat.reduceLT, Nat.reduceLeDiff, Nat.reduceBEq, reduceCtorEq, Int.reduceLT, Int.reduceEq, Int.reduceLE, Int.reduceAdd, Int.reduceSub, Int.reduceToNat, Int.reduceNeg, ze, hc2]
          refine wst_op oz nilS T.ox rfl rfl (by decide) (wrote_full _ _ rfl) fun Sf hof hbf => ?_
          have hcf := hof.c
          simp (disch := omega) only [go_sem, ↓reduceIte, Nat.reduceEqDiff, Nat.reduceAdd, Nat.reduceMul, Nat.reduceSub, Nat.reduceLT, Nat.reduceLeDiff, Nat.reduceBEq, reduceCtorEq, Int.reduceLT, Int.reduceEq, Int.reduceLE, Int.reduceAdd, Int.reduceSub, Int.reduceToNat, Int.reduceNeg, hcf]
          obtain ⟨f1, f2, f3⟩ := T.fin hbf
          rw [hO, rdF, if_pos z, if_neg my]
          exact ⟨⟨nilS, rfl, OwnT.nil ..⟩, f1, f3⟩
      · simp (disch := omega) only [go_sem, ↓reduceIte, Nat.reduceEqDiff, Nat.reduceAdd, Nat.reduceMul, Nat.reduceSub, Nat.reduceLT, Nat.reduceLeDiff, Nat.reduceBEq, reduceCtorEq, Int.reduceLT, Int.reduceEq, Int.reduceLE, Int.reduceAdd, Int.reduceSub, Int.reduceToNat, Int.reduceNeg, z, hc1]
        refine wst_op oz nilS T.ox rfl rfl (by decide) (wrote_full _ _ rfl) fun Sf hof hbf => ?_
        have hcf := hof.c
        simp (disch := omega) only [go_sem, ↓reduceIte, Nat.reduceEqDiff, Nat.reduceAdd, Nat.reduceMul, Nat.reduceSub, Nat.reduceLT, Nat.reduceLeDiff, Nat.reduceBEq, reduceCtorEq, Int.reduceLT, Int.reduceEq, Int.reduceLE, Int.reduceAdd, Int.reduceSub, Int.reduceToNat, Int.reduceNeg, hcf]
        obtain ⟨f1, f2, f3⟩ := T.fin hbf
        rw [hO, rdF, if_neg z]
        exact ⟨⟨nilS, rfl, OwnT.nil ..⟩, f1, f3⟩
    · simp (disch := omega) only [go_sem, ↓reduceIte, Nat.reduceEqDiff, Nat.reduceAdd, Nat.reduceMul, Nat.reduceSub, Nat.reduceLT, Nat.reduceLeDiff, Nat.reduceBEq, reduceCtorEq, Int.reduceLT, Int.reduceEq, Int.reduceLE, Int.reduceAdd, Int.reduceSub, Int.reduceToNat, Int.reduceNeg]
      refine walloc_O fun w Sw hew hww hwn => ?_
      obtain ⟨T, how, hnw, hoy, hqy⟩ := T.take hew hww hwn
      have hcy := load2 hoy
      simp (disch := omega) only [go_sem, ↓reduceIte, Nat.reduceEqDiff, Nat.reduceAdd, Nat.reduceMul, Nat.reduceSub, Nat.reduceLT, Nat.reduceLeDiff, Nat.reduceBEq, reduceCtorEq, Int.reduceLT, Int.reduceEq, Int.reduceLE, Int.reduceAdd, Int.reduceSub, Int.reduceToNat, Int.reduceNeg, hcy]
      have hG5 := G.d
      have hbn := T.n
      have hGL := G.2.2
      refine wJ_of (F.osierref03_Take_J T.rd (Nat.le_trans T.hB T.n) G.1 G.2.1 (by omega)) ?_; rintro _ Sr ⟨rfl, hr, hb⟩
      replace T := T.step (p' := (rdD (failP 11 P4.2).1 (failP 11 P4.2).2).2) hr hb
      replace G := hG5
      generalize hP5 : rdD (failP 11 P4.2).1 (failP 11 P4.2).2 = P5 at *
      have how := how.ptr T.hq hb
      have hcy2 := load2 (but2 hoy hb hqy)
      simp (disch := omega) only [go_sem, ↓reduceIte, Nat.reduceEqDiff, Nat.reduceAdd, Nat.reduceMul, Nat.reduceSub, Nat.reduceLT, Nat.reduceLeDiff, Nat.reduceBEq, reduceCtorEq, Int.reduceLT, Int.reduceEq, Int.reduceLE, Int.reduceAdd, Int.reduceSub, Int.reduceToNat, Int.reduceNeg, hcy2]
      refine wst_op ⟨P1.1, P2.1, P3.1, P4.1, P5.1, (0, 0), 0, 0, (0, 0), ⟨#[]⟩⟩ (.slice bd P3.1.length cd) T.ob rfl rfl (by decide) (by first | rfl | (simp only [k1]; rfl) | (simp only [k2]; rfl) | (simp only [k3]; rfl)) fun Ss hob hbs => ?_
      replace T := T.setD hob hbs how hnw
      simp (disch := omega) only [go_sem, ↓reduceIte, Nat.reduceEqDiff, Nat.reduceAdd, Nat.reduceMul, Nat.reduceSub, Nat.reduceLT, Nat.reduceLeDiff, Nat.reduceBEq, reduceCtorEq, Int.reduceLT, Int.reduceEq, Int.reduceLE, Int.reduceAdd, Int.reduceSub, Int.reduceToNat, Int.reduceNeg, k1, k2, k3]
      have hO : rdO p = rdF ⟨P1.1, P2.1, P3.1, P4.1, P5.1, (0, 0), 0, 0, (0, 0), ⟨#[]⟩⟩ P5.2 := by
        simp only [rdO, rdH, hP1, hP2, hP3, hP4, hf, hP5]
        simp only [rdB, ↓reduceIte, Int.reduceEq, k1, k2, k3]
      have hc := T.ob.c
      have hc1 := T.c1
      by_cases z : P5.2.2 = 0
      · simp (disch := omega) only [go_sem, ↓reduceIte, Nat.reduceEqDiff, Nat.reduceAdd, Nat.reduceMul, Nat.reduceSub, Nat.reduceLT, Nat.reduceLeDiff, Nat.reduceBEq, reduceCtorEq, Int.reduceLT, Int.reduceEq, Int.reduceLE, Int.reduceAdd, Int.reduceSub, Int.reduceToNat, Int.reduceNeg, z, hc, hc1]
        refine wJ_of (F.osierref07_Check_J (o := ⟨P1.1, P2.1, P3.1, P4.1, P5.1, (0, 0), 0, 0, (0, 0), ⟨#[]⟩⟩) (T.ow.sl dotE) (by show P3.1.length < _; omega)) ?_; rintro _ _ ⟨rfl, rfl⟩
        by_cases my : mayO ⟨P1.1, P2.1, P3.1, P4.1, P5.1, (0, 0), 0, 0, (0, 0), ⟨#[]⟩⟩
        · simp (disch := omega) only [go_sem, ↓reduceIte, Nat.reduceEqDiff, Nat.reduceAdd, Nat.reduceMul, Nat.reduceSub, Nat.reduceLT, Nat.reduceLeDiff, Nat.reduceBEq, reduceCtorEq, Int.reduceLT, Int.reduceEq, Int.reduceLE, Int.reduceAdd, Int.reduceSub, Int.reduceToNat, Int.reduceNeg, z, hc, hc1, my]
          refine wst_op ⟨P1.1, P2.1, P3.1, P4.1, P5.1, (0, 0), 0, 0, (0, 0), ⟨#[]⟩⟩ (.slice bd P3.1.length cd) T.ox rfl rfl (by decide) (wrote_full _ _ rfl) fun Sf hof hbf => ?_
          have hcf := hof.c
          simp (disch := omega) only [go_sem, ↓reduceIte, Nat.reduceEqDiff, Nat.reduceAdd, Nat.reduceMul, Nat.reduceSub, Nat.reduceLT, Nat.reduceLeDiff, Nat.reduceBEq, reduceCtorEq, Int.reduceLT, Int.reduceEq, Int.reduceLE, Int.reduceAdd, Int.reduceSub, Int.reduceToNat, Int.reduceNeg, hcf]
          obtain ⟨f1, f2, f3⟩ := T.fin hbf
          rw [hO, rdF, if_pos z, if_pos my]
          exact ⟨⟨_, rfl, f2⟩, f1, f3⟩
        · simp (disch := omega) only [go_sem, ↓reduceIte, Nat.reduceEqDiff, Nat.reduceAdd, Nat.reduceMul, Nat.reduceSub, Nat.reduceLT, Nat.reduceLeDiff, Nat.reduceBEq, reduceCtorEq, Int.reduceLT, Int.reduceEq, Int.reduceLE, Int.reduceAdd, Int.reduceSub, Int.reduceToNat, Int.reduceNeg, z, hc, hc1, my]
          refine wJ_of (F.osierref01_R_Fail_J (x := 30) T.rd (by decide)) ?_; rintro _ Sr ⟨rfl, hr, hb⟩
          replace T := T.step (p' := failP 30 P5.2) hr hb
          have ze : (failP 30 P5.2).2 ≠ 0 := by simp [failP, z]
          have hc2 := T.c1
          simp (disch := omega) only [go_sem, ↓reduceIte, Nat.reduceEqDiff, Nat.reduceAdd, Nat.reduceMul, Nat.reduceSub, Nat.reduceLT, Nat.reduceLeDiff, Nat.reduceBEq, reduceCtorEq, Int.reduceLT, Int.reduceEq, Int.reduceLE, Int.reduceAdd, Int.reduceSub, Int.reduceToNat, Int.reduceNeg, ze, hc2]
          refine wst_op oz nilS T.ox rfl rfl (by decide) (wrote_full _ _ rfl) fun Sf hof hbf => ?_
          have hcf := hof.c
          simp (disch := omega) only [go_sem, ↓reduceIte, Nat.reduceEqDiff, Nat.reduceAdd, Nat.reduceMul, Nat.reduceSub, Nat.reduceLT, Nat.reduceLeDiff, Nat.reduceBEq, reduceCtorEq, Int.reduceLT, Int.reduceEq, Int.reduceLE, Int.reduceAdd, Int.reduceSub, Int.reduceToNat, Int.reduceNeg, hcf]
          obtain ⟨f1, f2, f3⟩ := T.fin hbf
          rw [hO, rdF, if_pos z, if_neg my]
          exact ⟨⟨nilS, rfl, OwnT.nil ..⟩, f1, f3⟩
      · simp (disch := omega) only [go_sem, ↓reduceIte, Nat.reduceEqDiff, Nat.reduceAdd, Nat.reduceMul, Nat.reduceSub, Nat.reduceLT, Nat.reduceLeDiff, Nat.reduceBEq, reduceCtorEq, Int.reduceLT, Int.reduceEq, Int.reduceLE, Int.reduceAdd, Int.reduceSub, Int.reduceToNat, Int.reduceNeg, z, hc1]
        refine wst_op oz nilS T.ox rfl rfl (by decide) (wrote_full _ _ rfl) fun Sf hof hbf => ?_
        have hcf := hof.c
        simp (disch := omega) only [go_sem, ↓reduceIte, Nat.reduceEqDiff, Nat.reduceAdd, Nat.reduceMul, Nat.reduceSub, Nat.reduceLT, Nat.reduceLeDiff, Nat.reduceBEq, reduceCtorEq, Int.reduceLT, Int.reduceEq, Int.reduceLE, Int.reduceAdd, Int.reduceSub, Int.reduceToNat, Int.reduceNeg, hcf]
        obtain ⟨f1, f2, f3⟩ := T.fin hbf
        rw [hO, rdF, if_neg z]
        exact ⟨⟨nilS, rfl, OwnT.nil ..⟩, f1, f3⟩
  · rw [failP_same z4] at hf
    simp (disch := omega) only [go_sem, ↓reduceIte, Nat.reduceEqDiff, Nat.reduceAdd, Nat.reduceMul, Nat.reduceSub, Nat.reduceLT, Nat.reduceLeDiff, Nat.reduceBEq, reduceCtorEq, Int.reduceLT, Int.reduceEq, Int.reduceLE, Int.reduceAdd, Int.reduceSub, Int.reduceToNat, Int.reduceNeg, hc4, k1, k2, k3, z4]
    refine wI_alt ?_ ?_
    · simp (disch := omega) only [go_sem, ↓reduceIte, Nat.reduceEqDiff, Nat.reduceAdd, Nat.reduceMul, Nat.reduceSub, Nat.reduceLT, Nat.reduceLeDiff, Nat.reduceBEq, reduceCtorEq, Int.reduceLT, Int.reduceEq, Int.reduceLE, Int.reduceAdd, Int.reduceSub, Int.reduceToNat, Int.reduceNeg]
      have hG5 := G.d
      have hbn := T.n
      have hGL := G.2.2
      refine wJ_of (F.osierref03_Take_J T.rd (Nat.le_trans T.hB T.n) G.1 G.2.1 (by omega)) ?_; rintro _ Sr ⟨rfl, hr, hb⟩
      replace T := T.step (p' := (rdD P4.2.1 P4.2.2).2) hr hb
      replace G := hG5
      generalize hP5 : rdD P4.2.1 P4.2.2 = P5 at *
      have hc5 := T.c
      simp (disch := omega) only [go_sem, ↓reduceIte, Nat.reduceEqDiff, Nat.reduceAdd, Nat.reduceMul, Nat.reduceSub, Nat.reduceLT, Nat.reduceLeDiff, Nat.reduceBEq, reduceCtorEq, Int.reduceLT, Int.reduceEq, Int.reduceLE, Int.reduceAdd, Int.reduceSub, Int.reduceToNat, Int.reduceNeg, hc5]
      refine walloc_O fun w Sw hew hww hwn => ?_
      obtain ⟨T, how, hnw, hoy, -⟩ := T.take hew hww hwn
      have hcy := load2 hoy
      simp (disch := omega) only [go_sem, ↓reduceIte, Nat.reduceEqDiff, Nat.reduceAdd, Nat.reduceMul, Nat.reduceSub, Nat.reduceLT, Nat.reduceLeDiff, Nat.reduceBEq, reduceCtorEq, Int.reduceLT, Int.reduceEq, Int.reduceLE, Int.reduceAdd, Int.reduceSub, Int.reduceToNat, Int.reduceNeg, hcy]
      refine wst_op ⟨P1.1, P2.1, P3.1, P4.1, P5.1, (0, 0), 0, 0, (0, 0), ⟨#[]⟩⟩ (.slice bd P3.1.length cd) T.ob rfl rfl (by decide) (by first | rfl | (simp only [k1]; rfl) | (simp only [k2]; rfl) | (simp only [k3]; rfl)) fun Ss hob hbs => ?_
      replace T := T.setD hob hbs how hnw
      simp (disch := omega) only [go_sem, ↓reduceIte, Nat.reduceEqDiff, Nat.reduceAdd, Nat.reduceMul, Nat.reduceSub, Nat.reduceLT, Nat.reduceLeDiff, Nat.reduceBEq, reduceCtorEq, Int.reduceLT, Int.reduceEq, Int.reduceLE, Int.reduceAdd, Int.reduceSub, Int.reduceToNat, Int.reduceNeg, k1, k2, k3]
      have hO : rdO p = rdF ⟨P1.1, P2.1, P3.1, P4.1, P5.1, (0, 0), 0, 0, (0, 0), ⟨#[]⟩⟩ P5.2 := by
        simp only [rdO, rdH, hP1, hP2, hP3, hP4, hf, hP5]
        simp only [rdB, ↓reduceIte, Int.reduceEq, k1, k2, k3]
      have hc := T.ob.c
      have hc1 := T.c1
      by_cases z : P5.2.2 = 0
      · simp (disch := omega) only [go_sem, ↓reduceIte, Nat.reduceEqDiff, Nat.reduceAdd, Nat.reduceMul, Nat.reduceSub, Nat.reduceLT, Nat.reduceLeDiff, Nat.reduceBEq, reduceCtorEq, Int.reduceLT, Int.reduceEq, Int.reduceLE, Int.reduceAdd, Int.reduceSub, Int.reduceToNat, Int.reduceNeg, z, hc, hc1]
        refine wJ_of (F.osierref07_Check_J (o := ⟨P1.1, P2.1, P3.1, P4.1, P5.1, (0, 0), 0, 0, (0, 0), ⟨#[]⟩⟩) (T.ow.sl dotE) (by show P3.1.length < _; omega)) ?_; rintro _ _ ⟨rfl, rfl⟩
        by_cases my : mayO ⟨P1.1, P2.1, P3.1, P4.1, P5.1, (0, 0), 0, 0, (0, 0), ⟨#[]⟩⟩
        · simp (disch := omega) only [go_sem, ↓reduceIte, Nat.reduceEqDiff, Nat.reduceAdd, Nat.reduceMul, Nat.reduceSub, Nat.reduceLT, Nat.reduceLeDiff, Nat.reduceBEq, reduceCtorEq, Int.reduceLT, Int.reduceEq, Int.reduceLE, Int.reduceAdd, Int.reduceSub, Int.reduceToNat, Int.reduceNeg, z, hc, hc1, my]
          refine wst_op ⟨P1.1, P2.1, P3.1, P4.1, P5.1, (0, 0), 0, 0, (0, 0), ⟨#[]⟩⟩ (.slice bd P3.1.length cd) T.ox rfl rfl (by decide) (wrote_full _ _ rfl) fun Sf hof hbf => ?_
          have hcf := hof.c
          simp (disch := omega) only [go_sem, ↓reduceIte, Nat.reduceEqDiff, Nat.reduceAdd, Nat.reduceMul, Nat.reduceSub, Nat.reduceLT, Nat.reduceLeDiff, Nat.reduceBEq, reduceCtorEq, Int.reduceLT, Int.reduceEq, Int.reduceLE, Int.reduceAdd, Int.reduceSub, Int.reduceToNat, Int.reduceNeg, hcf]
          obtain ⟨f1, f2, f3⟩ := T.fin hbf
          rw [hO, rdF, if_pos z, if_pos my]
          exact ⟨⟨_, rfl, f2⟩, f1, f3⟩
        · simp (disch := omega) only [go_sem, ↓reduceIte, Nat.reduceEqDiff, Nat.reduceAdd, Nat.reduceMul, Nat.reduceSub, Nat.reduceLT, Nat.reduceLeDiff, Nat.reduceBEq, reduceCtorEq, Int.reduceLT, Int.reduceEq, Int.reduceLE, Int.reduceAdd, Int.reduceSub, Int.reduceToNat, Int.reduceNeg, z, hc, hc1, my]
          refine wJ_of (F.osierref01_R_Fail_J (x := 30) T.rd (by decide)) ?_; rintro _ Sr ⟨rfl, hr, hb⟩
          replace T := T.step (p' := failP 30 P5.2) hr hb
          have ze : (failP 30 P5.2).2 ≠ 0 := by simp [failP, z]
          have hc2 := T.c1
          simp (disch := omega) only [go_sem, ↓reduceIte, Nat.reduceEqDiff, Nat.reduceAdd, Nat.reduceMul, Nat.reduceSub, Nat.reduceLT, Nat.reduceLeDiff, Nat.reduceBEq, reduceCtorEq, Int.reduceLT, Int.reduceEq, Int.reduceLE, Int.reduceAdd, Int.reduceSub, Int.reduceToNat, Int.reduceNeg, ze, hc2]
          refine wst_op oz nilS T.ox rfl rfl (by decide) (wrote_full _ _ rfl) fun Sf hof hbf => ?_
          have hcf := hof.c
          simp (disch := omega) only [go_sem, ↓reduceIte, Nat.reduceEqDiff, Nat.reduceAdd, Nat.reduceMul, Nat.reduceSub, Nat.reduceLT, Nat.reduceLeDiff, Nat.reduceBEq, reduceCtorEq, Int.reduceLT, Int.reduceEq, Int.reduceLE, Int.reduceAdd, Int.reduceSub, Int.reduceToNat, Int.reduceNeg, hcf]
          obtain ⟨f1, f2, f3⟩ := T.fin hbf
          rw [hO, rdF, if_pos z, if_neg my]
          exact ⟨⟨nilS, rfl, OwnT.nil ..⟩, f1, f3⟩
      · simp (disch := omega) only [go_sem, ↓reduceIte, Nat.reduceEqDiff, Nat.reduceAdd, Nat.reduceMul, Nat.reduceSub, Nat.reduceLT, Nat.reduceLeDiff, Nat.reduceBEq, reduceCtorEq, Int.reduceLT, Int.reduceEq, Int.reduceLE, Int.reduceAdd, Int.reduceSub, Int.reduceToNat, Int.reduceNeg, z, hc1]
        refine wst_op oz nilS T.ox rfl rfl (by decide) (wrote_full _ _ rfl) fun Sf hof hbf => ?_
        have hcf := hof.c
        simp (disch := omega) only [go_sem, ↓reduceIte, Nat.reduceEqDiff, Nat.reduceAdd, Nat.reduceMul, Nat.reduceSub, Nat.reduceLT, Nat.reduceLeDiff, Nat.reduceBEq, reduceCtorEq, Int.reduceLT, Int.reduceEq, Int.reduceLE, Int.reduceAdd, Int.reduceSub, Int.reduceToNat, Int.reduceNeg, hcf]
        obtain ⟨f1, f2, f3⟩ := T.fin hbf
        rw [hO, rdF, if_neg z]
        exact ⟨⟨nilS, rfl, OwnT.nil ..⟩, f1, f3⟩
    · simp (disch := omega) only [go_sem, ↓reduceIte, Nat.reduceEqDiff, Nat.reduceAdd, Nat.reduceMul, Nat.reduceSub, Nat.reduceLT, Nat.reduceLeDiff, Nat.reduceBEq, reduceCtorEq, Int.reduceLT, Int.reduceEq, Int.reduceLE, Int.reduceAdd, Int.reduceSub, Int.reduceToNat, Int.reduceNeg]
      refine walloc_O fun w Sw hew hww hwn => ?_
      obtain ⟨T, how, hnw, hoy, hqy⟩ := T.take hew hww hwn
      have hcy := load2 hoy
      simp (disch := omega) only [go_sem, ↓reduceIte, Nat.reduceEqDiff, Nat.reduceAdd, Nat.reduceMul, Nat.reduceSub, Nat.reduceLT, Nat.reduceLeDiff, Nat.reduceBEq, reduceCtorEq, Int.reduceLT, Int.reduceEq, Int.reduceLE, Int.reduceAdd, Int.reduceSub, Int.reduceToNat, Int.reduceNeg, hcy]
      have hG5 := G.d
      have hbn := T.n
      have hGL := G.2.2
      refine wJ_of (F.osierref03_Take_J T.rd (Nat.le_trans T.hB T.n) G.1 G.2.1 (by omega)) ?_; rintro _ Sr ⟨rfl, hr, hb⟩
      replace T := T.step (p' := (rdD P4.2.1 P4.2.2).2) hr hb
      replace G := hG5
      generalize hP5 : rdD P4.2.1 P4.2.2 = P5 at *
      have how := how.ptr T.hq hb
      have hcy2 := load2 (but2 hoy hb hqy)
      simp (disch := omega) only [go_sem, ↓reduceIte, Nat.reduceEqDiff, Nat.reduceAdd, Nat.reduceMul, Nat.reduceSub, Nat.reduceLT, Nat.reduceLeDiff, Nat.reduceBEq, reduceCtorEq, Int.reduceLT, Int.reduceEq, Int.reduceLE, Int.reduceAdd, Int.reduceSub, Int.reduceToNat, Int.reduceNeg, hcy2]
      refine wst_op ⟨P1.1, P2.1, P3.1, P4.1, P5.1, (0, 0), 0, 0, (0, 0), ⟨#[]⟩⟩ (.slice bd P3.1.length cd) T.ob rfl rfl (by decide) (by first | rfl | (simp only [k1]; rfl) | (simp only [k2]; rfl) | (simp only [k3]; rfl)) fun Ss hob hbs => ?_
      replace T := T.setD hob hbs how hnw
      simp (disch := omega) only [go_sem, ↓reduceIte, Nat.reduceEqDiff, Nat.reduceAdd, Nat.reduceMul, Nat.reduceSub, Nat.reduceLT, Nat.reduceLeDiff, Nat.reduceBEq, reduceCtorEq, Int.reduceLT, Int.reduceEq, Int.reduceLE, Int.reduceAdd, Int.reduceSub, Int.reduceToNat, Int.reduceNeg, k1, k2, k3]
      have hO : rdO p = rdF ⟨P1.1, P2.1, P3.1, P4.1, P5.1, (0, 0), 0, 0, (0, 0), ⟨#[]⟩⟩ P5.2 := by
        simp only [rdO, rdH, hP1, hP2, hP3, hP4, hf, hP5]
        simp only [rdB, ↓reduceIte, Int.reduceEq, k1, k2, k3]
      have hc := T.ob.c
      have hc1 := T.c1
      by_cases z : P5.2.2 = 0
      · simp (disch := omega) only [go_sem, ↓reduceIte, Nat.reduceEqDiff, Nat.reduceAdd, Nat.reduceMul, Nat.reduceSub, Nat.reduceLT, Nat.reduceLeDiff, Nat.reduceBEq, reduceCtorEq, Int.reduceLT, Int.reduceEq, Int.reduceLE, Int.reduceAdd, Int.reduceSub, Int.reduceToNat, Int.reduceNeg, z, hc, hc1]
        refine wJ_of (F.osierref07_Check_J (o := ⟨P1.1, P2.1, P3.1, P4.1, P5.1, (0, 0), 0, 0, (0, 0), ⟨#[]⟩⟩) (T.ow.sl dotE) (by show P3.1.length < _; omega)) ?_; rintro _ _ ⟨rfl, rfl⟩
        by_cases my : mayO ⟨P1.1, P2.1, P3.1, P4.1, P5.1, (0, 0), 0, 0, (0, 0), ⟨#[]⟩⟩
        · simp (disch := omega) only [go_sem, ↓reduceIte, Nat.reduceEqDiff, Nat.reduceAdd, Nat.reduceMul, Nat.reduceSub, Nat.reduceLT, Nat.reduceLeDiff, Nat.reduceBEq, reduceCtorEq, Int.reduceLT, Int.reduceEq, Int.reduceLE, Int.reduceAdd, Int.reduceSub, Int.reduceToNat, Int.reduceNeg, z, hc, hc1, my]
          refine wst_op ⟨P1.1, P2.1, P3.1, P4.1, P5.1, (0, 0), 0, 0, (0, 0), ⟨#[]⟩⟩ (.slice bd P3.1.length cd) T.ox rfl rfl (by decide) (wrote_full _ _ rfl) fun Sf hof hbf => ?_
          have hcf := hof.c
          simp (disch := omega) only [go_sem, ↓reduceIte, Nat.reduceEqDiff, Nat.reduceAdd, Nat.reduceMul, Nat.reduceSub, Nat.reduceLT, Nat.reduceLeDiff, Nat.reduceBEq, reduceCtorEq, Int.reduceLT, Int.reduceEq, Int.reduceLE, Int.reduceAdd, Int.reduceSub, Int.reduceToNat, Int.reduceNeg, hcf]
          obtain ⟨f1, f2, f3⟩ := T.fin hbf
          rw [hO, rdF, if_pos z, if_pos my]
          exact ⟨⟨_, rfl, f2⟩, f1, f3⟩
        · simp (disch := omega) only [go_sem, ↓reduceIte, Nat.reduceEqDiff, Nat.reduceAdd, Nat.reduceMul, Nat.reduceSub, Nat.reduceLT, Nat.reduceLeDiff, Nat.reduceBEq, reduceCtorEq, Int.reduceLT, Int.reduceEq, Int.reduceLE, Int.reduceAdd, Int.reduceSub, Int.reduceToNat, Int.reduceNeg, z, hc, hc1, my]
          refine wJ_of (F.osierref01_R_Fail_J (x := 30) T.rd (by decide)) ?_; rintro _ Sr ⟨rfl, hr, hb⟩
          replace T := T.step (p' := failP 30 P5.2) hr hb
          have ze : (failP 30 P5.2).2 ≠ 0 := by simp [failP, z]
          have hc2 := T.c1
          simp (disch := omega) only [go_sem, ↓reduceIte, Nat.reduceEqDiff, Nat.reduceAdd, Nat.reduceMul, Nat.reduceSub, Nat.reduceLT, Nat.reduceLeDiff, Nat.reduceBEq, reduceCtorEq, Int.reduceLT, Int.reduceEq, Int.reduceLE, Int.reduceAdd, Int.reduceSub, Int.reduceToNat, Int.reduceNeg, ze, hc2]
          refine wst_op oz nilS T.ox rfl rfl (by decide) (wrote_full _ _ rfl) fun Sf hof hbf => ?_
          have hcf := hof.c
          simp (disch := omega) only [go_sem, ↓reduceIte, Nat.reduceEqDiff, Nat.reduceAdd, Nat.reduceMul, Nat.reduceSub, Nat.reduceLT, Nat.reduceLeDiff, Nat.reduceBEq, reduceCtorEq, Int.reduceLT, Int.reduceEq, Int.reduceLE, Int.reduceAdd, Int.reduceSub, Int.reduceToNat, Int.reduceNeg, hcf]
          obtain ⟨f1, f2, f3⟩ := T.fin hbf
          rw [hO, rdF, if_pos z, if_neg my]
          exact ⟨⟨nilS, rfl, OwnT.nil ..⟩, f1, f3⟩
      · simp (disch := omega) only [go_sem, ↓reduceIte, Nat.reduceEqDiff, Nat.reduceAdd, Nat.reduceMul, Nat.reduceSub, Nat.reduceLT, Nat.reduceLeDiff, Nat.reduceBEq, reduceCtorEq, Int.reduceLT, Int.reduceEq, Int.reduceLE, Int.reduceAdd, Int.reduceSub, Int.reduceToNat, Int.reduceNeg, z, hc1]
        refine wst_op oz nilS T.ox rfl rfl (by decide) (wrote_full _ _ rfl) fun Sf hof hbf => ?_
        have hcf := hof.c
        simp (disch := omega) only [go_sem, ↓reduceIte, Nat.reduceEqDiff, Nat.reduceAdd, Nat.reduceMul, Nat.reduceSub, Nat.reduceLT, Nat.reduceLeDiff, Nat.reduceBEq, reduceCtorEq, Int.reduceLT, Int.reduceEq, Int.reduceLE, Int.reduceAdd, Int.reduceSub, Int.reduceToNat, Int.reduceNeg, hcf]
        obtain ⟨f1, f2, f3⟩ := T.fin hbf
        rw [hO, rdF, if_neg z]
        exact ⟨⟨nilS, rfl, OwnT.nil ..⟩, f1, f3⟩
end Go.Osj
