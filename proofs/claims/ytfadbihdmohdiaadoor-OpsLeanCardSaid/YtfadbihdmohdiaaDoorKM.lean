/- The laws OpsTake and OpsOne. -/
import Derived.Test.YtfadbihdmohdiaaDoorKL
set_option linter.unusedVariables false
set_option linter.unusedSimpArgs false
set_option maxHeartbeats 1000000
namespace Go.Osj
theorem rdB_deps (o : OpA) (p : Rd) : (rdB o p).1.deps = o.deps := by
  unfold rdB
  split
  · rfl
  split
  · rfl
  split
  · rfl
  · rfl
theorem rdO_deps {L : Nat} {p : Rd} (G : goodR L p) : (rdO p).1.deps.length ≤ L := by
  have h1 : (rdH p).1.deps.length ≤ L := by
    have g := G.d.i
    exact Nat.le_trans (rdV_good g.1 g.2.1).2.2.2 g.2.2
  unfold rdO rdF
  split
  · split
    · rw [rdB_deps]; exact h1
    · exact Nat.zero_le _
  · exact Nat.zero_le _
theorem F.osierlaw07_OpsTake.J {S : St} {l : Value} {bs : List Int} (hl : SlT byteE S l bs) (hb : isB bs) : J PR F.osierlaw07_OpsTake [l] S fun v _ => v = .bool true := by
  obtain ⟨base, cap, rfl⟩ := hl.len byteE
  refine J_by PR.mixed F.osierlaw07_OpsTake.ok (by simp) ?_
  simp (disch := omega) only [go_sem, ↓reduceIte, Nat.reduceEqDiff, Nat.reduceAdd, Nat.reduceMul, Nat.reduceSub, Nat.reduceLT, Nat.reduceLeDiff, Nat.reduceBEq, reduceCtorEq, Int.reduceLT, Int.reduceEq, Int.reduceLE, Int.reduceAdd, Int.reduceSub, Int.reduceToNat, Int.reduceNeg]
  refine wJ_of F.osierlaw07_awake_J ?_; rintro _ _ ⟨rfl, rfl⟩
  simp (disch := omega) only [go_sem, ↓reduceIte, Nat.reduceEqDiff, Nat.reduceAdd, Nat.reduceMul, Nat.reduceSub, Nat.reduceLT, Nat.reduceLeDiff, Nat.reduceBEq, reduceCtorEq, Int.reduceLT, Int.reduceEq, Int.reduceLE, Int.reduceAdd, Int.reduceSub, Int.reduceToNat, Int.reduceNeg]
  refine wcond_dec (fun h => ?_) (fun h => ?_)
  · simp (disch := omega) only [go_sem, ↓reduceIte, Nat.reduceEqDiff, Nat.reduceAdd, Nat.reduceMul, Nat.reduceSub, Nat.reduceLT, Nat.reduceLeDiff, Nat.reduceBEq, reduceCtorEq, Int.reduceLT, Int.reduceEq, Int.reduceLE, Int.reduceAdd, Int.reduceSub, Int.reduceToNat, Int.reduceNeg]
  simp (disch := omega) only [go_sem, ↓reduceIte, Nat.reduceEqDiff, Nat.reduceAdd, Nat.reduceMul, Nat.reduceSub, Nat.reduceLT, Nat.reduceLeDiff, Nat.reduceBEq, reduceCtorEq, Int.reduceLT, Int.reduceEq, Int.reduceLE, Int.reduceAdd, Int.reduceSub, Int.reduceToNat, Int.reduceNeg]
  refine wJ_of (F.num_Read_J hl) ?_; rintro _ S3 ⟨q, rfl, hq, hr, he3⟩
  simp (disch := omega) only [go_sem, ↓reduceIte, Nat.reduceEqDiff, Nat.reduceAdd, Nat.reduceMul, Nat.reduceSub, Nat.reduceLT, Nat.reduceLeDiff, Nat.reduceBEq, reduceCtorEq, Int.reduceLT, Int.reduceEq, Int.reduceLE, Int.reduceAdd, Int.reduceSub, Int.reduceToNat, Int.reduceNeg]
  refine wfresh_of fun w hw => ?_
  simp (disch := omega) only [go_sem, ↓reduceIte, Nat.reduceEqDiff, Nat.reduceAdd, Nat.reduceMul, Nat.reduceSub, Nat.reduceLT, Nat.reduceLeDiff, Nat.reduceBEq, reduceCtorEq, Int.reduceLT, Int.reduceEq, Int.reduceLE, Int.reduceAdd, Int.reduceSub, Int.reduceToNat, Int.reduceNeg]
  have he4 := (St.Ext.refl S3).put hw (.cells true 2 [.slice base bs.length cap, .int .i64 0])
  have hwq : q ≠ w := by have := hr.lt; omega
  have hrw : RdT (S3.put w (.cells true 2 [.slice base bs.length cap, .int .i64 0])) w S.n bs 0 := by
    refine ⟨_, St.put_same _ _ _, St.lt_put_self _ _ _, (hl.ext byteE he3).ext byteE he4, fun hne => ?_⟩
    obtain ⟨b2, c2, g1, -, -, g4⟩ := hl
    obtain ⟨b, off, rfl, hlt, -⟩ := g4 hne
    injection g1 with g1 g2 g3
    subst g1
    have := he3.n
    refine ⟨fun hb => ?_, fun j hj => ?_⟩
    · simp [blkOf] at hb
      omega
    · simp [blkOf] at hj
      omega
  have hrq := hr.but he4
  have hn2 := (he3.trans he4).n
  have hwn := St.lt_put_self S3 w (.cells true 2 [.slice base bs.length cap, .int .i64 0])
  generalize S3.put w (.cells true 2 [.slice base bs.length cap, .int .i64 0]) = S4 at *
  have hw2 : S.n ≤ w := by have := he3.n; omega
  have G0 : goodR 2000 (bs, 0) := ⟨hb, by simp, by show bs.length ≤ 2000; omega⟩
  refine wC_loop (fun n fr S' => ∃ (i : Nat) (p : Rd), n = 10 - i ∧ i ≤ 10 ∧ fr 4 = ptrV q ∧ fr 5 = ptrV w ∧ fr 6 = .int .i64 (i : Nat) ∧ S.n ≤ S'.n ∧ RdT S' q S.n p.1 p.2 ∧ RdT S' w S.n p.1 p.2 ∧ goodR 2000 p) 10
    ⟨0, (bs, 0), by simp (disch := omega) only [go_sem, ↓reduceIte, Nat.reduceEqDiff, Nat.reduceAdd, Nat.reduceMul, Nat.reduceSub, Nat.reduceLT, Nat.reduceLeDiff, Nat.reduceBEq, reduceCtorEq, Int.reduceLT, Int.reduceEq, Int.reduceLE, Int.reduceAdd, Int.reduceSub, Int.reduceToNat, Int.reduceNeg]; exact ⟨hn2, hrq, hrw, G0⟩⟩ ?_
  rintro n fr S5 ⟨i, p, rfl, hi, g4, g5, g6, hn5, hr5, hw5, G⟩
  simp (disch := omega) only [go_sem, ↓reduceIte, Nat.reduceEqDiff, Nat.reduceAdd, Nat.reduceMul, Nat.reduceSub, Nat.reduceLT, Nat.reduceLeDiff, Nat.reduceBEq, reduceCtorEq, Int.reduceLT, Int.reduceEq, Int.reduceLE, Int.reduceAdd, Int.reduceSub, Int.reduceToNat, Int.reduceNeg, F.osierlaw07_OpsTake.l0, g4, g5, g6]
  refine wcond_dec (fun hlt => ?_) (fun hge => ?_)
  · have hq5 := hr5.lt
    have hw5' := hw5.lt
    have G1 := G.o
    simp (disch := omega) only [go_sem, ↓reduceIte, Nat.reduceEqDiff, Nat.reduceAdd, Nat.reduceMul, Nat.reduceSub, Nat.reduceLT, Nat.reduceLeDiff, Nat.reduceBEq, reduceCtorEq, Int.reduceLT, Int.reduceEq, Int.reduceLE, Int.reduceAdd, Int.reduceSub, Int.reduceToNat, Int.reduceNeg, g4, g5, g6]
    refine wJ_of (F.ops_Take_J hr5 hn5 G (by decide)) ?_; rintro _ S6 ⟨⟨da, rfl, hoa⟩, hr6, hb6⟩
    have hw6 : RdT S6 w S.n p.1 p.2 := hw5.keep hb6.n (hb6.obj w hw5' (by simp [blkOf]; exact hwq)) fun j hj hj2 => hb6.obj j hj2 (by simp [blkOf]; omega)
    have hn6 := hb6.n
    simp (disch := omega) only [go_sem, ↓reduceIte, Nat.reduceEqDiff, Nat.reduceAdd, Nat.reduceMul, Nat.reduceSub, Nat.reduceLT, Nat.reduceLeDiff, Nat.reduceBEq, reduceCtorEq, Int.reduceLT, Int.reduceEq, Int.reduceLE, Int.reduceAdd, Int.reduceSub, Int.reduceToNat, Int.reduceNeg, g4, g5, g6]
    refine wJ_of (F.osierref07_Take_J hw6 (by omega) G (by decide)) ?_; rintro _ S7 ⟨⟨db, rfl, hob⟩, hw7, hb7⟩
    have hn7 := hb7.n
    have hr7 : RdT S7 q S.n (rdO p).2.1 (rdO p).2.2 := hr6.keep hb7.n (hb7.obj q hr6.lt (by simp [blkOf]; omega)) fun j hj hj2 => hb7.obj j hj2 (by simp [blkOf]; omega)
    have hsa := (hoa.but dotE hb7 fun j hj => by have := hoa.fresh dotE j hj; simp [blkOf]; omega).sl dotE
    obtain ⟨vw, cw0, -, hsw, -⟩ := hw7.cell0
    obtain ⟨bw, cw, rfl⟩ := hsw.len byteE
    have cw1 := hw7.cell1
    simp (disch := omega) only [go_sem, ↓reduceIte, Nat.reduceEqDiff, Nat.reduceAdd, Nat.reduceMul, Nat.reduceSub, Nat.reduceLT, Nat.reduceLeDiff, Nat.reduceBEq, reduceCtorEq, Int.reduceLT, Int.reduceEq, Int.reduceLE, Int.reduceAdd, Int.reduceSub, Int.reduceToNat, Int.reduceNeg, g4, g5, g6]
    refine wJ_of (F.osierref07_Same_J hsa (hob.sl dotE) (Nat.lt_of_le_of_lt (rdO_deps G) (by decide))) ?_; rintro _ _ ⟨⟨t, rfl, ht⟩, rfl⟩
    have ht' : t = true := ht.2 rfl
    subst ht'
    simp (disch := omega) only [go_sem, ↓reduceIte, Nat.reduceEqDiff, Nat.reduceAdd, Nat.reduceMul, Nat.reduceSub, Nat.reduceLT, Nat.reduceLeDiff, Nat.reduceBEq, reduceCtorEq, Int.reduceLT, Int.reduceEq, Int.reduceLE, Int.reduceAdd, Int.reduceSub, Int.reduceToNat, Int.reduceNeg, g4, g5, g6, cw0]
    refine wJ_of (F.num_Reader_Left_J hr7) ?_; rintro _ _ ⟨rfl, rfl⟩
    simp (disch := omega) only [go_sem, ↓reduceIte, Nat.reduceEqDiff, Nat.reduceAdd, Nat.reduceMul, Nat.reduceSub, Nat.reduceLT, Nat.reduceLeDiff, Nat.reduceBEq, reduceCtorEq, Int.reduceLT, Int.reduceEq, Int.reduceLE, Int.reduceAdd, Int.reduceSub, Int.reduceToNat, Int.reduceNeg, g4, g5, g6, cw0, cw1]
    refine wJ_of (F.num_Reader_Err_J hr7) ?_; rintro _ _ ⟨rfl, rfl⟩
    simp (disch := omega) only [go_sem, ↓reduceIte, Nat.reduceEqDiff, Nat.reduceAdd, Nat.reduceMul, Nat.reduceSub, Nat.reduceLT, Nat.reduceLeDiff, Nat.reduceBEq, reduceCtorEq, Int.reduceLT, Int.reduceEq, Int.reduceLE, Int.reduceAdd, Int.reduceSub, Int.reduceToNat, Int.reduceNeg, g4, g5, g6, cw1]
    exact ⟨10 - (i + 1), by omega, i + 1, (rdO p).2, rfl, by omega, rfl, by omega, hr7, hw7, G1⟩
  · simp (disch := omega) only [go_sem, ↓reduceIte, Nat.reduceEqDiff, Nat.reduceAdd, Nat.reduceMul, Nat.reduceSub, Nat.reduceLT, Nat.reduceLeDiff, Nat.reduceBEq, reduceCtorEq, Int.reduceLT, Int.reduceEq, Int.reduceLE, Int.reduceAdd, Int.reduceSub, Int.reduceToNat, Int.reduceNeg]
end Go.Osj
