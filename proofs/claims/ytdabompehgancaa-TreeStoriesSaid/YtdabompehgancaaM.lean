/- The law TreeLast. -/
import Derived.Test.YtdabompehgancaaAW
import Derived.Test.YtdabompehgancaaXB
set_option linter.unusedVariables false
set_option linter.unusedSimpArgs false
set_option maxHeartbeats 1000000
namespace Go.Osj
def rmC (m : Mv) : List Value := [.int .i64 m.id.1, .int .i64 m.id.2, .int .i64 m.time, .int .i64 m.block.1, .int .i64 m.block.2, .int .i64 m.parent.1, .int .i64 m.parent.2, .string m.key]
/-- a move as the document's and the laws have it -/
def rmE : Enc Mv := ⟨rmC, 8, fun _ => rfl, fun _ => rfl, by decide⟩
theorem rmC_len (m : Mv) : (rmC m).length = 8 := rfl
theorem SlT.rm {S : St} {base : Option Addr} {n cap : Nat} {xs : List Mv} (h : SlT rmE S (.slice base n cap) xs) {i : Nat} (hi : i < xs.length) :
    ∃ b off, base = some ⟨b, off, none⟩ ∧ b < S.n ∧ (S.loadN ⟨b, off + i * 8, none⟩ 2 = some [.int .i64 xs[i].id.1, .int .i64 xs[i].id.2] ∧ S.cell ⟨b, off + i * 8 + 2, none⟩ = some (.int .i64 xs[i].time) ∧
      S.loadN ⟨b, off + i * 8 + 3, none⟩ 2 = some [.int .i64 xs[i].block.1, .int .i64 xs[i].block.2] ∧ S.loadN ⟨b, off + i * 8 + 5, none⟩ 2 = some [.int .i64 xs[i].parent.1, .int .i64 xs[i].parent.2] ∧ S.cell ⟨b, off + i * 8 + 7, none⟩ = some (.string xs[i].key)) ∧
      S.loadN ⟨b, off + i * 8, none⟩ 8 = some (rmC xs[i]) := by
  obtain ⟨b, off, h1, h2, h3, h4⟩ := h.at rmE (i := i) (x := xs[i]) (by simp)
  have h3' : S.loadN ⟨b, off + i * 8, none⟩ 8 = some (rmC xs[i]) := h3
  refine ⟨b, off, h1, h2, ⟨?_, h4 2 (by decide), ?_, ?_, h4 7 (by decide)⟩, h3'⟩
  · exact St.loadN_sub h3' (k := 0) (m := 2) (by decide)
  · exact St.loadN_sub h3' (k := 3) (m := 2) (by decide)
  · exact St.loadN_sub h3' (k := 5) (m := 2) (by decide)
theorem moveA_cases (L : List Mv) (m : Mv) : ((moveA L m).1 = 0 ∧ (moveA L m).2 = insM m L) ∨ ((moveA L m).1 ≠ 0 ∧ (moveA L m).2 = L) := by
  unfold moveA
  split
  · exact .inr ⟨by show (1 : Int) ≠ 0; decide, rfl⟩
  split
  · exact .inr ⟨by show (32 : Int) ≠ 0; decide, rfl⟩
  · exact .inl ⟨rfl, rfl⟩
theorem insM_len (m : Mv) (L : List Mv) : (insM m L).length = L.length + 1 := (insM_perm m L).length_eq
theorem F.osierlaw10_TreeLast.J {S : St} {l : Value} {xs : List Mv} (hl : SlT rmE S l xs) (hX : xs.length < 9223372036854775808) : J PR F.osierlaw10_TreeLast [l] S fun v _ => v = .bool true := by
  obtain ⟨base, cap, rfl⟩ := hl.len rmE
  refine J_by PR.mixed F.osierlaw10_TreeLast.ok (by simp) ?_
  simp (disch := omega) only [go_sem, ↓reduceIte, Nat.reduceEqDiff, Nat.reduceAdd, Nat.reduceMul, Nat.reduceSub, Nat.reduceLT, Nat.reduceLeDiff, Nat.reduceBEq, reduceCtorEq, Int.reduceLT, Int.reduceEq, Int.reduceLE, Int.reduceAdd, Int.reduceSub, Int.reduceToNat, Int.reduceNeg]
  refine wJ_of F.osierlaw10_awake_J ?_; rintro _ _ ⟨rfl, rfl⟩
  simp (disch := omega) only [go_sem, ↓reduceIte, Nat.reduceEqDiff, Nat.reduceAdd, Nat.reduceMul, Nat.reduceSub, Nat.reduceLT, Nat.reduceLeDiff, Nat.reduceBEq, reduceCtorEq, Int.reduceLT, Int.reduceEq, Int.reduceLE, Int.reduceAdd, Int.reduceSub, Int.reduceToNat, Int.reduceNeg]
  refine wJ_of F.movetree_New_J ?_; rintro _ S1 ⟨q, Z1, rfl, T1, z1, g1⟩
  simp (disch := omega) only [go_sem, ↓reduceIte, Nat.reduceEqDiff, Nat.reduceAdd, Nat.reduceMul, Nat.reduceSub, Nat.reduceLT, Nat.reduceLeDiff, Nat.reduceBEq, reduceCtorEq, Int.reduceLT, Int.reduceEq, Int.reduceLE, Int.reduceAdd, Int.reduceSub, Int.reduceToNat, Int.reduceNeg]
  refine wC_at 0 (fun fr S2 => ∃ (L ms : List Mv) (v : Value) (Z : Nat → Prop), fr 4 = ptrV q ∧ fr 5 = v ∧ TreeT S2 Z q L ∧ ms.Perm L ∧ OwnT rmE S.n S2 v ms ∧ S.Ext S2 ∧ L.length ≤ 60) ?_ ?_
  · refine wC_loop (fun n fr S2 => ∃ (i : Nat) (L ms : List Mv) (v : Value) (Z : Nat → Prop), n = 60 - i ∧ i ≤ 60 ∧ i ≤ xs.length ∧ fr 0 = .slice base xs.length cap ∧ fr 4 = ptrV q ∧ fr 5 = v ∧ fr 6 = .int .i64 (i : Nat) ∧ TreeT S2 Z q L ∧ ms.Perm L ∧ OwnT rmE S.n S2 v ms ∧
        (∀ j, blkOf v = some j → ¬ Z j) ∧ (∀ j, Z j → S.n ≤ j) ∧ S.Ext S2 ∧ L.length ≤ i) 60
      ⟨0, [], [], nilS, Z1, by simp (disch := omega) only [go_sem, ↓reduceIte, Nat.reduceEqDiff, Nat.reduceAdd, Nat.reduceMul, Nat.reduceSub, Nat.reduceLT, Nat.reduceLeDiff, Nat.reduceBEq, reduceCtorEq, Int.reduceLT, Int.reduceEq, Int.reduceLE, Int.reduceAdd, Int.reduceSub, Int.reduceToNat, Int.reduceNeg]; exact ⟨by simp, T1, List.Perm.refl _, OwnT.nil rmE _ _, by simp [blkOf], z1, g1⟩⟩ ?_
    rintro n fr S2 ⟨i, L, ms, v, Z, rfl, hi, hix, h0, h4, h5, h6, T2, hp, ho, hv, hz, g2, hLi⟩
    simp (disch := omega) only [go_sem, ↓reduceIte, Nat.reduceEqDiff, Nat.reduceAdd, Nat.reduceMul, Nat.reduceSub, Nat.reduceLT, Nat.reduceLeDiff, Nat.reduceBEq, reduceCtorEq, Int.reduceLT, Int.reduceEq, Int.reduceLE, Int.reduceAdd, Int.reduceSub, Int.reduceToNat, Int.reduceNeg, F.osierlaw10_TreeLast.l0, h0, h4, h5, h6]
    by_cases hx : i < xs.length
    rotate_left
    · have d1 : ¬ ((i : Int) < (xs.length : Int)) := by omega
      simp (disch := omega) only [go_sem, ↓reduceIte, Nat.reduceEqDiff, Nat.reduceAdd, Nat.reduceMul, Nat.reduceSub, Nat.reduceLT, Nat.reduceLeDiff, Nat.reduceBEq, reduceCtorEq, Int.reduceLT, Int.reduceEq, Int.reduceLE, Int.reduceAdd, Int.reduceSub, Int.reduceToNat, Int.reduceNeg, d1, h4, h5]
      refine ⟨L, ms, v, Z, ?_⟩
      repeat' first | assumption | omega | (exact St.Ext.refl _) | (exact List.Perm.refl _) | rfl | (exact .inl trivial) | (exact trivial) | refine And.intro ?_ ?_
    have d1 : (i : Int) < (xs.length : Int) := by omega
    by_cases hx6 : i < 60
    rotate_left
    · have d2 : ¬ ((i : Int) < 60) := by omega
      simp (disch := omega) only [go_sem, ↓reduceIte, Nat.reduceEqDiff, Nat.reduceAdd, Nat.reduceMul, Nat.reduceSub, Nat.reduceLT, Nat.reduceLeDiff, Nat.reduceBEq, reduceCtorEq, Int.reduceLT, Int.reduceEq, Int.reduceLE, Int.reduceAdd, Int.reduceSub, Int.reduceToNat, Int.reduceNeg, d1, d2, h4, h5, h6]
      refine ⟨L, ms, v, Z, ?_⟩
      repeat' first | assumption | omega | (exact St.Ext.refl _) | (exact List.Perm.refl _) | rfl | (exact .inl trivial) | (exact trivial) | refine And.intro ?_ ?_
    have d2 : (i : Int) < 60 := by omega
    have d3 : (0 : Int) ≤ (i : Int) ∧ (i : Int) < (xs.length : Int) := by omega
    have hs2 := hl.ext rmE g2
    obtain ⟨b, off, rfl, hb, ⟨x1, x2, x3, x4, x5⟩, x6⟩ := hs2.rm hx
    simp (disch := omega) only [go_sem, ↓reduceIte, Nat.reduceEqDiff, Nat.reduceAdd, Nat.reduceMul, Nat.reduceSub, Nat.reduceLT, Nat.reduceLeDiff, Nat.reduceBEq, reduceCtorEq, Int.reduceLT, Int.reduceEq, Int.reduceLE, Int.reduceAdd, Int.reduceSub, Int.reduceToNat, Int.reduceNeg, d1, d2, d3, h0, h4, h6, x1, x2, x3, x4, x5]
    refine wJ_of (F.movetree_Tree_Move_J (m := xs[i]) T2 (by omega)) ?_; rintro _ S3 ⟨rfl, Z3, T3, z3, f3⟩
    have g3 : S.Ext S3 := g2.frm f3 hz
    have hz3 : ∀ j, Z3 j → S.n ≤ j := fun j hj => (z3 j hj).elim (hz j) (fun h => Nat.le_trans g2.n h)
    have hvb : ∀ j, blkOf v = some j → S.n ≤ j ∧ j < S2.n := fun j hj => ho.blk rmE j hj
    have hv3 : ∀ j, blkOf v = some j → ¬ Z3 j := fun j hj h => (z3 j h).elim (hv j hj) (by have := (hvb j hj).2; omega)
    have ho3 : OwnT rmE S.n S3 v ms := ho.congr rmE f3.n fun b l c hv' hb => f3.obj b hb (hv b (by rw [hv']; rfl))
    rcases moveA_cases L xs[i] with ⟨m1, m2⟩ | ⟨m1, m2⟩
    · rw [m2] at T3
      have hs3 := hl.ext rmE g3
      obtain ⟨b', off', hbb, hb', -, x6'⟩ := hs3.rm hx
      injection hbb with hbb
      injection hbb with hb1 hb2
      subst hb1 hb2
      simp (disch := omega) only [go_sem, ↓reduceIte, Nat.reduceEqDiff, Nat.reduceAdd, Nat.reduceMul, Nat.reduceSub, Nat.reduceLT, Nat.reduceLeDiff, Nat.reduceBEq, reduceCtorEq, Int.reduceLT, Int.reduceEq, Int.reduceLE, Int.reduceAdd, Int.reduceSub, Int.reduceToNat, Int.reduceNeg, m1, d3, h0, h4, h5, h6, x6', rmC_len]
      refine wfresh_of fun u hu => ?_
      simp (disch := omega) only [go_sem, ↓reduceIte, Nat.reduceEqDiff, Nat.reduceAdd, Nat.reduceMul, Nat.reduceSub, Nat.reduceLT, Nat.reduceLeDiff, Nat.reduceBEq, reduceCtorEq, Int.reduceLT, Int.reduceEq, Int.reduceLE, Int.reduceAdd, Int.reduceSub, Int.reduceToNat, Int.reduceNeg, h5]
      have e4 := (St.Ext.refl S3).put hu (.cells true 8 (rmC xs[i]))
      have hml := hp.length_eq
      refine wE_app rmE (bytes := 72) (xs := ms) (ys := [xs[i]]) (ho3.ext rmE e4) (SlT.lit rmE (xs := [xs[i]])) rfl rfl (Nat.le_trans g3.n e4.n) (by simp; omega) (by simp; omega) fun v5 S5 ho5 hb5 hv5 => ?_
      simp (disch := omega) only [go_sem, ↓reduceIte, Nat.reduceEqDiff, Nat.reduceAdd, Nat.reduceMul, Nat.reduceSub, Nat.reduceLT, Nat.reduceLeDiff, Nat.reduceBEq, reduceCtorEq, Int.reduceLT, Int.reduceEq, Int.reduceLE, Int.reduceAdd, Int.reduceSub, Int.reduceToNat, Int.reduceNeg, h0, h4, h6]
      have hTb : ∀ j, Z3 j → blkOf v ≠ some j := fun j hj e => hv3 j e hj
      have T5 := (T3.ext e4).keep hb5.n (fun k hk hz => hb5.obj k hk (hTb k hz))
      have hp5 : (ms ++ [xs[i]]).Perm (insM xs[i] L) := ((List.perm_append_singleton _ _).trans (List.Perm.cons _ hp)).trans (insM_perm _ _).symm
      have hv6 : ∀ j, blkOf v5 = some j → ¬ Z3 j := fun j hj hz => by
        rcases hv5 with h | ⟨b', h, hb'⟩
        · rw [h] at hj; exact hv3 j hj hz
        · rw [h] at hj
          injection hj with hj
          subst hj
          exact absurd (Nat.lt_of_lt_of_le (T3.1 b' hz) (Nat.le_trans e4.n hb')) (Nat.lt_irrefl _)
      have g5 : S.Ext S5 := (g3.trans e4).but hb5 fun j hj => (hvb j hj).1
      have hLn : (insM xs[i] L).length ≤ i + 1 := by rw [insM_len]; omega
      refine ⟨60 - (i + 1), by omega, i + 1, insM xs[i] L, ms ++ [xs[i]], v5, Z3, ?_⟩
      repeat' first | assumption | omega | (exact St.Ext.refl _) | (exact List.Perm.refl _) | rfl | (exact .inl trivial) | (exact trivial) | refine And.intro ?_ ?_
    · simp (disch := omega) only [go_sem, ↓reduceIte, Nat.reduceEqDiff, Nat.reduceAdd, Nat.reduceMul, Nat.reduceSub, Nat.reduceLT, Nat.reduceLeDiff, Nat.reduceBEq, reduceCtorEq, Int.reduceLT, Int.reduceEq, Int.reduceLE, Int.reduceAdd, Int.reduceSub, Int.reduceToNat, Int.reduceNeg, m1, h0, h4, h5, h6]
      rw [m2] at T3
      refine ⟨60 - (i + 1), by omega, i + 1, L, ms, v, Z3, ?_⟩
      repeat' first | assumption | omega | (exact St.Ext.refl _) | (exact List.Perm.refl _) | rfl | (exact .inl trivial) | (exact trivial) | refine And.intro ?_ ?_
  rintro fr S2 ⟨L, ms, v, Z, h4, h5, T2, hp, ho, g2, hLi⟩
  have hpl := hp.length_eq
  obtain ⟨bv, cv, hv⟩ := (ho.sl rmE).len rmE
  subst hv
  simp (disch := omega) only [go_sem, ↓reduceIte, Nat.reduceEqDiff, Nat.reduceAdd, Nat.reduceMul, Nat.reduceSub, Nat.reduceLT, Nat.reduceLeDiff, Nat.reduceBEq, reduceCtorEq, Int.reduceLT, Int.reduceEq, Int.reduceLE, Int.reduceAdd, Int.reduceSub, Int.reduceToNat, Int.reduceNeg, h4, h5]
  refine wC_loop (fun n fr S3 => ∃ (i : Nat), n = ms.length - i ∧ i ≤ ms.length ∧ fr 4 = ptrV q ∧ fr 5 = .slice bv ms.length cv ∧ fr 8 = .int .i64 (i : Nat) ∧ S2.Ext S3) ms.length
    ⟨0, by simp (disch := omega) only [go_sem, ↓reduceIte, Nat.reduceEqDiff, Nat.reduceAdd, Nat.reduceMul, Nat.reduceSub, Nat.reduceLT, Nat.reduceLeDiff, Nat.reduceBEq, reduceCtorEq, Int.reduceLT, Int.reduceEq, Int.reduceLE, Int.reduceAdd, Int.reduceSub, Int.reduceToNat, Int.reduceNeg]; repeat' first | assumption | omega | (exact St.Ext.refl _) | rfl | refine And.intro ?_ ?_⟩ ?_
  rintro n fr S3 ⟨i, rfl, hi, h4, h5, h8, g3⟩
  simp (disch := omega) only [go_sem, ↓reduceIte, Nat.reduceEqDiff, Nat.reduceAdd, Nat.reduceMul, Nat.reduceSub, Nat.reduceLT, Nat.reduceLeDiff, Nat.reduceBEq, reduceCtorEq, Int.reduceLT, Int.reduceEq, Int.reduceLE, Int.reduceAdd, Int.reduceSub, Int.reduceToNat, Int.reduceNeg, F.osierlaw10_TreeLast.l2, h4, h5, h8]
  refine wcond_dec (fun hlt => ?_) (fun hge => ?_)
  · have hlx : i < ms.length := by omega
    have hs3 := (ho.sl rmE).ext rmE g3
    obtain ⟨b, off, rfl, hb, ⟨-, -, hx3, -, -⟩, -⟩ := hs3.rm hlx
    have c1 : (0 : Int) ≤ (i : Int) ∧ (i : Int) < (ms.length : Int) := by omega
    simp (disch := omega) only [go_sem, ↓reduceIte, Nat.reduceEqDiff, Nat.reduceAdd, Nat.reduceMul, Nat.reduceSub, Nat.reduceLT, Nat.reduceLeDiff, Nat.reduceBEq, reduceCtorEq, Int.reduceLT, Int.reduceEq, Int.reduceLE, Int.reduceAdd, Int.reduceSub, Int.reduceToNat, Int.reduceNeg, h4, h5, h8, c1, hx3]
    generalize hbk : ms[i].block = bk at *
    refine walloc_x [.int .i64 0, .int .i64 0] fun y S4 e4 oy hy hyn => ?_
    simp (disch := omega) only [go_sem, ↓reduceIte, Nat.reduceEqDiff, Nat.reduceAdd, Nat.reduceMul, Nat.reduceSub, Nat.reduceLT, Nat.reduceLeDiff, Nat.reduceBEq, reduceCtorEq, Int.reduceLT, Int.reduceEq, Int.reduceLE, Int.reduceAdd, Int.reduceSub, Int.reduceToNat, Int.reduceNeg]
    refine wst_w [.int .i64 bk.1, .int .i64 bk.2] oy rfl rfl (by simp) (by simp) rfl fun S5 oy5 b5 hy5 => ?_
    have g5 : S2.Ext S5 := (g3.trans e4).but b5 fun j hj => by simp [blkOf] at hj; have := g3.n; omega
    have ly5 := cells2 oy5
    have hs5 := (ho.sl rmE).ext rmE g5
    have T5 := T2.ext g5
    simp (disch := omega) only [go_sem, ↓reduceIte, Nat.reduceEqDiff, Nat.reduceAdd, Nat.reduceMul, Nat.reduceSub, Nat.reduceLT, Nat.reduceLeDiff, Nat.reduceBEq, reduceCtorEq, Int.reduceLT, Int.reduceEq, Int.reduceLE, Int.reduceAdd, Int.reduceSub, Int.reduceToNat, Int.reduceNeg]
    refine wC_at 4 (fun fr S6 => ∃ (k : Int) (made : Bool), S6 = S5 ∧ fr 4 = ptrV q ∧ fr 5 = .slice (some ⟨b, off, none⟩) ms.length cv ∧ fr 8 = .int .i64 (i : Nat) ∧ fr 9 = ptrV y ∧ fr 10 = .int .i64 k ∧ fr 11 = .bool made ∧ lastI L bk ms k made) ?_ ?_
    · refine wC_loop (fun n fr S6 => ∃ (j : Nat) (k : Int) (made : Bool), n = ms.length - j ∧ j ≤ ms.length ∧ S6 = S5 ∧ fr 4 = ptrV q ∧ fr 5 = .slice (some ⟨b, off, none⟩) ms.length cv ∧ fr 8 = .int .i64 (i : Nat) ∧ fr 9 = ptrV y ∧ fr 10 = .int .i64 k ∧ fr 11 = .bool made ∧ fr 12 = .int .i64 (j : Nat) ∧ lastI L bk (ms.take j) k made) ms.length
        ⟨0, -1, false, by
          have hl0 : lastI L bk (ms.take 0) (-1) false := lastI_nil L bk
          simp (disch := omega) only [go_sem, ↓reduceIte, Nat.reduceEqDiff, Nat.reduceAdd, Nat.reduceMul, Nat.reduceSub, Nat.reduceLT, Nat.reduceLeDiff, Nat.reduceBEq, reduceCtorEq, Int.reduceLT, Int.reduceEq, Int.reduceLE, Int.reduceAdd, Int.reduceSub, Int.reduceToNat, Int.reduceNeg]
          repeat' first | assumption | omega | rfl | refine And.intro ?_ ?_⟩ ?_
      rintro n fr S6 ⟨j, k, made, rfl, hj, rfl, h4, h5, h8, h9, h10, h11, h12, hI⟩
      simp (disch := omega) only [go_sem, ↓reduceIte, Nat.reduceEqDiff, Nat.reduceAdd, Nat.reduceMul, Nat.reduceSub, Nat.reduceLT, Nat.reduceLeDiff, Nat.reduceBEq, reduceCtorEq, Int.reduceLT, Int.reduceEq, Int.reduceLE, Int.reduceAdd, Int.reduceSub, Int.reduceToNat, Int.reduceNeg, F.osierlaw10_TreeLast.l1, h4, h5, h8, h9, h10, h11, h12]
      refine wcond_dec (fun hlt => ?_) (fun hge => ?_)
      · have hlj : j < ms.length := by omega
        have c2 : (0 : Int) ≤ (j : Int) ∧ (j : Int) < (ms.length : Int) := by omega
        obtain ⟨b', off', hbb, hb', ⟨x1, x2, x3, x4, x5⟩, x6⟩ := hs5.rm hlj
        injection hbb with hbb
        injection hbb with hb1 hb2
        subst hb1 hb2
        simp (disch := omega) only [go_sem, ↓reduceIte, Nat.reduceEqDiff, Nat.reduceAdd, Nat.reduceMul, Nat.reduceSub, Nat.reduceLT, Nat.reduceLeDiff, Nat.reduceBEq, reduceCtorEq, Int.reduceLT, Int.reduceEq, Int.reduceLE, Int.reduceAdd, Int.reduceSub, Int.reduceToNat, Int.reduceNeg, h4, h5, h9, h12, c2, x1, x3, ly5]
        refine wJ_of (F.movetree_Tree_Took_J (d := ms[j].id) T5 (by omega)) ?_; rintro _ _ ⟨rfl, rfl⟩
        have htk : ms.take (j + 1) = ms.take j ++ [ms[j]] := take_snoc (List.getElem?_eq_getElem hlj)
        have eb := eqV_dot ms[j].block bk
        by_cases cB : ms[j].block = bk
        rotate_left
        · have eb := eqV_d ms[j].block bk (decide_eq_false cB)
          simp (disch := omega) only [go_sem, ↓reduceIte, Nat.reduceEqDiff, Nat.reduceAdd, Nat.reduceMul, Nat.reduceSub, Nat.reduceLT, Nat.reduceLeDiff, Nat.reduceBEq, reduceCtorEq, Int.reduceLT, Int.reduceEq, Int.reduceLE, Int.reduceAdd, Int.reduceSub, Int.reduceToNat, Int.reduceNeg, eb, c2, x1, x3, ly5, h4, h5, h8, h9, h10, h11, h12]
          have hI2 : lastI L bk (ms.take (j + 1)) k made := by rw [htk]; exact lastI_skip hI fun h => cB h.1
          refine ⟨ms.length - (j + 1), by omega, j + 1, k, made, ?_⟩
          repeat' first | assumption | omega | (exact St.Ext.refl _) | (exact List.Perm.refl _) | rfl | (exact .inl trivial) | (exact trivial) | refine And.intro ?_ ?_
        have eb := eqV_d ms[j].block bk (decide_eq_true cB)
        by_cases cT : tookP L ms[j].id
        rotate_left
        · have dT : decide (tookP L ms[j].id) = false := decide_eq_false cT
          simp (disch := omega) only [go_sem, ↓reduceIte, Nat.reduceEqDiff, Nat.reduceAdd, Nat.reduceMul, Nat.reduceSub, Nat.reduceLT, Nat.reduceLeDiff, Nat.reduceBEq, reduceCtorEq, Int.reduceLT, Int.reduceEq, Int.reduceLE, Int.reduceAdd, Int.reduceSub, Int.reduceToNat, Int.reduceNeg, eb, dT, c2, x1, x3, ly5, h4, h5, h8, h9, h10, h11, h12]
          have hI2 : lastI L bk (ms.take (j + 1)) k made := by rw [htk]; exact lastI_skip hI fun h => cT h.2
          refine ⟨ms.length - (j + 1), by omega, j + 1, k, made, ?_⟩
          repeat' first | assumption | omega | (exact St.Ext.refl _) | (exact List.Perm.refl _) | rfl | (exact .inl trivial) | (exact trivial) | refine And.intro ?_ ?_
        have dT : decide (tookP L ms[j].id) = true := decide_eq_true cT
        have hC : condM L bk ms[j] := ⟨cB, cT⟩
        have ed := eqV_dot ms[j].id bk
        simp (disch := omega) only [go_sem, ↓reduceIte, Nat.reduceEqDiff, Nat.reduceAdd, Nat.reduceMul, Nat.reduceSub, Nat.reduceLT, Nat.reduceLeDiff, Nat.reduceBEq, reduceCtorEq, Int.reduceLT, Int.reduceEq, Int.reduceLE, Int.reduceAdd, Int.reduceSub, Int.reduceToNat, Int.reduceNeg, eb, dT, c2, x1, x3, ly5, h4, h5, h8, h9, h10, h11, h12]
        have hjl : (ms.take j).length = j := by rw [List.length_take]; omega
        cases made with
        | true =>
          simp (disch := omega) only [go_sem, ↓reduceIte, Nat.reduceEqDiff, Nat.reduceAdd, Nat.reduceMul, Nat.reduceSub, Nat.reduceLT, Nat.reduceLeDiff, Nat.reduceBEq, reduceCtorEq, Int.reduceLT, Int.reduceEq, Int.reduceLE, Int.reduceAdd, Int.reduceSub, Int.reduceToNat, Int.reduceNeg, c2, x1, ly5, ed, h4, h5, h8, h9, h10, h11, h12]
          by_cases hk : k < 0
          · simp (disch := omega) only [go_sem, ↓reduceIte, Nat.reduceEqDiff, Nat.reduceAdd, Nat.reduceMul, Nat.reduceSub, Nat.reduceLT, Nat.reduceLeDiff, Nat.reduceBEq, reduceCtorEq, Int.reduceLT, Int.reduceEq, Int.reduceLE, Int.reduceAdd, Int.reduceSub, Int.reduceToNat, Int.reduceNeg, hk, h8, h4, h5, h8, h9, h10, h11, h12]
            have hI2 := lastI_take hI hC (.inl hk)
            rw [← htk, hjl] at hI2
            refine ⟨ms.length - (j + 1), by omega, j + 1, j, true, ?_⟩
            simp only [Bool.true_or] at hI2
            repeat' first | assumption | omega | (exact St.Ext.refl _) | (exact List.Perm.refl _) | rfl | (exact .inl trivial) | (exact trivial) | refine And.intro ?_ ?_
          obtain ⟨kk, y', hkk, hy', -, -⟩ : ∃ (kk : Nat) (y : Mv), k = kk ∧ (ms.take j)[kk]? = some y ∧ condM L bk y ∧ ∀ x ∈ ms.take j, condM L bk x → x = y ∨ aheadM x y := by
            rcases hI.2 with ⟨h1, -⟩ | h1
            · omega
            · exact h1
          subst hkk
          rw [List.getElem?_take] at hy'
          split at hy'
          rotate_left
          · cases hy'
          rename_i hkj
          have hlk : kk < ms.length := by omega
          rw [List.getElem?_eq_getElem hlk] at hy'
          injection hy' with hy'
          have hgk : (ms.take j)[((kk : Nat) : Int).toNat]? = some y' := by rw [Int.toNat_natCast, List.getElem?_take, if_pos hkj, List.getElem?_eq_getElem hlk, hy']
          subst hy'
          have hidne : ms[kk].id ≠ ms[j].id := fun e => by
            have hn := ((hp.map Mv.id).nodup_iff).2 T2.2.1.ids
            have h1 : (ms.map Mv.id)[kk]'(by simpa using hlk) = (ms.map Mv.id)[j]'(by simpa using hlj) := by simpa using e
            have := (List.getElem_inj hn).1 h1
            omega
          have c3 : (0 : Int) ≤ (kk : Int) ∧ (kk : Int) < (ms.length : Int) := by omega
          obtain ⟨b'', off'', hbb, hb'', ⟨y1, y2, y3, y4, y5⟩, y6⟩ := hs5.rm hlk
          injection hbb with hbb
          injection hbb with hb1 hb2
          subst hb1 hb2
          have ltake : aheadM ms[kk] ms[j] → lastI L bk (ms.take (j + 1)) j (true) := fun ha => by
            have hI2 := lastI_take hI hC (.inr ⟨_, hgk, ha⟩)
            rw [← htk, hjl] at hI2
            simpa only [Bool.true_or] using hI2
          have lleave : ¬ aheadM ms[kk] ms[j] → lastI L bk (ms.take (j + 1)) kk (true) := fun ha => by
            have hI2 := lastI_leave hI hC (Int.natCast_nonneg _) hgk ha hidne
            rw [← htk] at hI2
            simpa only [Bool.true_or] using hI2
          by_cases t1 : ms[kk].time < ms[j].time
          · have hI2 := ltake (.inl t1)
            simp (disch := omega) only [go_sem, ↓reduceIte, Nat.reduceEqDiff, Nat.reduceAdd, Nat.reduceMul, Nat.reduceSub, Nat.reduceLT, Nat.reduceLeDiff, Nat.reduceBEq, reduceCtorEq, Int.reduceLT, Int.reduceEq, Int.reduceLE, Int.reduceAdd, Int.reduceSub, Int.reduceToNat, Int.reduceNeg, hk, h8, c2, c3, y2, x2, t1, h4, h5, h8, h9, h10, h11, h12]
            refine ⟨ms.length - (j + 1), by omega, j + 1, j, true, ?_⟩
            repeat' first | assumption | omega | (exact St.Ext.refl _) | (exact List.Perm.refl _) | rfl | (exact .inl trivial) | (exact trivial) | refine And.intro ?_ ?_
          by_cases t2 : ms[kk].time = ms[j].time
          rotate_left
          · have hI2 := lleave fun h => h.elim t1 fun h => t2 h.1
            simp (disch := omega) only [go_sem, ↓reduceIte, Nat.reduceEqDiff, Nat.reduceAdd, Nat.reduceMul, Nat.reduceSub, Nat.reduceLT, Nat.reduceLeDiff, Nat.reduceBEq, reduceCtorEq, Int.reduceLT, Int.reduceEq, Int.reduceLE, Int.reduceAdd, Int.reduceSub, Int.reduceToNat, Int.reduceNeg, hk, h8, c2, c3, y2, x2, t1, t2, h4, h5, h8, h9, h10, h11, h12]
            refine ⟨ms.length - (j + 1), by omega, j + 1, kk, true, ?_⟩
            repeat' first | assumption | omega | (exact St.Ext.refl _) | (exact List.Perm.refl _) | rfl | (exact .inl trivial) | (exact trivial) | refine And.intro ?_ ?_
          have t3 : decide (ms[kk].time = ms[j].time) = true := decide_eq_true t2
          have t4 : decide (ms[kk].time < ms[j].time) = false := decide_eq_false t1
          simp (disch := omega) only [go_sem, ↓reduceIte, Nat.reduceEqDiff, Nat.reduceAdd, Nat.reduceMul, Nat.reduceSub, Nat.reduceLT, Nat.reduceLeDiff, Nat.reduceBEq, reduceCtorEq, Int.reduceLT, Int.reduceEq, Int.reduceLE, Int.reduceAdd, Int.reduceSub, Int.reduceToNat, Int.reduceNeg, hk, h8, c2, c3, y1, y2, x1, x2, t3, t4, h4, h5, h8, h9, h10, h11, h12]
          refine wJ_of (F.osierref03_Less_P (a := ms[kk].id) (b := ms[j].id)) ?_; rintro _ _ ⟨rfl, rfl⟩
          by_cases t5 : lessP ms[kk].id ms[j].id
          · have hI2 := ltake (.inr ⟨t2, t5⟩)
            simp (disch := omega) only [go_sem, ↓reduceIte, Nat.reduceEqDiff, Nat.reduceAdd, Nat.reduceMul, Nat.reduceSub, Nat.reduceLT, Nat.reduceLeDiff, Nat.reduceBEq, reduceCtorEq, Int.reduceLT, Int.reduceEq, Int.reduceLE, Int.reduceAdd, Int.reduceSub, Int.reduceToNat, Int.reduceNeg, hk, h8, c2, c3, t5, h4, h5, h8, h9, h10, h11, h12]
            refine ⟨ms.length - (j + 1), by omega, j + 1, j, true, ?_⟩
            repeat' first | assumption | omega | (exact St.Ext.refl _) | (exact List.Perm.refl _) | rfl | (exact .inl trivial) | (exact trivial) | refine And.intro ?_ ?_
          · have hI2 := lleave fun h => h.elim t1 fun h => t5 h.2
            simp (disch := omega) only [go_sem, ↓reduceIte, Nat.reduceEqDiff, Nat.reduceAdd, Nat.reduceMul, Nat.reduceSub, Nat.reduceLT, Nat.reduceLeDiff, Nat.reduceBEq, reduceCtorEq, Int.reduceLT, Int.reduceEq, Int.reduceLE, Int.reduceAdd, Int.reduceSub, Int.reduceToNat, Int.reduceNeg, hk, h8, c2, c3, t5, h4, h5, h8, h9, h10, h11, h12]
            refine ⟨ms.length - (j + 1), by omega, j + 1, kk, true, ?_⟩
            repeat' first | assumption | omega | (exact St.Ext.refl _) | (exact List.Perm.refl _) | rfl | (exact .inl trivial) | (exact trivial) | refine And.intro ?_ ?_
        | false =>
          simp (disch := omega) only [go_sem, ↓reduceIte, Nat.reduceEqDiff, Nat.reduceAdd, Nat.reduceMul, Nat.reduceSub, Nat.reduceLT, Nat.reduceLeDiff, Nat.reduceBEq, reduceCtorEq, Int.reduceLT, Int.reduceEq, Int.reduceLE, Int.reduceAdd, Int.reduceSub, Int.reduceToNat, Int.reduceNeg, c2, x1, ly5, ed, h4, h5, h8, h9, h10, h11, h12]
          by_cases hk : k < 0
          · simp (disch := omega) only [go_sem, ↓reduceIte, Nat.reduceEqDiff, Nat.reduceAdd, Nat.reduceMul, Nat.reduceSub, Nat.reduceLT, Nat.reduceLeDiff, Nat.reduceBEq, reduceCtorEq, Int.reduceLT, Int.reduceEq, Int.reduceLE, Int.reduceAdd, Int.reduceSub, Int.reduceToNat, Int.reduceNeg, hk, x1, ly5, ed, h4, h5, h8, h9, h10, h11, h12]
            have hI2 := lastI_take hI hC (.inl hk)
            rw [← htk, hjl] at hI2
            refine ⟨ms.length - (j + 1), by omega, j + 1, j, (decide (ms[j].id = bk)), ?_⟩
            simp only [Bool.false_or] at hI2
            repeat' first | assumption | omega | (exact St.Ext.refl _) | (exact List.Perm.refl _) | rfl | (exact .inl trivial) | (exact trivial) | refine And.intro ?_ ?_
          obtain ⟨kk, y', hkk, hy', -, -⟩ : ∃ (kk : Nat) (y : Mv), k = kk ∧ (ms.take j)[kk]? = some y ∧ condM L bk y ∧ ∀ x ∈ ms.take j, condM L bk x → x = y ∨ aheadM x y := by
            rcases hI.2 with ⟨h1, -⟩ | h1
            · omega
            · exact h1
          subst hkk
          rw [List.getElem?_take] at hy'
          split at hy'
          rotate_left
          · cases hy'
          rename_i hkj
          have hlk : kk < ms.length := by omega
          rw [List.getElem?_eq_getElem hlk] at hy'
          injection hy' with hy'
          have hgk : (ms.take j)[((kk : Nat) : Int).toNat]? = some y' := by rw [Int.toNat_natCast, List.getElem?_take, if_pos hkj, List.getElem?_eq_getElem hlk, hy']
          subst hy'
          have hidne : ms[kk].id ≠ ms[j].id := fun e => by
            have hn := ((hp.map Mv.id).nodup_iff).2 T2.2.1.ids
            have h1 : (ms.map Mv.id)[kk]'(by simpa using hlk) = (ms.map Mv.id)[j]'(by simpa using hlj) := by simpa using e
            have := (List.getElem_inj hn).1 h1
            omega
          have c3 : (0 : Int) ≤ (kk : Int) ∧ (kk : Int) < (ms.length : Int) := by omega
          obtain ⟨b'', off'', hbb, hb'', ⟨y1, y2, y3, y4, y5⟩, y6⟩ := hs5.rm hlk
          injection hbb with hbb
          injection hbb with hb1 hb2
          subst hb1 hb2
          have ltake : aheadM ms[kk] ms[j] → lastI L bk (ms.take (j + 1)) j ((decide (ms[j].id = bk))) := fun ha => by
            have hI2 := lastI_take hI hC (.inr ⟨_, hgk, ha⟩)
            rw [← htk, hjl] at hI2
            simpa only [Bool.false_or] using hI2
          have lleave : ¬ aheadM ms[kk] ms[j] → lastI L bk (ms.take (j + 1)) kk ((decide (ms[j].id = bk))) := fun ha => by
            have hI2 := lastI_leave hI hC (Int.natCast_nonneg _) hgk ha hidne
            rw [← htk] at hI2
            simpa only [Bool.false_or] using hI2
          by_cases t1 : ms[kk].time < ms[j].time
          · have hI2 := ltake (.inl t1)
            simp (disch := omega) only [go_sem, ↓reduceIte, Nat.reduceEqDiff, Nat.reduceAdd, Nat.reduceMul, Nat.reduceSub, Nat.reduceLT, Nat.reduceLeDiff, Nat.reduceBEq, reduceCtorEq, Int.reduceLT, Int.reduceEq, Int.reduceLE, Int.reduceAdd, Int.reduceSub, Int.reduceToNat, Int.reduceNeg, hk, x1, ly5, ed, c2, c3, y2, x2, t1, h4, h5, h8, h9, h10, h11, h12]
            refine ⟨ms.length - (j + 1), by omega, j + 1, j, (decide (ms[j].id = bk)), ?_⟩
            repeat' first | assumption | omega | (exact St.Ext.refl _) | (exact List.Perm.refl _) | rfl | (exact .inl trivial) | (exact trivial) | refine And.intro ?_ ?_
          by_cases t2 : ms[kk].time = ms[j].time
          rotate_left
          · have hI2 := lleave fun h => h.elim t1 fun h => t2 h.1
            simp (disch := omega) only [go_sem, ↓reduceIte, Nat.reduceEqDiff, Nat.reduceAdd, Nat.reduceMul, Nat.reduceSub, Nat.reduceLT, Nat.reduceLeDiff, Nat.reduceBEq, reduceCtorEq, Int.reduceLT, Int.reduceEq, Int.reduceLE, Int.reduceAdd, Int.reduceSub, Int.reduceToNat, Int.reduceNeg, hk, x1, ly5, ed, c2, c3, y2, x2, t1, t2, h4, h5, h8, h9, h10, h11, h12]
            refine ⟨ms.length - (j + 1), by omega, j + 1, kk, (decide (ms[j].id = bk)), ?_⟩
            repeat' first | assumption | omega | (exact St.Ext.refl _) | (exact List.Perm.refl _) | rfl | (exact .inl trivial) | (exact trivial) | refine And.intro ?_ ?_
          have t3 : decide (ms[kk].time = ms[j].time) = true := decide_eq_true t2
          have t4 : decide (ms[kk].time < ms[j].time) = false := decide_eq_false t1
          simp (disch := omega) only [go_sem, ↓reduceIte, Nat.reduceEqDiff, Nat.reduceAdd, Nat.reduceMul, Nat.reduceSub, Nat.reduceLT, Nat.reduceLeDiff, Nat.reduceBEq, reduceCtorEq, Int.reduceLT, Int.reduceEq, Int.reduceLE, Int.reduceAdd, Int.reduceSub, Int.reduceToNat, Int.reduceNeg, hk, x1, ly5, ed, c2, c3, y1, y2, x1, x2, t3, t4, h4, h5, h8, h9, h10, h11, h12]
          refine wJ_of (F.osierref03_Less_P (a := ms[kk].id) (b := ms[j].id)) ?_; rintro _ _ ⟨rfl, rfl⟩
          by_cases t5 : lessP ms[kk].id ms[j].id
          · have hI2 := ltake (.inr ⟨t2, t5⟩)
            simp (disch := omega) only [go_sem, ↓reduceIte, Nat.reduceEqDiff, Nat.reduceAdd, Nat.reduceMul, Nat.reduceSub, Nat.reduceLT, Nat.reduceLeDiff, Nat.reduceBEq, reduceCtorEq, Int.reduceLT, Int.reduceEq, Int.reduceLE, Int.reduceAdd, Int.reduceSub, Int.reduceToNat, Int.reduceNeg, hk, x1, ly5, ed, c2, c3, t5, h4, h5, h8, h9, h10, h11, h12]
            refine ⟨ms.length - (j + 1), by omega, j + 1, j, (decide (ms[j].id = bk)), ?_⟩
            repeat' first | assumption | omega | (exact St.Ext.refl _) | (exact List.Perm.refl _) | rfl | (exact .inl trivial) | (exact trivial) | refine And.intro ?_ ?_
          · have hI2 := lleave fun h => h.elim t1 fun h => t5 h.2
            simp (disch := omega) only [go_sem, ↓reduceIte, Nat.reduceEqDiff, Nat.reduceAdd, Nat.reduceMul, Nat.reduceSub, Nat.reduceLT, Nat.reduceLeDiff, Nat.reduceBEq, reduceCtorEq, Int.reduceLT, Int.reduceEq, Int.reduceLE, Int.reduceAdd, Int.reduceSub, Int.reduceToNat, Int.reduceNeg, hk, x1, ly5, ed, c2, c3, t5, h4, h5, h8, h9, h10, h11, h12]
            refine ⟨ms.length - (j + 1), by omega, j + 1, kk, (decide (ms[j].id = bk)), ?_⟩
            repeat' first | assumption | omega | (exact St.Ext.refl _) | (exact List.Perm.refl _) | rfl | (exact .inl trivial) | (exact trivial) | refine And.intro ?_ ?_
      · simp (disch := omega) only [go_sem, ↓reduceIte, Nat.reduceEqDiff, Nat.reduceAdd, Nat.reduceMul, Nat.reduceSub, Nat.reduceLT, Nat.reduceLeDiff, Nat.reduceBEq, reduceCtorEq, Int.reduceLT, Int.reduceEq, Int.reduceLE, Int.reduceAdd, Int.reduceSub, Int.reduceToNat, Int.reduceNeg, h4, h5, h8, h9, h10, h11]
        rw [List.take_of_length_le (by omega)] at hI
        refine ⟨k, made, ?_⟩
        repeat' first | assumption | omega | (exact St.Ext.refl _) | (exact List.Perm.refl _) | rfl | (exact .inl trivial) | (exact trivial) | refine And.intro ?_ ?_
    rintro fr S6 ⟨k, made, rfl, h4, h5, h8, h9, h10, h11, hI⟩
    obtain ⟨F1, F2, F3⟩ := lastI_fin T2.2.1 hp hI
    simp (disch := omega) only [go_sem, ↓reduceIte, Nat.reduceEqDiff, Nat.reduceAdd, Nat.reduceMul, Nat.reduceSub, Nat.reduceLT, Nat.reduceLeDiff, Nat.reduceBEq, reduceCtorEq, Int.reduceLT, Int.reduceEq, Int.reduceLE, Int.reduceAdd, Int.reduceSub, Int.reduceToNat, Int.reduceNeg, h4, h9, ly5]
    refine wJ_of (F.movetree_Tree_Parent_J (d := bk) T5) ?_; rintro _ _ ⟨rfl, rfl⟩
    simp (disch := omega) only [go_sem, ↓reduceIte, Nat.reduceEqDiff, Nat.reduceAdd, Nat.reduceMul, Nat.reduceSub, Nat.reduceLT, Nat.reduceLeDiff, Nat.reduceBEq, reduceCtorEq, Int.reduceLT, Int.reduceEq, Int.reduceLE, Int.reduceAdd, Int.reduceSub, Int.reduceToNat, Int.reduceNeg]
    refine walloc_x [.int .i64 0, .int .i64 0] fun z S7 e7 oz hz hzn => ?_
    simp (disch := omega) only [go_sem, ↓reduceIte, Nat.reduceEqDiff, Nat.reduceAdd, Nat.reduceMul, Nat.reduceSub, Nat.reduceLT, Nat.reduceLeDiff, Nat.reduceBEq, reduceCtorEq, Int.reduceLT, Int.reduceEq, Int.reduceLE, Int.reduceAdd, Int.reduceSub, Int.reduceToNat, Int.reduceNeg]
    refine wst_w [.int .i64 ((alook bk (runS L)).getD zSpot).1.1, .int .i64 ((alook bk (runS L)).getD zSpot).1.2] oz rfl rfl (by simp) (by simp) rfl fun S8 oz8 b8 hz8 => ?_
    have lz := cells2 oz8
    have g8 : S2.Ext S8 := (g5.trans e7).but b8 fun j hj => by simp [blkOf] at hj; have := g5.n; omega
    have bt : ∀ b : Bool, (b == b) = true := fun b => by cases b <;> rfl
    rw [F1] at F2
    by_cases hk : 0 ≤ k
    · have dk : decide (0 ≤ k) = true := decide_eq_true hk
      rw [dk] at F1 F2
      subst F2
      obtain ⟨kk, y', hkk, hy', -, -⟩ : ∃ (kk : Nat) (y : Mv), k = kk ∧ ms[kk]? = some y ∧ condM L bk y ∧ ∀ x ∈ ms, condM L bk x → x = y ∨ aheadM x y := by
        rcases hI.2 with ⟨h1, -⟩ | h1
        · omega
        · exact h1
      subst hkk
      have hlk : kk < ms.length := (List.getElem?_eq_some_iff.1 hy').1
      rw [List.getElem?_eq_getElem hlk] at hy'
      injection hy' with hy'
      subst hy'
      have F4 := F3 ms[kk] (by rw [Int.toNat_natCast]; exact List.getElem?_eq_getElem hlk) hk
      rw [F4] at lz ⊢
      have c3 : (0 : Int) ≤ (kk : Int) ∧ (kk : Int) < (ms.length : Int) := by omega
      obtain ⟨b'', off'', hbb, hb'', ⟨y1, y2, y3, y4, y5⟩, y6⟩ := ((ho.sl rmE).ext rmE g8).rm hlk
      injection hbb with hbb
      injection hbb with hb1 hb2
      subst hb1 hb2
      have ep := eqV_d ms[kk].parent ms[kk].parent (t := true) (by simp)
      have ek : (ms[kk].key == ms[kk].key) = true := by rw [ba_beq]; simp
      simp (disch := omega) only [go_sem, ↓reduceIte, Nat.reduceEqDiff, Nat.reduceAdd, Nat.reduceMul, Nat.reduceSub, Nat.reduceLT, Nat.reduceLeDiff, Nat.reduceBEq, reduceCtorEq, Int.reduceLT, Int.reduceEq, Int.reduceLE, Int.reduceAdd, Int.reduceSub, Int.reduceToNat, Int.reduceNeg, F1, dk, h5, h8, h10, h11, bt, c3, lz, y4, y5, ep, ek]
      refine ⟨ms.length - (i + 1), by omega, i + 1, ?_⟩
      repeat' first | assumption | omega | (exact St.Ext.refl _) | (exact List.Perm.refl _) | rfl | (exact .inl trivial) | (exact trivial) | refine And.intro ?_ ?_
    · have dk : decide (0 ≤ k) = false := decide_eq_false hk
      rw [dk] at F1 F2
      subst F2
      simp (disch := omega) only [go_sem, ↓reduceIte, Nat.reduceEqDiff, Nat.reduceAdd, Nat.reduceMul, Nat.reduceSub, Nat.reduceLT, Nat.reduceLeDiff, Nat.reduceBEq, reduceCtorEq, Int.reduceLT, Int.reduceEq, Int.reduceLE, Int.reduceAdd, Int.reduceSub, Int.reduceToNat, Int.reduceNeg, F1, dk, h4, h5, h8, h10, h11, bt]
      refine ⟨ms.length - (i + 1), by omega, i + 1, ?_⟩
      repeat' first | assumption | omega | (exact St.Ext.refl _) | (exact List.Perm.refl _) | rfl | (exact .inl trivial) | (exact trivial) | refine And.intro ?_ ?_
  · simp (disch := omega) only [go_sem, ↓reduceIte, Nat.reduceEqDiff, Nat.reduceAdd, Nat.reduceMul, Nat.reduceSub, Nat.reduceLT, Nat.reduceLeDiff, Nat.reduceBEq, reduceCtorEq, Int.reduceLT, Int.reduceEq, Int.reduceLE, Int.reduceAdd, Int.reduceSub, Int.reduceToNat, Int.reduceNeg]
end Go.Osj
