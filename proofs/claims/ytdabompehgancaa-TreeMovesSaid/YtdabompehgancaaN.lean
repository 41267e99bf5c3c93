/- The law TreeMoves. -/
import Derived.Test.YtdabompehgancaaM
import Derived.Test.YtdabompehgancaaXC
set_option linter.unusedVariables false
set_option linter.unusedSimpArgs false
set_option maxHeartbeats 1000000
set_option maxRecDepth 10000
namespace Go.Osj
theorem moveA_good {L : List Mv} (h : GoodM L) (m : Mv) : GoodM (moveA L m).2 := by
  unfold moveA
  split
  · exact h
  rename_i hn
  split
  · exact h
  · exact h.ins (fun e => hn (.inl e)) (fun e => hn (.inr e))
theorem moveA_mem {L : List Mv} {m x : Mv} (h : x ∈ (moveA L m).2) : x = m ∨ x ∈ L := by
  rcases moveA_cases L m with ⟨-, e⟩ | ⟨-, e⟩
  · rw [e] at h
    exact List.mem_cons.1 ((insM_perm m L).mem_iff.1 h)
  · rw [e] at h
    exact .inr h
theorem moveA_len (L : List Mv) (m : Mv) : (moveA L m).2.length ≤ L.length + 1 := by
  rcases moveA_cases L m with ⟨-, e⟩ | ⟨-, e⟩
  · rw [e, insM_len]; exact Nat.le_refl _
  · rw [e]; omega
theorem absA {n : Int} (h1 : -9223372036854775808 ≤ n) (h2 : n ≤ 9223372036854775807) (hn : n < 0) : IntKind.i64.wrap (0 - IntKind.i64.wrap (n + 1)) = -(n + 1) := by
  rw [wrap64 (n := n + 1) (by omega) (by omega), wrap64 (by omega) (by omega)]
  omega
theorem tmod_nat {a : Int} {n : Nat} (ha : 0 ≤ a) (hn : 0 < n) : ∃ k : Nat, a.tmod (n : Int) = k ∧ k < n := by
  refine ⟨(a.tmod n).toNat, ?_, ?_⟩
  · rw [Int.toNat_of_nonneg (Int.tmod_nonneg _ ha)]
  · have h1 := Int.tmod_lt_of_pos a (b := (n : Int)) (by omega)
    have h2 := Int.tmod_nonneg (b := (n : Int)) ha
    omega
theorem F.osierlaw10_TreeMoves.J {S : St} {l : Value} {xs : List Mv} {n1 n2 : Int} {key : ByteArray} (hl : SlT rmE S l xs) (hX : xs.length < 9223372036854775808) (hn1 : -9223372036854775808 ≤ n1 ∧ n1 ≤ 9223372036854775807) (hn2 : -9223372036854775808 ≤ n2 ∧ n2 ≤ 9223372036854775807) :
    J PR F.osierlaw10_TreeMoves [l, .int .i64 n1, .int .i64 n2, .string key] S fun v _ => v = .bool true := by
  obtain ⟨base, cap, rfl⟩ := hl.len rmE
  refine J_by PR.mixed F.osierlaw10_TreeMoves.ok (by simp) ?_
  simp (disch := omega) only [go_sem, ↓reduceIte, Nat.reduceEqDiff, Nat.reduceAdd, Nat.reduceMul, Nat.reduceSub, Nat.reduceLT, Nat.reduceLeDiff, Nat.reduceBEq, reduceCtorEq, Int.reduceLT, Int.reduceEq, Int.reduceLE, Int.reduceAdd, Int.reduceSub, Int.reduceToNat, Int.reduceNeg]
  refine wJ_of F.osierlaw10_awake_J ?_; rintro _ _ ⟨rfl, rfl⟩
  simp (disch := omega) only [go_sem, ↓reduceIte, Nat.reduceEqDiff, Nat.reduceAdd, Nat.reduceMul, Nat.reduceSub, Nat.reduceLT, Nat.reduceLeDiff, Nat.reduceBEq, reduceCtorEq, Int.reduceLT, Int.reduceEq, Int.reduceLE, Int.reduceAdd, Int.reduceSub, Int.reduceToNat, Int.reduceNeg]
  refine wJ_of F.movetree_New_J ?_; rintro _ S1 ⟨q, Z1, rfl, T1, z1, g1⟩
  simp (disch := omega) only [go_sem, ↓reduceIte, Nat.reduceEqDiff, Nat.reduceAdd, Nat.reduceMul, Nat.reduceSub, Nat.reduceLT, Nat.reduceLeDiff, Nat.reduceBEq, reduceCtorEq, Int.reduceLT, Int.reduceEq, Int.reduceLE, Int.reduceAdd, Int.reduceSub, Int.reduceToNat, Int.reduceNeg]
  refine wC_at 0 (fun fr S2 => ∃ (L : List Mv) (Z : Nat → Prop), fr 1 = .int .i64 n1 ∧ fr 2 = .int .i64 n2 ∧ fr 3 = .string key ∧ fr 10 = ptrV q ∧ TreeT S2 Z q L ∧ GoodM L ∧ (∀ x ∈ L, x.time ≤ 1000000) ∧ (∀ j, Z j → S.n ≤ j) ∧ S.Ext S2 ∧ L.length ≤ 40) ?_ ?_
  · refine wC_loop (fun n fr S2 => ∃ (i : Nat) (L : List Mv) (Z : Nat → Prop), n = 40 - i ∧ i ≤ 40 ∧ i ≤ xs.length ∧ fr 0 = .slice base xs.length cap ∧ fr 1 = .int .i64 n1 ∧ fr 2 = .int .i64 n2 ∧ fr 3 = .string key ∧ fr 10 = ptrV q ∧ fr 11 = .int .i64 (i : Nat) ∧ TreeT S2 Z q L ∧ GoodM L ∧ (∀ x ∈ L, x.time ≤ 1000000) ∧
        (∀ j, Z j → S.n ≤ j) ∧ S.Ext S2 ∧ L.length ≤ i) 40
      ⟨0, [], Z1, by
        have e1 : GoodM [] := fun x hx => by simp at hx
        have e2 : ∀ x ∈ ([] : List Mv), x.time ≤ 1000000 := fun x hx => by simp at hx
        simp (disch := omega) only [go_sem, ↓reduceIte, Nat.reduceEqDiff, Nat.reduceAdd, Nat.reduceMul, Nat.reduceSub, Nat.reduceLT, Nat.reduceLeDiff, Nat.reduceBEq, reduceCtorEq, Int.reduceLT, Int.reduceEq, Int.reduceLE, Int.reduceAdd, Int.reduceSub, Int.reduceToNat, Int.reduceNeg]
        repeat' first | assumption | omega | (exact St.Ext.refl _) | (exact List.Perm.refl _) | rfl | refine And.intro ?_ ?_
        ⟩ ?_
    rintro n fr S2 ⟨i, L, Z, rfl, hi, hix, h0, h1, h2, h3, h10, h11, T2, hg, ht, hz, g2, hLi⟩
    simp (disch := omega) only [go_sem, ↓reduceIte, Nat.reduceEqDiff, Nat.reduceAdd, Nat.reduceMul, Nat.reduceSub, Nat.reduceLT, Nat.reduceLeDiff, Nat.reduceBEq, reduceCtorEq, Int.reduceLT, Int.reduceEq, Int.reduceLE, Int.reduceAdd, Int.reduceSub, Int.reduceToNat, Int.reduceNeg, F.osierlaw10_TreeMoves.l0, h0, h1, h2, h3, h10, h11]
    by_cases hx : i < xs.length
    rotate_left
    · have d1 : ¬ ((i : Int) < (xs.length : Int)) := by omega
      simp (disch := omega) only [go_sem, ↓reduceIte, Nat.reduceEqDiff, Nat.reduceAdd, Nat.reduceMul, Nat.reduceSub, Nat.reduceLT, Nat.reduceLeDiff, Nat.reduceBEq, reduceCtorEq, Int.reduceLT, Int.reduceEq, Int.reduceLE, Int.reduceAdd, Int.reduceSub, Int.reduceToNat, Int.reduceNeg, d1, h1, h2, h3, h10]
      refine ⟨L, Z, ?_⟩
      repeat' first | assumption | omega | (exact St.Ext.refl _) | (exact List.Perm.refl _) | rfl | refine And.intro ?_ ?_
    have d1 : (i : Int) < (xs.length : Int) := by omega
    by_cases hx6 : i < 40
    rotate_left
    · have d2 : ¬ ((i : Int) < 40) := by omega
      simp (disch := omega) only [go_sem, ↓reduceIte, Nat.reduceEqDiff, Nat.reduceAdd, Nat.reduceMul, Nat.reduceSub, Nat.reduceLT, Nat.reduceLeDiff, Nat.reduceBEq, reduceCtorEq, Int.reduceLT, Int.reduceEq, Int.reduceLE, Int.reduceAdd, Int.reduceSub, Int.reduceToNat, Int.reduceNeg, d1, d2, h1, h2, h3, h10, h11]
      refine ⟨L, Z, ?_⟩
      repeat' first | assumption | omega | (exact St.Ext.refl _) | (exact List.Perm.refl _) | rfl | refine And.intro ?_ ?_
    have d2 : (i : Int) < 40 := by omega
    have d3 : (0 : Int) ≤ (i : Int) ∧ (i : Int) < (xs.length : Int) := by omega
    have hs2 := hl.ext rmE g2
    obtain ⟨b, off, rfl, hb, ⟨x1, x2, x3, x4, x5⟩, x6⟩ := hs2.rm hx
    simp (disch := omega) only [go_sem, ↓reduceIte, Nat.reduceEqDiff, Nat.reduceAdd, Nat.reduceMul, Nat.reduceSub, Nat.reduceLT, Nat.reduceLeDiff, Nat.reduceBEq, reduceCtorEq, Int.reduceLT, Int.reduceEq, Int.reduceLE, Int.reduceAdd, Int.reduceSub, Int.reduceToNat, Int.reduceNeg, d1, d2, d3, h0, h10, h11, x1, x2, x3, x4, x5]
    refine wcond_dec (fun hbig => ?_) (fun hbig => ?_)
    · simp (disch := omega) only [go_sem, ↓reduceIte, Nat.reduceEqDiff, Nat.reduceAdd, Nat.reduceMul, Nat.reduceSub, Nat.reduceLT, Nat.reduceLeDiff, Nat.reduceBEq, reduceCtorEq, Int.reduceLT, Int.reduceEq, Int.reduceLE, Int.reduceAdd, Int.reduceSub, Int.reduceToNat, Int.reduceNeg]
    simp (disch := omega) only [go_sem, ↓reduceIte, Nat.reduceEqDiff, Nat.reduceAdd, Nat.reduceMul, Nat.reduceSub, Nat.reduceLT, Nat.reduceLeDiff, Nat.reduceBEq, reduceCtorEq, Int.reduceLT, Int.reduceEq, Int.reduceLE, Int.reduceAdd, Int.reduceSub, Int.reduceToNat, Int.reduceNeg, d3, h0, h1, h2, h3, h10, h11, x1, x2, x3, x4, x5]
    refine wJ_of (F.movetree_Tree_Move_J (m := xs[i]) T2 (by omega)) ?_; rintro _ S3 ⟨rfl, Z3, T3, z3, f3⟩
    have g3 : S.Ext S3 := g2.frm f3 hz
    have hz3 : ∀ j, Z3 j → S.n ≤ j := fun j hj => (z3 j hj).elim (hz j) (fun h => Nat.le_trans g2.n h)
    have hg3 := moveA_good hg xs[i]
    have ht3 : ∀ x ∈ (moveA L xs[i]).2, x.time ≤ 1000000 := fun x hx => by
      rcases moveA_mem hx with rfl | hx
      · omega
      · exact ht x hx
    have hl3 := moveA_len L xs[i]
    simp (disch := omega) only [go_sem, ↓reduceIte, Nat.reduceEqDiff, Nat.reduceAdd, Nat.reduceMul, Nat.reduceSub, Nat.reduceLT, Nat.reduceLeDiff, Nat.reduceBEq, reduceCtorEq, Int.reduceLT, Int.reduceEq, Int.reduceLE, Int.reduceAdd, Int.reduceSub, Int.reduceToNat, Int.reduceNeg, h0, h1, h2, h3, h10, h11]
    refine ⟨40 - (i + 1), by omega, i + 1, (moveA L xs[i]).2, Z3, ?_⟩
    repeat' first | assumption | omega | (exact St.Ext.refl _) | (exact List.Perm.refl _) | rfl | refine And.intro ?_ ?_
  rintro fr S2 ⟨L, Z, h1, h2, h3, h10, T2, hg, ht, hz, g2, hLi⟩
  simp (disch := omega) only [go_sem, ↓reduceIte, Nat.reduceEqDiff, Nat.reduceAdd, Nat.reduceMul, Nat.reduceSub, Nat.reduceLT, Nat.reduceLeDiff, Nat.reduceBEq, reduceCtorEq, Int.reduceLT, Int.reduceEq, Int.reduceLE, Int.reduceAdd, Int.reduceSub, Int.reduceToNat, Int.reduceNeg, h10]
  refine wJ_of (F.movetree_Tree_Blocks_J T2 (by omega)) ?_; rintro vb S3 ⟨hob, e3⟩
  have T3 := T2.ext e3
  have hsb := hob.sl dotE
  generalize hB : risen ((runS L).map Prod.fst) = B at *
  have hBm : ∀ d, d ∈ B ↔ (alook d (runS L)).isSome = true := fun d => by rw [← hB, (risen_ris _).2, alook_isSome]
  have hBl : B.length ≤ 40 := by
    have h1 := risen_len ((runS L).map Prod.fst)
    have h2 := runS_len L
    rw [hB] at h1
    simp at h1
    omega
  obtain ⟨bb, cb, hv⟩ := hsb.len dotE
  subst hv
  simp (disch := omega) only [go_sem, ↓reduceIte, Nat.reduceEqDiff, Nat.reduceAdd, Nat.reduceMul, Nat.reduceSub, Nat.reduceLT, Nat.reduceLeDiff, Nat.reduceBEq, reduceCtorEq, Int.reduceLT, Int.reduceEq, Int.reduceLE, Int.reduceAdd, Int.reduceSub, Int.reduceToNat, Int.reduceNeg]
  refine wcond_dec (fun hz0 => ?_) (fun hz0 => ?_)
  · simp (disch := omega) only [go_sem, ↓reduceIte, Nat.reduceEqDiff, Nat.reduceAdd, Nat.reduceMul, Nat.reduceSub, Nat.reduceLT, Nat.reduceLeDiff, Nat.reduceBEq, reduceCtorEq, Int.reduceLT, Int.reduceEq, Int.reduceLE, Int.reduceAdd, Int.reduceSub, Int.reduceToNat, Int.reduceNeg]
  have hBp : 0 < B.length := by omega
  have hBz : ¬ ((B.length : Int) = 0) := by omega
  by_cases s1 : n1 < 0
  · have q1 := hn1
    obtain ⟨A1, hA1⟩ : ∃ A1 : Int, A1 = 0 - (n1 + 1) := ⟨_, rfl⟩
    have a1 : 0 - (n1 + 1) = A1 := hA1.symm
    have ha1 : 0 ≤ A1 := by omega
    by_cases s2 : n2 < 0
    · have q2 := hn2
      obtain ⟨A2, hA2⟩ : ∃ A2 : Int, A2 = 0 - (n2 + 1) := ⟨_, rfl⟩
      have a2 : 0 - (n2 + 1) = A2 := hA2.symm
      have ha2 : 0 ≤ A2 := by omega
      simp (disch := omega) only [go_sem, ↓reduceIte, Nat.reduceEqDiff, Nat.reduceAdd, Nat.reduceMul, Nat.reduceSub, Nat.reduceLT, Nat.reduceLeDiff, Nat.reduceBEq, reduceCtorEq, Int.reduceLT, Int.reduceEq, Int.reduceLE, Int.reduceAdd, Int.reduceSub, Int.reduceToNat, Int.reduceNeg, h1, h2, s1, s2, a1, a2]
      obtain ⟨k1, hk1, hk1l⟩ := tmod_nat (a := A1) (n := B.length) ha1 hBp
      obtain ⟨b0, o0, rfl, hb0, l0⟩ := hsb.dot hk1l
      have c1 : (0 : Int) ≤ (k1 : Int) ∧ (k1 : Int) < (B.length : Int) := by omega
      simp (disch := omega) only [go_sem, ↓reduceIte, Nat.reduceEqDiff, Nat.reduceAdd, Nat.reduceMul, Nat.reduceSub, Nat.reduceLT, Nat.reduceLeDiff, Nat.reduceBEq, reduceCtorEq, Int.reduceLT, Int.reduceEq, Int.reduceLE, Int.reduceAdd, Int.reduceSub, Int.reduceToNat, Int.reduceNeg, h1, h2, h10, hBz, hk1, c1, l0]
      generalize hb : B[k1] = b at *
      have hbs : (alook b (runS L)).isSome = true := (hBm b).1 (hb ▸ List.getElem_mem hk1l)
      have hbn : ¬ noneP b := by obtain ⟨x, hx, e⟩ := key_block hbs; exact e ▸ (hg x hx).2
      refine walloc_x [.int .i64 0, .int .i64 0] fun y S4 e4 oy hy hyn => ?_
      simp (disch := omega) only [go_sem, ↓reduceIte, Nat.reduceEqDiff, Nat.reduceAdd, Nat.reduceMul, Nat.reduceSub, Nat.reduceLT, Nat.reduceLeDiff, Nat.reduceBEq, reduceCtorEq, Int.reduceLT, Int.reduceEq, Int.reduceLE, Int.reduceAdd, Int.reduceSub, Int.reduceToNat, Int.reduceNeg]
      refine wst_w [.int .i64 b.1, .int .i64 b.2] oy rfl rfl (by simp) (by simp) rfl fun S5 oy5 b5 hy5 => ?_
      have T5 := (T3.ext e4).but b5 (T3.off hyn)
      have fy5 : Off Z S5 y [.int .i64 b.1, .int .i64 b.2] := ⟨hy5, T3.off hyn y rfl, oy5⟩
      have g35 : S3.Ext S5 := e4.but b5 fun j hj => by simp [blkOf] at hj; omega
      simp (disch := omega) only [go_sem, ↓reduceIte, Nat.reduceEqDiff, Nat.reduceAdd, Nat.reduceMul, Nat.reduceSub, Nat.reduceLT, Nat.reduceLeDiff, Nat.reduceBEq, reduceCtorEq, Int.reduceLT, Int.reduceEq, Int.reduceLE, Int.reduceAdd, Int.reduceSub, Int.reduceToNat, Int.reduceNeg]
      refine wJ_of F.api_Trash_J ?_; rintro _ _ ⟨rfl, rfl⟩
      simp (disch := omega) only [go_sem, ↓reduceIte, Nat.reduceEqDiff, Nat.reduceAdd, Nat.reduceMul, Nat.reduceSub, Nat.reduceLT, Nat.reduceLeDiff, Nat.reduceBEq, reduceCtorEq, Int.reduceLT, Int.reduceEq, Int.reduceLE, Int.reduceAdd, Int.reduceSub, Int.reduceToNat, Int.reduceNeg]
      refine walloc_x [.int .i64 0, .int .i64 0] fun z S5' e5 oz hzb hzn => ?_
      simp (disch := omega) only [go_sem, ↓reduceIte, Nat.reduceEqDiff, Nat.reduceAdd, Nat.reduceMul, Nat.reduceSub, Nat.reduceLT, Nat.reduceLeDiff, Nat.reduceBEq, reduceCtorEq, Int.reduceLT, Int.reduceEq, Int.reduceLE, Int.reduceAdd, Int.reduceSub, Int.reduceToNat, Int.reduceNeg]
      refine wst_w [.int .i64 0, .int .i64 (-2)] oz rfl rfl (by simp) (by simp) rfl fun S6 oz6 b6 hz6 => ?_
      have T6 := (T5.ext e5).but b6 (T5.off hzn)
      have fz6 : Off Z S6 z [.int .i64 0, .int .i64 (-2)] := ⟨hz6, T5.off hzn z rfl, oz6⟩
      have fy6 := (fy5.ext e5).but b6 (by have := fy5.1; omega)
      have g36 : S3.Ext S6 := (g35.trans e5).but b6 fun j hj => by simp [blkOf] at hj; have := g35.n; omega
      obtain ⟨k2, hk2, hk2l⟩ := tmod_nat (a := A2) (n := B.length + 1) ha2 (Nat.succ_pos _)
      replace hk2 : A2.tmod ((B.length : Int) + 1) = k2 := hk2
      have hB1 : ¬ ((B.length : Int) + 1 = 0) := by omega
      by_cases hp2 : k2 < B.length
      · have i2 : (k2 : Int) < (B.length : Int) := by omega
        have c2 : (0 : Int) ≤ (k2 : Int) ∧ (k2 : Int) < (B.length : Int) := by omega
        obtain ⟨b0', o0', hbb, -, l2⟩ := (hsb.ext dotE g36).dot hp2
        injection hbb with hbb
        injection hbb with hb1 hb2
        subst hb1 hb2
        simp (disch := omega) only [go_sem, ↓reduceIte, Nat.reduceEqDiff, Nat.reduceAdd, Nat.reduceMul, Nat.reduceSub, Nat.reduceLT, Nat.reduceLeDiff, Nat.reduceBEq, reduceCtorEq, Int.reduceLT, Int.reduceEq, Int.reduceLE, Int.reduceAdd, Int.reduceSub, Int.reduceToNat, Int.reduceNeg, h1, h2, h10, hB1, hk2, i2, c2, l2]
        generalize hpe : B[k2] = p at *
        have hp : p = trashD ∨ (alook p (runS L)).isSome = true := .inr ((hBm p).1 (hpe ▸ List.getElem_mem hp2))
        refine wst_w [.int .i64 p.1, .int .i64 p.2] fz6.2.2 rfl rfl (by simp) (by simp) rfl fun S6' oz6' b6' hz6' => ?_
        have hyz : z ≠ y := by have := fy5.1; omega
        have T6 := T6.but b6' (T5.off hzn)
        have fz6 : Off Z S6' z [.int .i64 p.1, .int .i64 p.2] := ⟨hz6', T5.off hzn z rfl, oz6'⟩
        have fy6 := fy6.but b6' hyz
        have g36 : S3.Ext S6' := g36.but b6' fun j hj => by simp [blkOf] at hj; have := g35.n; omega
        obtain ⟨lm1, lm2, lm3⟩ := last_move (L := L) (b := b) (p := p) (key := key) (i := (99, 99)) (t := 1000001) hbs hp
        by_cases q1 : p = b
        · have e1 := eqV_d p b (decide_eq_true q1)
          simp (disch := omega) only [go_sem, ↓reduceIte, Nat.reduceEqDiff, Nat.reduceAdd, Nat.reduceMul, Nat.reduceSub, Nat.reduceLT, Nat.reduceLeDiff, Nat.reduceBEq, reduceCtorEq, Int.reduceLT, Int.reduceEq, Int.reduceLE, Int.reduceAdd, Int.reduceSub, Int.reduceToNat, Int.reduceNeg, h10, h3, fz6.l, fy6.l, e1]
          have hm : ¬ takesP (runS L) ⟨(99, 99), 1000001, p, key, b⟩ := fun h => (lm1.1 h).1 q1
          refine wJ_of (F.movetree_Tree_Parent_J (d := b) T6) ?_; rintro _ _ ⟨rfl, rfl⟩
          simp (disch := omega) only [go_sem, ↓reduceIte, Nat.reduceEqDiff, Nat.reduceAdd, Nat.reduceMul, Nat.reduceSub, Nat.reduceLT, Nat.reduceLeDiff, Nat.reduceBEq, reduceCtorEq, Int.reduceLT, Int.reduceEq, Int.reduceLE, Int.reduceAdd, Int.reduceSub, Int.reduceToNat, Int.reduceNeg, h10, h3, fy6.l, fz6.l]
          refine walloc_x [.int .i64 0, .int .i64 0] fun w S7 e7 ow hw hwn => ?_
          simp (disch := omega) only [go_sem, ↓reduceIte, Nat.reduceEqDiff, Nat.reduceAdd, Nat.reduceMul, Nat.reduceSub, Nat.reduceLT, Nat.reduceLeDiff, Nat.reduceBEq, reduceCtorEq, Int.reduceLT, Int.reduceEq, Int.reduceLE, Int.reduceAdd, Int.reduceSub, Int.reduceToNat, Int.reduceNeg, h10, h3]
          refine wst_w [.int .i64 ((alook b (runS L)).getD zSpot).1.1, .int .i64 ((alook b (runS L)).getD zSpot).1.2] ow rfl rfl (by simp) (by simp) rfl fun S8 ow8 b8 hw8 => ?_
          have T8 := (T6.ext e7).but b8 (T6.off hwn)
          have fw8 : Off Z S8 w [.int .i64 ((alook b (runS L)).getD zSpot).1.1, .int .i64 ((alook b (runS L)).getD zSpot).1.2] := ⟨hw8, T6.off hwn w rfl, ow8⟩
          have fy8 := (fy6.ext e7).but b8 (by have := fy6.1; omega)
          have fz8 := (fz6.ext e7).but b8 (by have := fz6.1; omega)
          simp (disch := omega) only [go_sem, ↓reduceIte, Nat.reduceEqDiff, Nat.reduceAdd, Nat.reduceMul, Nat.reduceSub, Nat.reduceLT, Nat.reduceLeDiff, Nat.reduceBEq, reduceCtorEq, Int.reduceLT, Int.reduceEq, Int.reduceLE, Int.reduceAdd, Int.reduceSub, Int.reduceToNat, Int.reduceNeg, h10, h3, fy8.l, fz8.l]
          refine walloc_x [.int .i64 0, .int .i64 0] fun u S9 e9 ou hu hun => ?_
          simp (disch := omega) only [go_sem, ↓reduceIte, Nat.reduceEqDiff, Nat.reduceAdd, Nat.reduceMul, Nat.reduceSub, Nat.reduceLT, Nat.reduceLeDiff, Nat.reduceBEq, reduceCtorEq, Int.reduceLT, Int.reduceEq, Int.reduceLE, Int.reduceAdd, Int.reduceSub, Int.reduceToNat, Int.reduceNeg, h10, h3]
          refine wst_w [.int .i64 99, .int .i64 99] ou rfl rfl (by simp) (by simp) rfl fun S10 ou10 b10 hu10 => ?_
          have T10 := (T8.ext e9).but b10 (T8.off hun)
          have fu10 : Off Z S10 u [.int .i64 99, .int .i64 99] := ⟨hu10, T8.off hun u rfl, ou10⟩
          have fw10 := (fw8.ext e9).but b10 (by have := fw8.1; omega)
          have fy10 := (fy8.ext e9).but b10 (by have := fy8.1; omega)
          have fz10 := (fz8.ext e9).but b10 (by have := fz8.1; omega)
          simp (disch := omega) only [go_sem, ↓reduceIte, Nat.reduceEqDiff, Nat.reduceAdd, Nat.reduceMul, Nat.reduceSub, Nat.reduceLT, Nat.reduceLeDiff, Nat.reduceBEq, reduceCtorEq, Int.reduceLT, Int.reduceEq, Int.reduceLE, Int.reduceAdd, Int.reduceSub, Int.reduceToNat, Int.reduceNeg, h10, h3, fy10.l, fz10.l, fu10.l, fw10.l]
          refine wJ_of (F.movetree_Tree_Move_J (m := ⟨(99, 99), 1000001, p, key, b⟩) T10 (by omega)) ?_; rintro _ S11 ⟨rfl, Z11, T11, z11, r11⟩
          have fu11 := fu10.step r11 z11
          have fw11 := fw10.step r11 z11
          have fy11 := fy10.step r11 z11
          have fz11 := fz10.step r11 z11
          have hnn : ¬ (noneP ((99, 99) : Dot) ∨ noneP b) := fun h => h.elim (by decide) hbn
          by_cases hid : ((99, 99) : Dot) ∈ L.map Mv.id
          · have em : moveA L ⟨(99, 99), 1000001, p, key, b⟩ = (32, L) := by
              unfold moveA
              rw [if_neg hnn, if_pos hid]
            have em1 : (moveA L ⟨(99, 99), 1000001, p, key, b⟩).1 = 32 := by rw [em]
            simp (disch := omega) only [go_sem, ↓reduceIte, Nat.reduceEqDiff, Nat.reduceAdd, Nat.reduceMul, Nat.reduceSub, Nat.reduceLT, Nat.reduceLeDiff, Nat.reduceBEq, reduceCtorEq, Int.reduceLT, Int.reduceEq, Int.reduceLE, Int.reduceAdd, Int.reduceSub, Int.reduceToNat, Int.reduceNeg, h10, h3, em1]
          have em : moveA L ⟨(99, 99), 1000001, p, key, b⟩ = (0, L ++ [⟨(99, 99), 1000001, p, key, b⟩]) := by
            unfold moveA
            rw [if_neg hnn, if_neg hid, insM_last fun x hx => by have := ht x hx; show x.time < 1000001; omega]
          have em1 : (moveA L ⟨(99, 99), 1000001, p, key, b⟩).1 = 0 := by rw [em]
          rw [em] at T11
          simp only at T11
          have hlook : alook b (runS (L ++ [⟨(99, 99), 1000001, p, key, b⟩])) = if takesP (runS L) ⟨(99, 99), 1000001, p, key, b⟩ then some (p, key) else alook b (runS L) := by rw [runS_snoc]; exact lm2
          simp (disch := omega) only [go_sem, ↓reduceIte, Nat.reduceEqDiff, Nat.reduceAdd, Nat.reduceMul, Nat.reduceSub, Nat.reduceLT, Nat.reduceLeDiff, Nat.reduceBEq, reduceCtorEq, Int.reduceLT, Int.reduceEq, Int.reduceLE, Int.reduceAdd, Int.reduceSub, Int.reduceToNat, Int.reduceNeg, h10, h3, em1, fy11.l]
          refine wJ_of (F.movetree_Tree_Parent_J (d := b) T11) ?_; rintro _ _ ⟨rfl, rfl⟩
          rw [hlook]
          simp (disch := omega) only [go_sem, ↓reduceIte, Nat.reduceEqDiff, Nat.reduceAdd, Nat.reduceMul, Nat.reduceSub, Nat.reduceLT, Nat.reduceLeDiff, Nat.reduceBEq, reduceCtorEq, Int.reduceLT, Int.reduceEq, Int.reduceLE, Int.reduceAdd, Int.reduceSub, Int.reduceToNat, Int.reduceNeg, h10, h3]
          refine walloc_x [.int .i64 0, .int .i64 0] fun t S12 e12 ot ht' htn => ?_
          have T12 := T11.ext e12
          have fu12 := fu11.ext e12
          have fw12 := fw11.ext e12
          have fy12 := fy11.ext e12
          have fz12 := fz11.ext e12
          rw [if_neg hm]
          simp (disch := omega) only [go_sem, ↓reduceIte, Nat.reduceEqDiff, Nat.reduceAdd, Nat.reduceMul, Nat.reduceSub, Nat.reduceLT, Nat.reduceLeDiff, Nat.reduceBEq, reduceCtorEq, Int.reduceLT, Int.reduceEq, Int.reduceLE, Int.reduceAdd, Int.reduceSub, Int.reduceToNat, Int.reduceNeg, h10, h3]
          refine wst_w [.int .i64 ((alook b (runS L)).getD zSpot).1.1, .int .i64 ((alook b (runS L)).getD zSpot).1.2] ot rfl rfl (by simp) (by simp) rfl fun S13 ot13 b13 ht13 => ?_
          have T13 := T12.but b13 (T11.off htn)
          have ft13 : Off Z11 S13 t [.int .i64 ((alook b (runS L)).getD zSpot).1.1, .int .i64 ((alook b (runS L)).getD zSpot).1.2] := ⟨ht13, T11.off htn t rfl, ot13⟩
          have fu13 := fu12.but b13 (by have := fu11.1; omega)
          have fw13 := fw12.but b13 (by have := fw11.1; omega)
          have fy13 := fy12.but b13 (by have := fy11.1; omega)
          have fz13 := fz12.but b13 (by have := fz11.1; omega)
          simp (disch := omega) only [go_sem, ↓reduceIte, Nat.reduceEqDiff, Nat.reduceAdd, Nat.reduceMul, Nat.reduceSub, Nat.reduceLT, Nat.reduceLeDiff, Nat.reduceBEq, reduceCtorEq, Int.reduceLT, Int.reduceEq, Int.reduceLE, Int.reduceAdd, Int.reduceSub, Int.reduceToNat, Int.reduceNeg, h10, h3, em1, hbs, fu13.l, fy13.l, fz13.l]
          refine wJ_of (F.movetree_Tree_Took_J (d := (99, 99)) T13 (by simp; omega)) ?_; rintro _ _ ⟨rfl, rfl⟩
          have dt : decide (tookP (L ++ [⟨(99, 99), 1000001, p, key, b⟩]) (99, 99)) = false := decide_eq_false fun h => hm ((tookP_snoc (m := ⟨(99, 99), 1000001, p, key, b⟩) hid).1 h)
          have epp := eqV_d ((alook b (runS L)).getD zSpot).1 ((alook b (runS L)).getD zSpot).1 (t := true) (by simp)
          have ekk : (((alook b (runS L)).getD zSpot).2 == ((alook b (runS L)).getD zSpot).2) = true := by rw [ba_beq]; simp
          simp (disch := omega) only [go_sem, ↓reduceIte, Nat.reduceEqDiff, Nat.reduceAdd, Nat.reduceMul, Nat.reduceSub, Nat.reduceLT, Nat.reduceLeDiff, Nat.reduceBEq, reduceCtorEq, Int.reduceLT, Int.reduceEq, Int.reduceLE, Int.reduceAdd, Int.reduceSub, Int.reduceToNat, Int.reduceNeg, h10, h3, dt, epp, ekk, ft13.l, fz13.l, fw13.l]
          refine wJ_of (F.movetree_Tree_Blocks_J T13 (by simp; omega)) ?_; rintro vb2 S14 ⟨hob2, e14⟩
          have hB2 : risen ((runS (L ++ [⟨(99, 99), 1000001, p, key, b⟩])).map Prod.fst) = B := by
            rw [← hB, runS_snoc]
            exact risen_congr lm3
          rw [hB2] at hob2
          have k8 : S3.Ext S8 := (g36.trans e7).but b8 fun j hj => by simp [blkOf] at hj; have := g36.n; omega
          have k10 : S3.Ext S10 := (k8.trans e9).but b10 fun j hj => by simp [blkOf] at hj; have := k8.n; omega
          have w10 := hob.ext dotE k10
          have w11 := w10.congr dotE r11.n fun c _ _ hv hc => r11.obj c hc fun e => by
            have h1 := (hob.blk dotE c (by rw [hv]; rfl)).1
            have h2 := T2.1 c e
            omega
          have w13 := (w11.ext dotE e12).but dotE b13 fun j hj => by have := (w11.blk dotE j hj).2; simp [blkOf]; omega
          have w14 := w13.ext dotE e14
          simp (disch := omega) only [go_sem, ↓reduceIte, Nat.reduceEqDiff, Nat.reduceAdd, Nat.reduceMul, Nat.reduceSub, Nat.reduceLT, Nat.reduceLeDiff, Nat.reduceBEq, reduceCtorEq, Int.reduceLT, Int.reduceEq, Int.reduceLE, Int.reduceAdd, Int.reduceSub, Int.reduceToNat, Int.reduceNeg, h10, h3]
          refine wJ_of (F.osierref03_Same.J (hob2.sl dotE) (w14.sl dotE) (by omega)) ?_; rintro _ _ ⟨rfl, rfl⟩
          simp (disch := omega) only [go_sem, ↓reduceIte, Nat.reduceEqDiff, Nat.reduceAdd, Nat.reduceMul, Nat.reduceSub, Nat.reduceLT, Nat.reduceLeDiff, Nat.reduceBEq, reduceCtorEq, Int.reduceLT, Int.reduceEq, Int.reduceLE, Int.reduceAdd, Int.reduceSub, Int.reduceToNat, Int.reduceNeg, h10, h3]
        have e1 := eqV_d p b (decide_eq_false q1)
        simp (disch := omega) only [go_sem, ↓reduceIte, Nat.reduceEqDiff, Nat.reduceAdd, Nat.reduceMul, Nat.reduceSub, Nat.reduceLT, Nat.reduceLeDiff, Nat.reduceBEq, reduceCtorEq, Int.reduceLT, Int.reduceEq, Int.reduceLE, Int.reduceAdd, Int.reduceSub, Int.reduceToNat, Int.reduceNeg, h10, h3, fz6.l, fy6.l, e1]
        refine wJ_of (F.movetree_Tree_Path_T (b := p) T6 (by omega)) ?_; rintro vp Sp ⟨hop, ep⟩
        have T6 := T6.ext ep
        have fy6 := fy6.ext ep
        have fz6 := fz6.ext ep
        have g36 := g36.trans ep
        have hpl : (pathA (runS L) p).length < 4611686018427387904 := by have h1 := ((okS_run L).pth p).len; have h2 := runS_len L; omega
        simp (disch := omega) only [go_sem, ↓reduceIte, Nat.reduceEqDiff, Nat.reduceAdd, Nat.reduceMul, Nat.reduceSub, Nat.reduceLT, Nat.reduceLeDiff, Nat.reduceBEq, reduceCtorEq, Int.reduceLT, Int.reduceEq, Int.reduceLE, Int.reduceAdd, Int.reduceSub, Int.reduceToNat, Int.reduceNeg, h10, h3, fy6.l]
        refine wJ_of (F.osierref03_In_P (hop.sl dotE) hpl) ?_; rintro _ _ ⟨rfl, rfl⟩
        by_cases q2 : b ∈ pathA (runS L) p
        · have dq : decide (b ∈ pathA (runS L) p) = true := decide_eq_true q2
          simp (disch := omega) only [go_sem, ↓reduceIte, Nat.reduceEqDiff, Nat.reduceAdd, Nat.reduceMul, Nat.reduceSub, Nat.reduceLT, Nat.reduceLeDiff, Nat.reduceBEq, reduceCtorEq, Int.reduceLT, Int.reduceEq, Int.reduceLE, Int.reduceAdd, Int.reduceSub, Int.reduceToNat, Int.reduceNeg, h10, h3, fy6.l, fz6.l, dq]
          have hm : ¬ takesP (runS L) ⟨(99, 99), 1000001, p, key, b⟩ := fun h => (lm1.1 h).2 q2
          refine wJ_of (F.movetree_Tree_Parent_J (d := b) T6) ?_; rintro _ _ ⟨rfl, rfl⟩
          simp (disch := omega) only [go_sem, ↓reduceIte, Nat.reduceEqDiff, Nat.reduceAdd, Nat.reduceMul, Nat.reduceSub, Nat.reduceLT, Nat.reduceLeDiff, Nat.reduceBEq, reduceCtorEq, Int.reduceLT, Int.reduceEq, Int.reduceLE, Int.reduceAdd, Int.reduceSub, Int.reduceToNat, Int.reduceNeg, h10, h3, fy6.l, fz6.l]
          refine walloc_x [.int .i64 0, .int .i64 0] fun w S7 e7 ow hw hwn => ?_
          simp (disch := omega) only [go_sem, ↓reduceIte, Nat.reduceEqDiff, Nat.reduceAdd, Nat.reduceMul, Nat.reduceSub, Nat.reduceLT, Nat.reduceLeDiff, Nat.reduceBEq, reduceCtorEq, Int.reduceLT, Int.reduceEq, Int.reduceLE, Int.reduceAdd, Int.reduceSub, Int.reduceToNat, Int.reduceNeg, h10, h3]
          refine wst_w [.int .i64 ((alook b (runS L)).getD zSpot).1.1, .int .i64 ((alook b (runS L)).getD zSpot).1.2] ow rfl rfl (by simp) (by simp) rfl fun S8 ow8 b8 hw8 => ?_
          have T8 := (T6.ext e7).but b8 (T6.off hwn)
          have fw8 : Off Z S8 w [.int .i64 ((alook b (runS L)).getD zSpot).1.1, .int .i64 ((alook b (runS L)).getD zSpot).1.2] := ⟨hw8, T6.off hwn w rfl, ow8⟩
          have fy8 := (fy6.ext e7).but b8 (by have := fy6.1; omega)
          have fz8 := (fz6.ext e7).but b8 (by have := fz6.1; omega)
          simp (disch := omega) only [go_sem, ↓reduceIte, Nat.reduceEqDiff, Nat.reduceAdd, Nat.reduceMul, Nat.reduceSub, Nat.reduceLT, Nat.reduceLeDiff, Nat.reduceBEq, reduceCtorEq, Int.reduceLT, Int.reduceEq, Int.reduceLE, Int.reduceAdd, Int.reduceSub, Int.reduceToNat, Int.reduceNeg, h10, h3, fy8.l, fz8.l]
          refine walloc_x [.int .i64 0, .int .i64 0] fun u S9 e9 ou hu hun => ?_
          simp (disch := omega) only [go_sem, ↓reduceIte, Nat.reduceEqDiff, Nat.reduceAdd, Nat.reduceMul, Nat.reduceSub, Nat.reduceLT, Nat.reduceLeDiff, Nat.reduceBEq, reduceCtorEq, Int.reduceLT, Int.reduceEq, Int.reduceLE, Int.reduceAdd, Int.reduceSub, Int.reduceToNat, Int.reduceNeg, h10, h3]
          refine wst_w [.int .i64 99, .int .i64 99] ou rfl rfl (by simp) (by simp) rfl fun S10 ou10 b10 hu10 => ?_
          have T10 := (T8.ext e9).but b10 (T8.off hun)
          have fu10 : Off Z S10 u [.int .i64 99, .int .i64 99] := ⟨hu10, T8.off hun u rfl, ou10⟩
          have fw10 := (fw8.ext e9).but b10 (by have := fw8.1; omega)
          have fy10 := (fy8.ext e9).but b10 (by have := fy8.1; omega)
          have fz10 := (fz8.ext e9).but b10 (by have := fz8.1; omega)
          simp (disch := omega) only [go_sem, ↓reduceIte, Nat.reduceEqDiff, Nat.reduceAdd, Nat.reduceMul, Nat.reduceSub, Nat.reduceLT, Nat.reduceLeDiff, Nat.reduceBEq, reduceCtorEq, Int.reduceLT, Int.reduceEq, Int.reduceLE, Int.reduceAdd, Int.reduceSub, Int.reduceToNat, Int.reduceNeg, h10, h3, fy10.l, fz10.l, fu10.l, fw10.l]
          refine wJ_of (F.movetree_Tree_Move_J (m := ⟨(99, 99), 1000001, p, key, b⟩) T10 (by omega)) ?_; rintro _ S11 ⟨rfl, Z11, T11, z11, r11⟩
          have fu11 := fu10.step r11 z11
          have fw11 := fw10.step r11 z11
          have fy11 := fy10.step r11 z11
          have fz11 := fz10.step r11 z11
          have hnn : ¬ (noneP ((99, 99) : Dot) ∨ noneP b) := fun h => h.elim (by decide) hbn
          by_cases hid : ((99, 99) : Dot) ∈ L.map Mv.id
          · have em : moveA L ⟨(99, 99), 1000001, p, key, b⟩ = (32, L) := by
              unfold moveA
              rw [if_neg hnn, if_pos hid]
            have em1 : (moveA L ⟨(99, 99), 1000001, p, key, b⟩).1 = 32 := by rw [em]
            simp (disch := omega) only [go_sem, ↓reduceIte, Nat.reduceEqDiff, Nat.reduceAdd, Nat.reduceMul, Nat.reduceSub, Nat.reduceLT, Nat.reduceLeDiff, Nat.reduceBEq, reduceCtorEq, Int.reduceLT, Int.reduceEq, Int.reduceLE, Int.reduceAdd, Int.reduceSub, Int.reduceToNat, Int.reduceNeg, h10, h3, em1]
          have em : moveA L ⟨(99, 99), 1000001, p, key, b⟩ = (0, L ++ [⟨(99, 99), 1000001, p, key, b⟩]) := by
            unfold moveA
            rw [if_neg hnn, if_neg hid, insM_last fun x hx => by have := ht x hx; show x.time < 1000001; omega]
          have em1 : (moveA L ⟨(99, 99), 1000001, p, key, b⟩).1 = 0 := by rw [em]
          rw [em] at T11
          simp only at T11
          have hlook : alook b (runS (L ++ [⟨(99, 99), 1000001, p, key, b⟩])) = if takesP (runS L) ⟨(99, 99), 1000001, p, key, b⟩ then some (p, key) else alook b (runS L) := by rw [runS_snoc]; exact lm2
          simp (disch := omega) only [go_sem, ↓reduceIte, Nat.reduceEqDiff, Nat.reduceAdd, Nat.reduceMul, Nat.reduceSub, Nat.reduceLT, Nat.reduceLeDiff, Nat.reduceBEq, reduceCtorEq, Int.reduceLT, Int.reduceEq, Int.reduceLE, Int.reduceAdd, Int.reduceSub, Int.reduceToNat, Int.reduceNeg, h10, h3, em1, fy11.l]
          refine wJ_of (F.movetree_Tree_Parent_J (d := b) T11) ?_; rintro _ _ ⟨rfl, rfl⟩
          rw [hlook]
          simp (disch := omega) only [go_sem, ↓reduceIte, Nat.reduceEqDiff, Nat.reduceAdd, Nat.reduceMul, Nat.reduceSub, Nat.reduceLT, Nat.reduceLeDiff, Nat.reduceBEq, reduceCtorEq, Int.reduceLT, Int.reduceEq, Int.reduceLE, Int.reduceAdd, Int.reduceSub, Int.reduceToNat, Int.reduceNeg, h10, h3]
          refine walloc_x [.int .i64 0, .int .i64 0] fun t S12 e12 ot ht' htn => ?_
          have T12 := T11.ext e12
          have fu12 := fu11.ext e12
          have fw12 := fw11.ext e12
          have fy12 := fy11.ext e12
          have fz12 := fz11.ext e12
          rw [if_neg hm]
          simp (disch := omega) only [go_sem, ↓reduceIte, Nat.reduceEqDiff, Nat.reduceAdd, Nat.reduceMul, Nat.reduceSub, Nat.reduceLT, Nat.reduceLeDiff, Nat.reduceBEq, reduceCtorEq, Int.reduceLT, Int.reduceEq, Int.reduceLE, Int.reduceAdd, Int.reduceSub, Int.reduceToNat, Int.reduceNeg, h10, h3]
          refine wst_w [.int .i64 ((alook b (runS L)).getD zSpot).1.1, .int .i64 ((alook b (runS L)).getD zSpot).1.2] ot rfl rfl (by simp) (by simp) rfl fun S13 ot13 b13 ht13 => ?_
          have T13 := T12.but b13 (T11.off htn)
          have ft13 : Off Z11 S13 t [.int .i64 ((alook b (runS L)).getD zSpot).1.1, .int .i64 ((alook b (runS L)).getD zSpot).1.2] := ⟨ht13, T11.off htn t rfl, ot13⟩
          have fu13 := fu12.but b13 (by have := fu11.1; omega)
          have fw13 := fw12.but b13 (by have := fw11.1; omega)
          have fy13 := fy12.but b13 (by have := fy11.1; omega)
          have fz13 := fz12.but b13 (by have := fz11.1; omega)
          simp (disch := omega) only [go_sem, ↓reduceIte, Nat.reduceEqDiff, Nat.reduceAdd, Nat.reduceMul, Nat.reduceSub, Nat.reduceLT, Nat.reduceLeDiff, Nat.reduceBEq, reduceCtorEq, Int.reduceLT, Int.reduceEq, Int.reduceLE, Int.reduceAdd, Int.reduceSub, Int.reduceToNat, Int.reduceNeg, h10, h3, em1, hbs, fu13.l, fy13.l, fz13.l]
          refine wJ_of (F.movetree_Tree_Took_J (d := (99, 99)) T13 (by simp; omega)) ?_; rintro _ _ ⟨rfl, rfl⟩
          have dt : decide (tookP (L ++ [⟨(99, 99), 1000001, p, key, b⟩]) (99, 99)) = false := decide_eq_false fun h => hm ((tookP_snoc (m := ⟨(99, 99), 1000001, p, key, b⟩) hid).1 h)
          have epp := eqV_d ((alook b (runS L)).getD zSpot).1 ((alook b (runS L)).getD zSpot).1 (t := true) (by simp)
          have ekk : (((alook b (runS L)).getD zSpot).2 == ((alook b (runS L)).getD zSpot).2) = true := by rw [ba_beq]; simp
          simp (disch := omega) only [go_sem, ↓reduceIte, Nat.reduceEqDiff, Nat.reduceAdd, Nat.reduceMul, Nat.reduceSub, Nat.reduceLT, Nat.reduceLeDiff, Nat.reduceBEq, reduceCtorEq, Int.reduceLT, Int.reduceEq, Int.reduceLE, Int.reduceAdd, Int.reduceSub, Int.reduceToNat, Int.reduceNeg, h10, h3, dt, epp, ekk, ft13.l, fz13.l, fw13.l]
          refine wJ_of (F.movetree_Tree_Blocks_J T13 (by simp; omega)) ?_; rintro vb2 S14 ⟨hob2, e14⟩
          have hB2 : risen ((runS (L ++ [⟨(99, 99), 1000001, p, key, b⟩])).map Prod.fst) = B := by
            rw [← hB, runS_snoc]
            exact risen_congr lm3
          rw [hB2] at hob2
          have k8 : S3.Ext S8 := (g36.trans e7).but b8 fun j hj => by simp [blkOf] at hj; have := g36.n; omega
          have k10 : S3.Ext S10 := (k8.trans e9).but b10 fun j hj => by simp [blkOf] at hj; have := k8.n; omega
          have w10 := hob.ext dotE k10
          have w11 := w10.congr dotE r11.n fun c _ _ hv hc => r11.obj c hc fun e => by
            have h1 := (hob.blk dotE c (by rw [hv]; rfl)).1
            have h2 := T2.1 c e
            omega
          have w13 := (w11.ext dotE e12).but dotE b13 fun j hj => by have := (w11.blk dotE j hj).2; simp [blkOf]; omega
          have w14 := w13.ext dotE e14
          simp (disch := omega) only [go_sem, ↓reduceIte, Nat.reduceEqDiff, Nat.reduceAdd, Nat.reduceMul, Nat.reduceSub, Nat.reduceLT, Nat.reduceLeDiff, Nat.reduceBEq, reduceCtorEq, Int.reduceLT, Int.reduceEq, Int.reduceLE, Int.reduceAdd, Int.reduceSub, Int.reduceToNat, Int.reduceNeg, h10, h3]
          refine wJ_of (F.osierref03_Same.J (hob2.sl dotE) (w14.sl dotE) (by omega)) ?_; rintro _ _ ⟨rfl, rfl⟩
          simp (disch := omega) only [go_sem, ↓reduceIte, Nat.reduceEqDiff, Nat.reduceAdd, Nat.reduceMul, Nat.reduceSub, Nat.reduceLT, Nat.reduceLeDiff, Nat.reduceBEq, reduceCtorEq, Int.reduceLT, Int.reduceEq, Int.reduceLE, Int.reduceAdd, Int.reduceSub, Int.reduceToNat, Int.reduceNeg, h10, h3]
        · have dq : decide (b ∈ pathA (runS L) p) = false := decide_eq_false q2
          simp (disch := omega) only [go_sem, ↓reduceIte, Nat.reduceEqDiff, Nat.reduceAdd, Nat.reduceMul, Nat.reduceSub, Nat.reduceLT, Nat.reduceLeDiff, Nat.reduceBEq, reduceCtorEq, Int.reduceLT, Int.reduceEq, Int.reduceLE, Int.reduceAdd, Int.reduceSub, Int.reduceToNat, Int.reduceNeg, h10, h3, fy6.l, fz6.l, dq]
          have hm : takesP (runS L) ⟨(99, 99), 1000001, p, key, b⟩ := lm1.2 ⟨q1, q2⟩
          refine wJ_of (F.movetree_Tree_Parent_J (d := b) T6) ?_; rintro _ _ ⟨rfl, rfl⟩
          simp (disch := omega) only [go_sem, ↓reduceIte, Nat.reduceEqDiff, Nat.reduceAdd, Nat.reduceMul, Nat.reduceSub, Nat.reduceLT, Nat.reduceLeDiff, Nat.reduceBEq, reduceCtorEq, Int.reduceLT, Int.reduceEq, Int.reduceLE, Int.reduceAdd, Int.reduceSub, Int.reduceToNat, Int.reduceNeg, h10, h3, fy6.l, fz6.l]
          refine walloc_x [.int .i64 0, .int .i64 0] fun w S7 e7 ow hw hwn => ?_
          simp (disch := omega) only [go_sem, ↓reduceIte, Nat.reduceEqDiff, Nat.reduceAdd, Nat.reduceMul, Nat.reduceSub, Nat.reduceLT, Nat.reduceLeDiff, Nat.reduceBEq, reduceCtorEq, Int.reduceLT, Int.reduceEq, Int.reduceLE, Int.reduceAdd, Int.reduceSub, Int.reduceToNat, Int.reduceNeg, h10, h3]
          refine wst_w [.int .i64 ((alook b (runS L)).getD zSpot).1.1, .int .i64 ((alook b (runS L)).getD zSpot).1.2] ow rfl rfl (by simp) (by simp) rfl fun S8 ow8 b8 hw8 => ?_
          have T8 := (T6.ext e7).but b8 (T6.off hwn)
          have fw8 : Off Z S8 w [.int .i64 ((alook b (runS L)).getD zSpot).1.1, .int .i64 ((alook b (runS L)).getD zSpot).1.2] := ⟨hw8, T6.off hwn w rfl, ow8⟩
          have fy8 := (fy6.ext e7).but b8 (by have := fy6.1; omega)
          have fz8 := (fz6.ext e7).but b8 (by have := fz6.1; omega)
          simp (disch := omega) only [go_sem, ↓reduceIte, Nat.reduceEqDiff, Nat.reduceAdd, Nat.reduceMul, Nat.reduceSub, Nat.reduceLT, Nat.reduceLeDiff, Nat.reduceBEq, reduceCtorEq, Int.reduceLT, Int.reduceEq, Int.reduceLE, Int.reduceAdd, Int.reduceSub, Int.reduceToNat, Int.reduceNeg, h10, h3, fy8.l, fz8.l]
          refine walloc_x [.int .i64 0, .int .i64 0] fun u S9 e9 ou hu hun => ?_
          simp (disch := omega) only [go_sem, ↓reduceIte, Nat.reduceEqDiff, Nat.reduceAdd, Nat.reduceMul, Nat.reduceSub, Nat.reduceLT, Nat.reduceLeDiff, Nat.reduceBEq, reduceCtorEq, Int.reduceLT, Int.reduceEq, Int.reduceLE, Int.reduceAdd, Int.reduceSub, Int.reduceToNat, Int.reduceNeg, h10, h3]
          refine wst_w [.int .i64 99, .int .i64 99] ou rfl rfl (by simp) (by simp) rfl fun S10 ou10 b10 hu10 => ?_
          have T10 := (T8.ext e9).but b10 (T8.off hun)
          have fu10 : Off Z S10 u [.int .i64 99, .int .i64 99] := ⟨hu10, T8.off hun u rfl, ou10⟩
          have fw10 := (fw8.ext e9).but b10 (by have := fw8.1; omega)
          have fy10 := (fy8.ext e9).but b10 (by have := fy8.1; omega)
          have fz10 := (fz8.ext e9).but b10 (by have := fz8.1; omega)
          simp (disch := omega) only [go_sem, ↓reduceIte, Nat.reduceEqDiff, Nat.reduceAdd, Nat.reduceMul, Nat.reduceSub, Nat.reduceLT, Nat.reduceLeDiff, Nat.reduceBEq, reduceCtorEq, Int.reduceLT, Int.reduceEq, Int.reduceLE, Int.reduceAdd, Int.reduceSub, Int.reduceToNat, Int.reduceNeg, h10, h3, fy10.l, fz10.l, fu10.l, fw10.l]
          refine wJ_of (F.movetree_Tree_Move_J (m := ⟨(99, 99), 1000001, p, key, b⟩) T10 (by omega)) ?_; rintro _ S11 ⟨rfl, Z11, T11, z11, r11⟩
          have fu11 := fu10.step r11 z11
          have fw11 := fw10.step r11 z11
          have fy11 := fy10.step r11 z11
          have fz11 := fz10.step r11 z11
          have hnn : ¬ (noneP ((99, 99) : Dot) ∨ noneP b) := fun h => h.elim (by decide) hbn
          by_cases hid : ((99, 99) : Dot) ∈ L.map Mv.id
          · have em : moveA L ⟨(99, 99), 1000001, p, key, b⟩ = (32, L) := by
              unfold moveA
              rw [if_neg hnn, if_pos hid]
            have em1 : (moveA L ⟨(99, 99), 1000001, p, key, b⟩).1 = 32 := by rw [em]
            simp (disch := omega) only [go_sem, ↓reduceIte, Nat.reduceEqDiff, Nat.reduceAdd, Nat.reduceMul, Nat.reduceSub, Nat.reduceLT, Nat.reduceLeDiff, Nat.reduceBEq, reduceCtorEq, Int.reduceLT, Int.reduceEq, Int.reduceLE, Int.reduceAdd, Int.reduceSub, Int.reduceToNat, Int.reduceNeg, h10, h3, em1]
          have em : moveA L ⟨(99, 99), 1000001, p, key, b⟩ = (0, L ++ [⟨(99, 99), 1000001, p, key, b⟩]) := by
            unfold moveA
            rw [if_neg hnn, if_neg hid, insM_last fun x hx => by have := ht x hx; show x.time < 1000001; omega]
          have em1 : (moveA L ⟨(99, 99), 1000001, p, key, b⟩).1 = 0 := by rw [em]
          rw [em] at T11
          simp only at T11
          have hlook : alook b (runS (L ++ [⟨(99, 99), 1000001, p, key, b⟩])) = if takesP (runS L) ⟨(99, 99), 1000001, p, key, b⟩ then some (p, key) else alook b (runS L) := by rw [runS_snoc]; exact lm2
          simp (disch := omega) only [go_sem, ↓reduceIte, Nat.reduceEqDiff, Nat.reduceAdd, Nat.reduceMul, Nat.reduceSub, Nat.reduceLT, Nat.reduceLeDiff, Nat.reduceBEq, reduceCtorEq, Int.reduceLT, Int.reduceEq, Int.reduceLE, Int.reduceAdd, Int.reduceSub, Int.reduceToNat, Int.reduceNeg, h10, h3, em1, fy11.l]
          refine wJ_of (F.movetree_Tree_Parent_J (d := b) T11) ?_; rintro _ _ ⟨rfl, rfl⟩
          rw [hlook]
          simp (disch := omega) only [go_sem, ↓reduceIte, Nat.reduceEqDiff, Nat.reduceAdd, Nat.reduceMul, Nat.reduceSub, Nat.reduceLT, Nat.reduceLeDiff, Nat.reduceBEq, reduceCtorEq, Int.reduceLT, Int.reduceEq, Int.reduceLE, Int.reduceAdd, Int.reduceSub, Int.reduceToNat, Int.reduceNeg, h10, h3]
          refine walloc_x [.int .i64 0, .int .i64 0] fun t S12 e12 ot ht' htn => ?_
          have T12 := T11.ext e12
          have fu12 := fu11.ext e12
          have fw12 := fw11.ext e12
          have fy12 := fy11.ext e12
          have fz12 := fz11.ext e12
          rw [if_pos hm]
          simp (disch := omega) only [go_sem, ↓reduceIte, Nat.reduceEqDiff, Nat.reduceAdd, Nat.reduceMul, Nat.reduceSub, Nat.reduceLT, Nat.reduceLeDiff, Nat.reduceBEq, reduceCtorEq, Int.reduceLT, Int.reduceEq, Int.reduceLE, Int.reduceAdd, Int.reduceSub, Int.reduceToNat, Int.reduceNeg, h10, h3, Option.getD_some]
          refine wst_w [.int .i64 p.1, .int .i64 p.2] ot rfl rfl (by simp) (by simp) rfl fun S13 ot13 b13 ht13 => ?_
          have T13 := T12.but b13 (T11.off htn)
          have ft13 : Off Z11 S13 t [.int .i64 p.1, .int .i64 p.2] := ⟨ht13, T11.off htn t rfl, ot13⟩
          have fu13 := fu12.but b13 (by have := fu11.1; omega)
          have fw13 := fw12.but b13 (by have := fw11.1; omega)
          have fy13 := fy12.but b13 (by have := fy11.1; omega)
          have fz13 := fz12.but b13 (by have := fz11.1; omega)
          simp (disch := omega) only [go_sem, ↓reduceIte, Nat.reduceEqDiff, Nat.reduceAdd, Nat.reduceMul, Nat.reduceSub, Nat.reduceLT, Nat.reduceLeDiff, Nat.reduceBEq, reduceCtorEq, Int.reduceLT, Int.reduceEq, Int.reduceLE, Int.reduceAdd, Int.reduceSub, Int.reduceToNat, Int.reduceNeg, h10, h3, em1, Option.isSome_some, fu13.l, fy13.l, fz13.l]
          refine wJ_of (F.movetree_Tree_Took_J (d := (99, 99)) T13 (by simp; omega)) ?_; rintro _ _ ⟨rfl, rfl⟩
          have dt : decide (tookP (L ++ [⟨(99, 99), 1000001, p, key, b⟩]) (99, 99)) = true := decide_eq_true ((tookP_snoc (m := ⟨(99, 99), 1000001, p, key, b⟩) hid).2 hm)
          have epp := eqV_d p p (t := true) (by simp)
          have ekk : (key == key) = true := by rw [ba_beq]; simp
          simp (disch := omega) only [go_sem, ↓reduceIte, Nat.reduceEqDiff, Nat.reduceAdd, Nat.reduceMul, Nat.reduceSub, Nat.reduceLT, Nat.reduceLeDiff, Nat.reduceBEq, reduceCtorEq, Int.reduceLT, Int.reduceEq, Int.reduceLE, Int.reduceAdd, Int.reduceSub, Int.reduceToNat, Int.reduceNeg, h10, h3, dt, epp, ekk, ft13.l, fz13.l, fw13.l]
          refine wJ_of (F.movetree_Tree_Blocks_J T13 (by simp; omega)) ?_; rintro vb2 S14 ⟨hob2, e14⟩
          have hB2 : risen ((runS (L ++ [⟨(99, 99), 1000001, p, key, b⟩])).map Prod.fst) = B := by
            rw [← hB, runS_snoc]
            exact risen_congr lm3
          rw [hB2] at hob2
          have k8 : S3.Ext S8 := (g36.trans e7).but b8 fun j hj => by simp [blkOf] at hj; have := g36.n; omega
          have k10 : S3.Ext S10 := (k8.trans e9).but b10 fun j hj => by simp [blkOf] at hj; have := k8.n; omega
          have w10 := hob.ext dotE k10
          have w11 := w10.congr dotE r11.n fun c _ _ hv hc => r11.obj c hc fun e => by
            have h1 := (hob.blk dotE c (by rw [hv]; rfl)).1
            have h2 := T2.1 c e
            omega
          have w13 := (w11.ext dotE e12).but dotE b13 fun j hj => by have := (w11.blk dotE j hj).2; simp [blkOf]; omega
          have w14 := w13.ext dotE e14
          simp (disch := omega) only [go_sem, ↓reduceIte, Nat.reduceEqDiff, Nat.reduceAdd, Nat.reduceMul, Nat.reduceSub, Nat.reduceLT, Nat.reduceLeDiff, Nat.reduceBEq, reduceCtorEq, Int.reduceLT, Int.reduceEq, Int.reduceLE, Int.reduceAdd, Int.reduceSub, Int.reduceToNat, Int.reduceNeg, h10, h3]
          refine wJ_of (F.osierref03_Same.J (hob2.sl dotE) (w14.sl dotE) (by omega)) ?_; rintro _ _ ⟨rfl, rfl⟩
          simp (disch := omega) only [go_sem, ↓reduceIte, Nat.reduceEqDiff, Nat.reduceAdd, Nat.reduceMul, Nat.reduceSub, Nat.reduceLT, Nat.reduceLeDiff, Nat.reduceBEq, reduceCtorEq, Int.reduceLT, Int.reduceEq, Int.reduceLE, Int.reduceAdd, Int.reduceSub, Int.reduceToNat, Int.reduceNeg, h10, h3]
      · have i2 : ¬ ((k2 : Int) < (B.length : Int)) := by omega
        simp (disch := omega) only [go_sem, ↓reduceIte, Nat.reduceEqDiff, Nat.reduceAdd, Nat.reduceMul, Nat.reduceSub, Nat.reduceLT, Nat.reduceLeDiff, Nat.reduceBEq, reduceCtorEq, Int.reduceLT, Int.reduceEq, Int.reduceLE, Int.reduceAdd, Int.reduceSub, Int.reduceToNat, Int.reduceNeg, h1, h2, h10, hB1, hk2, i2]
        obtain ⟨p, hpe⟩ : ∃ p : Dot, p = (0, -2) := ⟨_, rfl⟩
        have hp : p = trashD ∨ (alook p (runS L)).isSome = true := .inl hpe
        replace fz6 : Off Z S6 z [.int .i64 p.1, .int .i64 p.2] := by rw [hpe]; exact fz6
        obtain ⟨lm1, lm2, lm3⟩ := last_move (L := L) (b := b) (p := p) (key := key) (i := (99, 99)) (t := 1000001) hbs hp
        by_cases q1 : p = b
        · have e1 := eqV_d p b (decide_eq_true q1)
          simp (disch := omega) only [go_sem, ↓reduceIte, Nat.reduceEqDiff, Nat.reduceAdd, Nat.reduceMul, Nat.reduceSub, Nat.reduceLT, Nat.reduceLeDiff, Nat.reduceBEq, reduceCtorEq, Int.reduceLT, Int.reduceEq, Int.reduceLE, Int.reduceAdd, Int.reduceSub, Int.reduceToNat, Int.reduceNeg, h10, h3, fz6.l, fy6.l, e1]
          have hm : ¬ takesP (runS L) ⟨(99, 99), 1000001, p, key, b⟩ := fun h => (lm1.1 h).1 q1
          refine wJ_of (F.movetree_Tree_Parent_J (d := b) T6) ?_; rintro _ _ ⟨rfl, rfl⟩
          simp (disch := omega) only [go_sem, ↓reduceIte, Nat.reduceEqDiff, Nat.reduceAdd, Nat.reduceMul, Nat.reduceSub, Nat.reduceLT, Nat.reduceLeDiff, Nat.reduceBEq, reduceCtorEq, Int.reduceLT, Int.reduceEq, Int.reduceLE, Int.reduceAdd, Int.reduceSub, Int.reduceToNat, Int.reduceNeg, h10, h3, fy6.l, fz6.l]
          refine walloc_x [.int .i64 0, .int .i64 0] fun w S7 e7 ow hw hwn => ?_
          simp (disch := omega) only [go_sem, ↓reduceIte, Nat.reduceEqDiff, Nat.reduceAdd, Nat.reduceMul, Nat.reduceSub, Nat.reduceLT, Nat.reduceLeDiff, Nat.reduceBEq, reduceCtorEq, Int.reduceLT, Int.reduceEq, Int.reduceLE, Int.reduceAdd, Int.reduceSub, Int.reduceToNat, Int.reduceNeg, h10, h3]
          refine wst_w [.int .i64 ((alook b (runS L)).getD zSpot).1.1, .int .i64 ((alook b (runS L)).getD zSpot).1.2] ow rfl rfl (by simp) (by simp) rfl fun S8 ow8 b8 hw8 => ?_
          have T8 := (T6.ext e7).but b8 (T6.off hwn)
          have fw8 : Off Z S8 w [.int .i64 ((alook b (runS L)).getD zSpot).1.1, .int .i64 ((alook b (runS L)).getD zSpot).1.2] := ⟨hw8, T6.off hwn w rfl, ow8⟩
          have fy8 := (fy6.ext e7).but b8 (by have := fy6.1; omega)
          have fz8 := (fz6.ext e7).but b8 (by have := fz6.1; omega)
          simp (disch := omega) only [go_sem, ↓reduceIte, Nat.reduceEqDiff, Nat.reduceAdd, Nat.reduceMul, Nat.reduceSub, Nat.reduceLT, Nat.reduceLeDiff, Nat.reduceBEq, reduceCtorEq, Int.reduceLT, Int.reduceEq, Int.reduceLE, Int.reduceAdd, Int.reduceSub, Int.reduceToNat, Int.reduceNeg, h10, h3, fy8.l, fz8.l]
          refine walloc_x [.int .i64 0, .int .i64 0] fun u S9 e9 ou hu hun => ?_
          simp (disch := omega) only [go_sem, ↓reduceIte, Nat.reduceEqDiff, Nat.reduceAdd, Nat.reduceMul, Nat.reduceSub, Nat.reduceLT, Nat.reduceLeDiff, Nat.reduceBEq, reduceCtorEq, Int.reduceLT, Int.reduceEq, Int.reduceLE, Int.reduceAdd, Int.reduceSub, Int.reduceToNat, Int.reduceNeg, h10, h3]
          refine wst_w [.int .i64 99, .int .i64 99] ou rfl rfl (by simp) (by simp) rfl fun S10 ou10 b10 hu10 => ?_
          have T10 := (T8.ext e9).but b10 (T8.off hun)
          have fu10 : Off Z S10 u [.int .i64 99, .int .i64 99] := ⟨hu10, T8.off hun u rfl, ou10⟩
          have fw10 := (fw8.ext e9).but b10 (by have := fw8.1; omega)
          have fy10 := (fy8.ext e9).but b10 (by have := fy8.1; omega)
          have fz10 := (fz8.ext e9).but b10 (by have := fz8.1; omega)
          simp (disch := omega) only [go_sem, ↓reduceIte, Nat.reduceEqDiff, Nat.reduceAdd, Nat.reduceMul, Nat.reduceSub, Nat.reduceLT, Nat.reduceLeDiff, Nat.reduceBEq, reduceCtorEq, Int.reduceLT, Int.reduceEq, Int.reduceLE, Int.reduceAdd, Int.reduceSub, Int.reduceToNat, Int.reduceNeg, h10, h3, fy10.l, fz10.l, fu10.l, fw10.l]
          refine wJ_of (F.movetree_Tree_Move_J (m := ⟨(99, 99), 1000001, p, key, b⟩) T10 (by omega)) ?_; rintro _ S11 ⟨rfl, Z11, T11, z11, r11⟩
          have fu11 := fu10.step r11 z11
          have fw11 := fw10.step r11 z11
          have fy11 := fy10.step r11 z11
          have fz11 := fz10.step r11 z11
          have hnn : ¬ (noneP ((99, 99) : Dot) ∨ noneP b) := fun h => h.elim (by decide) hbn
          by_cases hid : ((99, 99) : Dot) ∈ L.map Mv.id
          · have em : moveA L ⟨(99, 99), 1000001, p, key, b⟩ = (32, L) := by
              unfold moveA
              rw [if_neg hnn, if_pos hid]
            have em1 : (moveA L ⟨(99, 99), 1000001, p, key, b⟩).1 = 32 := by rw [em]
            simp (disch := omega) only [go_sem, ↓reduceIte, Nat.reduceEqDiff, Nat.reduceAdd, Nat.reduceMul, Nat.reduceSub, Nat.reduceLT, Nat.reduceLeDiff, Nat.reduceBEq, reduceCtorEq, Int.reduceLT, Int.reduceEq, Int.reduceLE, Int.reduceAdd, Int.reduceSub, Int.reduceToNat, Int.reduceNeg, h10, h3, em1]
          have em : moveA L ⟨(99, 99), 1000001, p, key, b⟩ = (0, L ++ [⟨(99, 99), 1000001, p, key, b⟩]) := by
            unfold moveA
            rw [if_neg hnn, if_neg hid, insM_last fun x hx => by have := ht x hx; show x.time < 1000001; omega]
          have em1 : (moveA L ⟨(99, 99), 1000001, p, key, b⟩).1 = 0 := by rw [em]
          rw [em] at T11
          simp only at T11
          have hlook : alook b (runS (L ++ [⟨(99, 99), 1000001, p, key, b⟩])) = if takesP (runS L) ⟨(99, 99), 1000001, p, key, b⟩ then some (p, key) else alook b (runS L) := by rw [runS_snoc]; exact lm2
          simp (disch := omega) only [go_sem, ↓reduceIte, Nat.reduceEqDiff, Nat.reduceAdd, Nat.reduceMul, Nat.reduceSub, Nat.reduceLT, Nat.reduceLeDiff, Nat.reduceBEq, reduceCtorEq, Int.reduceLT, Int.reduceEq, Int.reduceLE, Int.reduceAdd, Int.reduceSub, Int.reduceToNat, Int.reduceNeg, h10, h3, em1, fy11.l]
          refine wJ_of (F.movetree_Tree_Parent_J (d := b) T11) ?_; rintro _ _ ⟨rfl, rfl⟩
          rw [hlook]
          simp (disch := omega) only [go_sem, ↓reduceIte, Nat.reduceEqDiff, Nat.reduceAdd, Nat.reduceMul, Nat.reduceSub, Nat.reduceLT, Nat.reduceLeDiff, Nat.reduceBEq, reduceCtorEq, Int.reduceLT, Int.reduceEq, Int.reduceLE, Int.reduceAdd, Int.reduceSub, Int.reduceToNat, Int.reduceNeg, h10, h3]
          refine walloc_x [.int .i64 0, .int .i64 0] fun t S12 e12 ot ht' htn => ?_
          have T12 := T11.ext e12
          have fu12 := fu11.ext e12
          have fw12 := fw11.ext e12
          have fy12 := fy11.ext e12
          have fz12 := fz11.ext e12
          rw [if_neg hm]
          simp (disch := omega) only [go_sem, ↓reduceIte, Nat.reduceEqDiff, Nat.reduceAdd, Nat.reduceMul, Nat.reduceSub, Nat.reduceLT, Nat.reduceLeDiff, Nat.reduceBEq, reduceCtorEq, Int.reduceLT, Int.reduceEq, Int.reduceLE, Int.reduceAdd, Int.reduceSub, Int.reduceToNat, Int.reduceNeg, h10, h3]
          refine wst_w [.int .i64 ((alook b (runS L)).getD zSpot).1.1, .int .i64 ((alook b (runS L)).getD zSpot).1.2] ot rfl rfl (by simp) (by simp) rfl fun S13 ot13 b13 ht13 => ?_
          have T13 := T12.but b13 (T11.off htn)
          have ft13 : Off Z11 S13 t [.int .i64 ((alook b (runS L)).getD zSpot).1.1, .int .i64 ((alook b (runS L)).getD zSpot).1.2] := ⟨ht13, T11.off htn t rfl, ot13⟩
          have fu13 := fu12.but b13 (by have := fu11.1; omega)
          have fw13 := fw12.but b13 (by have := fw11.1; omega)
          have fy13 := fy12.but b13 (by have := fy11.1; omega)
          have fz13 := fz12.but b13 (by have := fz11.1; omega)
          simp (disch := omega) only [go_sem, ↓reduceIte, Nat.reduceEqDiff, Nat.reduceAdd, Nat.reduceMul, Nat.reduceSub, Nat.reduceLT, Nat.reduceLeDiff, Nat.reduceBEq, reduceCtorEq, Int.reduceLT, Int.reduceEq, Int.reduceLE, Int.reduceAdd, Int.reduceSub, Int.reduceToNat, Int.reduceNeg, h10, h3, em1, hbs, fu13.l, fy13.l, fz13.l]
          refine wJ_of (F.movetree_Tree_Took_J (d := (99, 99)) T13 (by simp; omega)) ?_; rintro _ _ ⟨rfl, rfl⟩
          have dt : decide (tookP (L ++ [⟨(99, 99), 1000001, p, key, b⟩]) (99, 99)) = false := decide_eq_false fun h => hm ((tookP_snoc (m := ⟨(99, 99), 1000001, p, key, b⟩) hid).1 h)
          have epp := eqV_d ((alook b (runS L)).getD zSpot).1 ((alook b (runS L)).getD zSpot).1 (t := true) (by simp)
          have ekk : (((alook b (runS L)).getD zSpot).2 == ((alook b (runS L)).getD zSpot).2) = true := by rw [ba_beq]; simp
          simp (disch := omega) only [go_sem, ↓reduceIte, Nat.reduceEqDiff, Nat.reduceAdd, Nat.reduceMul, Nat.reduceSub, Nat.reduceLT, Nat.reduceLeDiff, Nat.reduceBEq, reduceCtorEq, Int.reduceLT, Int.reduceEq, Int.reduceLE, Int.reduceAdd, Int.reduceSub, Int.reduceToNat, Int.reduceNeg, h10, h3, dt, epp, ekk, ft13.l, fz13.l, fw13.l]
          refine wJ_of (F.movetree_Tree_Blocks_J T13 (by simp; omega)) ?_; rintro vb2 S14 ⟨hob2, e14⟩
          have hB2 : risen ((runS (L ++ [⟨(99, 99), 1000001, p, key, b⟩])).map Prod.fst) = B := by
            rw [← hB, runS_snoc]
            exact risen_congr lm3
          rw [hB2] at hob2
          have k8 : S3.Ext S8 := (g36.trans e7).but b8 fun j hj => by simp [blkOf] at hj; have := g36.n; omega
          have k10 : S3.Ext S10 := (k8.trans e9).but b10 fun j hj => by simp [blkOf] at hj; have := k8.n; omega
          have w10 := hob.ext dotE k10
          have w11 := w10.congr dotE r11.n fun c _ _ hv hc => r11.obj c hc fun e => by
            have h1 := (hob.blk dotE c (by rw [hv]; rfl)).1
            have h2 := T2.1 c e
            omega
          have w13 := (w11.ext dotE e12).but dotE b13 fun j hj => by have := (w11.blk dotE j hj).2; simp [blkOf]; omega
          have w14 := w13.ext dotE e14
          simp (disch := omega) only [go_sem, ↓reduceIte, Nat.reduceEqDiff, Nat.reduceAdd, Nat.reduceMul, Nat.reduceSub, Nat.reduceLT, Nat.reduceLeDiff, Nat.reduceBEq, reduceCtorEq, Int.reduceLT, Int.reduceEq, Int.reduceLE, Int.reduceAdd, Int.reduceSub, Int.reduceToNat, Int.reduceNeg, h10, h3]
          refine wJ_of (F.osierref03_Same.J (hob2.sl dotE) (w14.sl dotE) (by omega)) ?_; rintro _ _ ⟨rfl, rfl⟩
          simp (disch := omega) only [go_sem, ↓reduceIte, Nat.reduceEqDiff, Nat.reduceAdd, Nat.reduceMul, Nat.reduceSub, Nat.reduceLT, Nat.reduceLeDiff, Nat.reduceBEq, reduceCtorEq, Int.reduceLT, Int.reduceEq, Int.reduceLE, Int.reduceAdd, Int.reduceSub, Int.reduceToNat, Int.reduceNeg, h10, h3]
        have e1 := eqV_d p b (decide_eq_false q1)
        simp (disch := omega) only [go_sem, ↓reduceIte, Nat.reduceEqDiff, Nat.reduceAdd, Nat.reduceMul, Nat.reduceSub, Nat.reduceLT, Nat.reduceLeDiff, Nat.reduceBEq, reduceCtorEq, Int.reduceLT, Int.reduceEq, Int.reduceLE, Int.reduceAdd, Int.reduceSub, Int.reduceToNat, Int.reduceNeg, h10, h3, fz6.l, fy6.l, e1]
        refine wJ_of (F.movetree_Tree_Path_T (b := p) T6 (by omega)) ?_; rintro vp Sp ⟨hop, ep⟩
        have T6 := T6.ext ep
        have fy6 := fy6.ext ep
        have fz6 := fz6.ext ep
        have g36 := g36.trans ep
        have hpl : (pathA (runS L) p).length < 4611686018427387904 := by have h1 := ((okS_run L).pth p).len; have h2 := runS_len L; omega
        simp (disch := omega) only [go_sem, ↓reduceIte, Nat.reduceEqDiff, Nat.reduceAdd, Nat.reduceMul, Nat.reduceSub, Nat.reduceLT, Nat.reduceLeDiff, Nat.reduceBEq, reduceCtorEq, Int.reduceLT, Int.reduceEq, Int.reduceLE, Int.reduceAdd, Int.reduceSub, Int.reduceToNat, Int.reduceNeg, h10, h3, fy6.l]
        refine wJ_of (F.osierref03_In_P (hop.sl dotE) hpl) ?_; rintro _ _ ⟨rfl, rfl⟩
        by_cases q2 : b ∈ pathA (runS L) p
        · have dq : decide (b ∈ pathA (runS L) p) = true := decide_eq_true q2
          simp (disch := omega) only [go_sem, ↓reduceIte, Nat.reduceEqDiff, Nat.reduceAdd, Nat.reduceMul, Nat.reduceSub, Nat.reduceLT, Nat.reduceLeDiff, Nat.reduceBEq, reduceCtorEq, Int.reduceLT, Int.reduceEq, Int.reduceLE, Int.reduceAdd, Int.reduceSub, Int.reduceToNat, Int.reduceNeg, h10, h3, fy6.l, fz6.l, dq]
          have hm : ¬ takesP (runS L) ⟨(99, 99), 1000001, p, key, b⟩ := fun h => (lm1.1 h).2 q2
          refine wJ_of (F.movetree_Tree_Parent_J (d := b) T6) ?_; rintro _ _ ⟨rfl, rfl⟩
          simp (disch := omega) only [go_sem, ↓reduceIte, Nat.reduceEqDiff, Nat.reduceAdd, Nat.reduceMul, Nat.reduceSub, Nat.reduceLT, Nat.reduceLeDiff, Nat.reduceBEq, reduceCtorEq, Int.reduceLT, Int.reduceEq, Int.reduceLE, Int.reduceAdd, Int.reduceSub, Int.reduceToNat, Int.reduceNeg, h10, h3, fy6.l, fz6.l]
          refine walloc_x [.int .i64 0, .int .i64 0] fun w S7 e7 ow hw hwn => ?_
          simp (disch := omega) only [go_sem, ↓reduceIte, Nat.reduceEqDiff, Nat.reduceAdd, Nat.reduceMul, Nat.reduceSub, Nat.reduceLT, Nat.reduceLeDiff, Nat.reduceBEq, reduceCtorEq, Int.reduceLT, Int.reduceEq, Int.reduceLE, Int.reduceAdd, Int.reduceSub, Int.reduceToNat, Int.reduceNeg, h10, h3]
          refine wst_w [.int .i64 ((alook b (runS L)).getD zSpot).1.1, .int .i64 ((alook b (runS L)).getD zSpot).1.2] ow rfl rfl (by simp) (by simp) rfl fun S8 ow8 b8 hw8 => ?_
          have T8 := (T6.ext e7).but b8 (T6.off hwn)
          have fw8 : Off Z S8 w [.int .i64 ((alook b (runS L)).getD zSpot).1.1, .int .i64 ((alook b (runS L)).getD zSpot).1.2] := ⟨hw8, T6.off hwn w rfl, ow8⟩
          have fy8 := (fy6.ext e7).but b8 (by have := fy6.1; omega)
          have fz8 := (fz6.ext e7).but b8 (by have := fz6.1; omega)
          simp (disch := omega) only [go_sem, ↓reduceIte, Nat.reduceEqDiff, Nat.reduceAdd, Nat.reduceMul, Nat.reduceSub, Nat.reduceLT, Nat.reduceLeDiff, Nat.reduceBEq, reduceCtorEq, Int.reduceLT, Int.reduceEq, Int.reduceLE, Int.reduceAdd, Int.reduceSub, Int.reduceToNat, Int.reduceNeg, h10, h3, fy8.l, fz8.l]
          refine walloc_x [.int .i64 0, .int .i64 0] fun u S9 e9 ou hu hun => ?_
          simp (disch := omega) only [go_sem, ↓reduceIte, Nat.reduceEqDiff, Nat.reduceAdd, Nat.reduceMul, Nat.reduceSub, Nat.reduceLT, Nat.reduceLeDiff, Nat.reduceBEq, reduceCtorEq, Int.reduceLT, Int.reduceEq, Int.reduceLE, Int.reduceAdd, Int.reduceSub, Int.reduceToNat, Int.reduceNeg, h10, h3]
          refine wst_w [.int .i64 99, .int .i64 99] ou rfl rfl (by simp) (by simp) rfl fun S10 ou10 b10 hu10 => ?_
          have T10 := (T8.ext e9).but b10 (T8.off hun)
          have fu10 : Off Z S10 u [.int .i64 99, .int .i64 99] := ⟨hu10, T8.off hun u rfl, ou10⟩
          have fw10 := (fw8.ext e9).but b10 (by have := fw8.1; omega)
          have fy10 := (fy8.ext e9).but b10 (by have := fy8.1; omega)
          have fz10 := (fz8.ext e9).but b10 (by have := fz8.1; omega)
          simp (disch := omega) only [go_sem, ↓reduceIte, Nat.reduceEqDiff, Nat.reduceAdd, Nat.reduceMul, Nat.reduceSub, Nat.reduceLT, Nat.reduceLeDiff, Nat.reduceBEq, reduceCtorEq, Int.reduceLT, Int.reduceEq, Int.reduceLE, Int.reduceAdd, Int.reduceSub, Int.reduceToNat, Int.reduceNeg, h10, h3, fy10.l, fz10.l, fu10.l, fw10.l]
          refine wJ_of (F.movetree_Tree_Move_J (m := ⟨(99, 99), 1000001, p, key, b⟩) T10 (by omega)) ?_; rintro _ S11 ⟨rfl, Z11, T11, z11, r11⟩
          have fu11 := fu10.step r11 z11
          have fw11 := fw10.step r11 z11
          have fy11 := fy10.step r11 z11
          have fz11 := fz10.step r11 z11
          have hnn : ¬ (noneP ((99, 99) : Dot) ∨ noneP b) := fun h => h.elim (by decide) hbn
          by_cases hid : ((99, 99) : Dot) ∈ L.map Mv.id
          · have em : moveA L ⟨(99, 99), 1000001, p, key, b⟩ = (32, L) := by
              unfold moveA
              rw [if_neg hnn, if_pos hid]
            have em1 : (moveA L ⟨(99, 99), 1000001, p, key, b⟩).1 = 32 := by rw [em]
            simp (disch := omega) only [go_sem, ↓reduceIte, Nat.reduceEqDiff, Nat.reduceAdd, Nat.reduceMul, Nat.reduceSub, Nat.reduceLT, Nat.reduceLeDiff, Nat.reduceBEq, reduceCtorEq, Int.reduceLT, Int.reduceEq, Int.reduceLE, Int.reduceAdd, Int.reduceSub, Int.reduceToNat, Int.reduceNeg, h10, h3, em1]
          have em : moveA L ⟨(99, 99), 1000001, p, key, b⟩ = (0, L ++ [⟨(99, 99), 1000001, p, key, b⟩]) := by
            unfold moveA
            rw [if_neg hnn, if_neg hid, insM_last fun x hx => by have := ht x hx; show x.time < 1000001; omega]
          have em1 : (moveA L ⟨(99, 99), 1000001, p, key, b⟩).1 = 0 := by rw [em]
          rw [em] at T11
          simp only at T11
          have hlook : alook b (runS (L ++ [⟨(99, 99), 1000001, p, key, b⟩])) = if takesP (runS L) ⟨(99, 99), 1000001, p, key, b⟩ then some (p, key) else alook b (runS L) := by rw [runS_snoc]; exact lm2
          simp (disch := omega) only [go_sem, ↓reduceIte, Nat.reduceEqDiff, Nat.reduceAdd, Nat.reduceMul, Nat.reduceSub, Nat.reduceLT, Nat.reduceLeDiff, Nat.reduceBEq, reduceCtorEq, Int.reduceLT, Int.reduceEq, Int.reduceLE, Int.reduceAdd, Int.reduceSub, Int.reduceToNat, Int.reduceNeg, h10, h3, em1, fy11.l]
          refine wJ_of (F.movetree_Tree_Parent_J (d := b) T11) ?_; rintro _ _ ⟨rfl, rfl⟩
          rw [hlook]
          simp (disch := omega) only [go_sem, ↓reduceIte, Nat.reduceEqDiff, Nat.reduceAdd, Nat.reduceMul, Nat.reduceSub, Nat.reduceLT, Nat.reduceLeDiff, Nat.reduceBEq, reduceCtorEq, Int.reduceLT, Int.reduceEq, Int.reduceLE, Int.reduceAdd, Int.reduceSub, Int.reduceToNat, Int.reduceNeg, h10, h3]
          refine walloc_x [.int .i64 0, .int .i64 0] fun t S12 e12 ot ht' htn => ?_
          have T12 := T11.ext e12
          have fu12 := fu11.ext e12
          have fw12 := fw11.ext e12
          have fy12 := fy11.ext e12
          have fz12 := fz11.ext e12
          rw [if_neg hm]
          simp (disch := omega) only [go_sem, ↓reduceIte, Nat.reduceEqDiff, Nat.reduceAdd, Nat.reduceMul, Nat.reduceSub, Nat.reduceLT, Nat.reduceLeDiff, Nat.reduceBEq, reduceCtorEq, Int.reduceLT, Int.reduceEq, Int.reduceLE, Int.reduceAdd, Int.reduceSub, Int.reduceToNat, Int.reduceNeg, h10, h3]
          refine wst_w [.int .i64 ((alook b (runS L)).getD zSpot).1.1, .int .i64 ((alook b (runS L)).getD zSpot).1.2] ot rfl rfl (by simp) (by simp) rfl fun S13 ot13 b13 ht13 => ?_
          have T13 := T12.but b13 (T11.off htn)
          have ft13 : Off Z11 S13 t [.int .i64 ((alook b (runS L)).getD zSpot).1.1, .int .i64 ((alook b (runS L)).getD zSpot).1.2] := ⟨ht13, T11.off htn t rfl, ot13⟩
          have fu13 := fu12.but b13 (by have := fu11.1; omega)
          have fw13 := fw12.but b13 (by have := fw11.1; omega)
          have fy13 := fy12.but b13 (by have := fy11.1; omega)
          have fz13 := fz12.but b13 (by have := fz11.1; omega)
          simp (disch := omega) only [go_sem, ↓reduceIte, Nat.reduceEqDiff, Nat.reduceAdd, Nat.reduceMul, Nat.reduceSub, Nat.reduceLT, Nat.reduceLeDiff, Nat.reduceBEq, reduceCtorEq, Int.reduceLT, Int.reduceEq, Int.reduceLE, Int.reduceAdd, Int.reduceSub, Int.reduceToNat, Int.reduceNeg, h10, h3, em1, hbs, fu13.l, fy13.l, fz13.l]
          refine wJ_of (F.movetree_Tree_Took_J (d := (99, 99)) T13 (by simp; omega)) ?_; rintro _ _ ⟨rfl, rfl⟩
          have dt : decide (tookP (L ++ [⟨(99, 99), 1000001, p, key, b⟩]) (99, 99)) = false := decide_eq_false fun h => hm ((tookP_snoc (m := ⟨(99, 99), 1000001, p, key, b⟩) hid).1 h)
          have epp := eqV_d ((alook b (runS L)).getD zSpot).1 ((alook b (runS L)).getD zSpot).1 (t := true) (by simp)
          have ekk : (((alook b (runS L)).getD zSpot).2 == ((alook b (runS L)).getD zSpot).2) = true := by rw [ba_beq]; simp
          simp (disch := omega) only [go_sem, ↓reduceIte, Nat.reduceEqDiff, Nat.reduceAdd, Nat.reduceMul, Nat.reduceSub, Nat.reduceLT, Nat.reduceLeDiff, Nat.reduceBEq, reduceCtorEq, Int.reduceLT, Int.reduceEq, Int.reduceLE, Int.reduceAdd, Int.reduceSub, Int.reduceToNat, Int.reduceNeg, h10, h3, dt, epp, ekk, ft13.l, fz13.l, fw13.l]
          refine wJ_of (F.movetree_Tree_Blocks_J T13 (by simp; omega)) ?_; rintro vb2 S14 ⟨hob2, e14⟩
          have hB2 : risen ((runS (L ++ [⟨(99, 99), 1000001, p, key, b⟩])).map Prod.fst) = B := by
            rw [← hB, runS_snoc]
            exact risen_congr lm3
          rw [hB2] at hob2
          have k8 : S3.Ext S8 := (g36.trans e7).but b8 fun j hj => by simp [blkOf] at hj; have := g36.n; omega
          have k10 : S3.Ext S10 := (k8.trans e9).but b10 fun j hj => by simp [blkOf] at hj; have := k8.n; omega
          have w10 := hob.ext dotE k10
          have w11 := w10.congr dotE r11.n fun c _ _ hv hc => r11.obj c hc fun e => by
            have h1 := (hob.blk dotE c (by rw [hv]; rfl)).1
            have h2 := T2.1 c e
            omega
          have w13 := (w11.ext dotE e12).but dotE b13 fun j hj => by have := (w11.blk dotE j hj).2; simp [blkOf]; omega
          have w14 := w13.ext dotE e14
          simp (disch := omega) only [go_sem, ↓reduceIte, Nat.reduceEqDiff, Nat.reduceAdd, Nat.reduceMul, Nat.reduceSub, Nat.reduceLT, Nat.reduceLeDiff, Nat.reduceBEq, reduceCtorEq, Int.reduceLT, Int.reduceEq, Int.reduceLE, Int.reduceAdd, Int.reduceSub, Int.reduceToNat, Int.reduceNeg, h10, h3]
          refine wJ_of (F.osierref03_Same.J (hob2.sl dotE) (w14.sl dotE) (by omega)) ?_; rintro _ _ ⟨rfl, rfl⟩
          simp (disch := omega) only [go_sem, ↓reduceIte, Nat.reduceEqDiff, Nat.reduceAdd, Nat.reduceMul, Nat.reduceSub, Nat.reduceLT, Nat.reduceLeDiff, Nat.reduceBEq, reduceCtorEq, Int.reduceLT, Int.reduceEq, Int.reduceLE, Int.reduceAdd, Int.reduceSub, Int.reduceToNat, Int.reduceNeg, h10, h3]
        · have dq : decide (b ∈ pathA (runS L) p) = false := decide_eq_false q2
          simp (disch := omega) only [go_sem, ↓reduceIte, Nat.reduceEqDiff, Nat.reduceAdd, Nat.reduceMul, Nat.reduceSub, Nat.reduceLT, Nat.reduceLeDiff, Nat.reduceBEq, reduceCtorEq, Int.reduceLT, Int.reduceEq, Int.reduceLE, Int.reduceAdd, Int.reduceSub, Int.reduceToNat, Int.reduceNeg, h10, h3, fy6.l, fz6.l, dq]
          have hm : takesP (runS L) ⟨(99, 99), 1000001, p, key, b⟩ := lm1.2 ⟨q1, q2⟩
          refine wJ_of (F.movetree_Tree_Parent_J (d := b) T6) ?_; rintro _ _ ⟨rfl, rfl⟩
          simp (disch := omega) only [go_sem, ↓reduceIte, Nat.reduceEqDiff, Nat.reduceAdd, Nat.reduceMul, Nat.reduceSub, Nat.reduceLT, Nat.reduceLeDiff, Nat.reduceBEq, reduceCtorEq, Int.reduceLT, Int.reduceEq, Int.reduceLE, Int.reduceAdd, Int.reduceSub, Int.reduceToNat, Int.reduceNeg, h10, h3, fy6.l, fz6.l]
          refine walloc_x [.int .i64 0, .int .i64 0] fun w S7 e7 ow hw hwn => ?_
          simp (disch := omega) only [go_sem, ↓reduceIte, Nat.reduceEqDiff, Nat.reduceAdd, Nat.reduceMul, Nat.reduceSub, Nat.reduceLT, Nat.reduceLeDiff, Nat.reduceBEq, reduceCtorEq, Int.reduceLT, Int.reduceEq, Int.reduceLE, Int.reduceAdd, Int.reduceSub, Int.reduceToNat, Int.reduceNeg, h10, h3]
          refine wst_w [.int .i64 ((alook b (runS L)).getD zSpot).1.1, .int .i64 ((alook b (runS L)).getD zSpot).1.2] ow rfl rfl (by simp) (by simp) rfl fun S8 ow8 b8 hw8 => ?_
          have T8 := (T6.ext e7).but b8 (T6.off hwn)
          have fw8 : Off Z S8 w [.int .i64 ((alook b (runS L)).getD zSpot).1.1, .int .i64 ((alook b (runS L)).getD zSpot).1.2] := ⟨hw8, T6.off hwn w rfl, ow8⟩
          have fy8 := (fy6.ext e7).but b8 (by have := fy6.1; omega)
          have fz8 := (fz6.ext e7).but b8 (by have := fz6.1; omega)
          simp (disch := omega) only [go_sem, ↓reduceIte, Nat.reduceEqDiff, Nat.reduceAdd, Nat.reduceMul, Nat.reduceSub, Nat.reduceLT, Nat.reduceLeDiff, Nat.reduceBEq, reduceCtorEq, Int.reduceLT, Int.reduceEq, Int.reduceLE, Int.reduceAdd, Int.reduceSub, Int.reduceToNat, Int.reduceNeg, h10, h3, fy8.l, fz8.l]
          refine walloc_x [.int .i64 0, .int .i64 0] fun u S9 e9 ou hu hun => ?_
          simp (disch := omega) only [go_sem, ↓reduceIte, Nat.reduceEqDiff, Nat.reduceAdd, Nat.reduceMul, Nat.reduceSub, Nat.reduceLT, Nat.reduceLeDiff, Nat.reduceBEq, reduceCtorEq, Int.reduceLT, Int.reduceEq, Int.reduceLE, Int.reduceAdd, Int.reduceSub, Int.reduceToNat, Int.reduceNeg, h10, h3]
          refine wst_w [.int .i64 99, .int .i64 99] ou rfl rfl (by simp) (by simp) rfl fun S10 ou10 b10 hu10 => ?_
          have T10 := (T8.ext e9).but b10 (T8.off hun)
          have fu10 : Off Z S10 u [.int .i64 99, .int .i64 99] := ⟨hu10, T8.off hun u rfl, ou10⟩
          have fw10 := (fw8.ext e9).but b10 (by have := fw8.1; omega)
          have fy10 := (fy8.ext e9).but b10 (by have := fy8.1; omega)
          have fz10 := (fz8.ext e9).but b10 (by have := fz8.1; omega)
          simp (disch := omega) only [go_sem, ↓reduceIte, Nat.reduceEqDiff, Nat.reduceAdd, Nat.reduceMul, Nat.reduceSub, Nat.reduceLT, Nat.reduceLeDiff, Nat.reduceBEq, reduceCtorEq, Int.reduceLT, Int.reduceEq, Int.reduceLE, Int.reduceAdd, Int.reduceSub, Int.reduceToNat, Int.reduceNeg, h10, h3, fy10.l, fz10.l, fu10.l, fw10.l]
          refine wJ_of (F.movetree_Tree_Move_J (m := ⟨(99, 99), 1000001, p, key, b⟩) T10 (by omega)) ?_; rintro _ S11 ⟨rfl, Z11, T11, z11, r11⟩
          have fu11 := fu10.step r11 z11
          have fw11 := fw10.step r11 z11
          have fy11 := fy10.step r11 z11
          have fz11 := fz10.step r11 z11
          have hnn : ¬ (noneP ((99, 99) : Dot) ∨ noneP b) := fun h => h.elim (by decide) hbn
          by_cases hid : ((99, 99) : Dot) ∈ L.map Mv.id
          · have em : moveA L ⟨(99, 99), 1000001, p, key, b⟩ = (32, L) := by
              unfold moveA
              rw [if_neg hnn, if_pos hid]
            have em1 : (moveA L ⟨(99, 99), 1000001, p, key, b⟩).1 = 32 := by rw [em]
            simp (disch := omega) only [go_sem, ↓reduceIte, Nat.reduceEqDiff, Nat.reduceAdd, Nat.reduceMul, Nat.reduceSub, Nat.reduceLT, Nat.reduceLeDiff, Nat.reduceBEq, reduceCtorEq, Int.reduceLT, Int.reduceEq, Int.reduceLE, Int.reduceAdd, Int.reduceSub, Int.reduceToNat, Int.reduceNeg, h10, h3, em1]
          have em : moveA L ⟨(99, 99), 1000001, p, key, b⟩ = (0, L ++ [⟨(99, 99), 1000001, p, key, b⟩]) := by
            unfold moveA
            rw [if_neg hnn, if_neg hid, insM_last fun x hx => by have := ht x hx; show x.time < 1000001; omega]
          have em1 : (moveA L ⟨(99, 99), 1000001, p, key, b⟩).1 = 0 := by rw [em]
          rw [em] at T11
          simp only at T11
          have hlook : alook b (runS (L ++ [⟨(99, 99), 1000001, p, key, b⟩])) = if takesP (runS L) ⟨(99, 99), 1000001, p, key, b⟩ then some (p, key) else alook b (runS L) := by rw [runS_snoc]; exact lm2
          simp (disch := omega) only [go_sem, ↓reduceIte, Nat.reduceEqDiff, Nat.reduceAdd, Nat.reduceMul, Nat.reduceSub, Nat.reduceLT, Nat.reduceLeDiff, Nat.reduceBEq, reduceCtorEq, Int.reduceLT, Int.reduceEq, Int.reduceLE, Int.reduceAdd, Int.reduceSub, Int.reduceToNat, Int.reduceNeg, h10, h3, em1, fy11.l]
          refine wJ_of (F.movetree_Tree_Parent_J (d := b) T11) ?_; rintro _ _ ⟨rfl, rfl⟩
          rw [hlook]
          simp (disch := omega) only [go_sem, ↓reduceIte, Nat.reduceEqDiff, Nat.reduceAdd, Nat.reduceMul, Nat.reduceSub, Nat.reduceLT, Nat.reduceLeDiff, Nat.reduceBEq, reduceCtorEq, Int.reduceLT, Int.reduceEq, Int.reduceLE, Int.reduceAdd, Int.reduceSub, Int.reduceToNat, Int.reduceNeg, h10, h3]
          refine walloc_x [.int .i64 0, .int .i64 0] fun t S12 e12 ot ht' htn => ?_
          have T12 := T11.ext e12
          have fu12 := fu11.ext e12
          have fw12 := fw11.ext e12
          have fy12 := fy11.ext e12
          have fz12 := fz11.ext e12
          rw [if_pos hm]
          simp (disch := omega) only [go_sem, ↓reduceIte, Nat.reduceEqDiff, Nat.reduceAdd, Nat.reduceMul, Nat.reduceSub, Nat.reduceLT, Nat.reduceLeDiff, Nat.reduceBEq, reduceCtorEq, Int.reduceLT, Int.reduceEq, Int.reduceLE, Int.reduceAdd, Int.reduceSub, Int.reduceToNat, Int.reduceNeg, h10, h3, Option.getD_some]
          refine wst_w [.int .i64 p.1, .int .i64 p.2] ot rfl rfl (by simp) (by simp) rfl fun S13 ot13 b13 ht13 => ?_
          have T13 := T12.but b13 (T11.off htn)
          have ft13 : Off Z11 S13 t [.int .i64 p.1, .int .i64 p.2] := ⟨ht13, T11.off htn t rfl, ot13⟩
          have fu13 := fu12.but b13 (by have := fu11.1; omega)
          have fw13 := fw12.but b13 (by have := fw11.1; omega)
          have fy13 := fy12.but b13 (by have := fy11.1; omega)
          have fz13 := fz12.but b13 (by have := fz11.1; omega)
          simp (disch := omega) only [go_sem, ↓reduceIte, Nat.reduceEqDiff, Nat.reduceAdd, Nat.reduceMul, Nat.reduceSub, Nat.reduceLT, Nat.reduceLeDiff, Nat.reduceBEq, reduceCtorEq, Int.reduceLT, Int.reduceEq, Int.reduceLE, Int.reduceAdd, Int.reduceSub, Int.reduceToNat, Int.reduceNeg, h10, h3, em1, Option.isSome_some, fu13.l, fy13.l, fz13.l]
          refine wJ_of (F.movetree_Tree_Took_J (d := (99, 99)) T13 (by simp; omega)) ?_; rintro _ _ ⟨rfl, rfl⟩
          have dt : decide (tookP (L ++ [⟨(99, 99), 1000001, p, key, b⟩]) (99, 99)) = true := decide_eq_true ((tookP_snoc (m := ⟨(99, 99), 1000001, p, key, b⟩) hid).2 hm)
          have epp := eqV_d p p (t := true) (by simp)
          have ekk : (key == key) = true := by rw [ba_beq]; simp
          simp (disch := omega) only [go_sem, ↓reduceIte, Nat.reduceEqDiff, Nat.reduceAdd, Nat.reduceMul, Nat.reduceSub, Nat.reduceLT, Nat.reduceLeDiff, Nat.reduceBEq, reduceCtorEq, Int.reduceLT, Int.reduceEq, Int.reduceLE, Int.reduceAdd, Int.reduceSub, Int.reduceToNat, Int.reduceNeg, h10, h3, dt, epp, ekk, ft13.l, fz13.l, fw13.l]
          refine wJ_of (F.movetree_Tree_Blocks_J T13 (by simp; omega)) ?_; rintro vb2 S14 ⟨hob2, e14⟩
          have hB2 : risen ((runS (L ++ [⟨(99, 99), 1000001, p, key, b⟩])).map Prod.fst) = B := by
            rw [← hB, runS_snoc]
            exact risen_congr lm3
          rw [hB2] at hob2
          have k8 : S3.Ext S8 := (g36.trans e7).but b8 fun j hj => by simp [blkOf] at hj; have := g36.n; omega
          have k10 : S3.Ext S10 := (k8.trans e9).but b10 fun j hj => by simp [blkOf] at hj; have := k8.n; omega
          have w10 := hob.ext dotE k10
          have w11 := w10.congr dotE r11.n fun c _ _ hv hc => r11.obj c hc fun e => by
            have h1 := (hob.blk dotE c (by rw [hv]; rfl)).1
            have h2 := T2.1 c e
            omega
          have w13 := (w11.ext dotE e12).but dotE b13 fun j hj => by have := (w11.blk dotE j hj).2; simp [blkOf]; omega
          have w14 := w13.ext dotE e14
          simp (disch := omega) only [go_sem, ↓reduceIte, Nat.reduceEqDiff, Nat.reduceAdd, Nat.reduceMul, Nat.reduceSub, Nat.reduceLT, Nat.reduceLeDiff, Nat.reduceBEq, reduceCtorEq, Int.reduceLT, Int.reduceEq, Int.reduceLE, Int.reduceAdd, Int.reduceSub, Int.reduceToNat, Int.reduceNeg, h10, h3]
          refine wJ_of (F.osierref03_Same.J (hob2.sl dotE) (w14.sl dotE) (by omega)) ?_; rintro _ _ ⟨rfl, rfl⟩
          simp (disch := omega) only [go_sem, ↓reduceIte, Nat.reduceEqDiff, Nat.reduceAdd, Nat.reduceMul, Nat.reduceSub, Nat.reduceLT, Nat.reduceLeDiff, Nat.reduceBEq, reduceCtorEq, Int.reduceLT, Int.reduceEq, Int.reduceLE, Int.reduceAdd, Int.reduceSub, Int.reduceToNat, Int.reduceNeg, h10, h3]
    · obtain ⟨A2, hA2⟩ : ∃ A2 : Int, A2 = n2 := ⟨_, rfl⟩
      rw [← hA2] at h2
      have ha2 : 0 ≤ A2 := by omega
      have s2 : ¬ A2 < 0 := by omega
      simp (disch := omega) only [go_sem, ↓reduceIte, Nat.reduceEqDiff, Nat.reduceAdd, Nat.reduceMul, Nat.reduceSub, Nat.reduceLT, Nat.reduceLeDiff, Nat.reduceBEq, reduceCtorEq, Int.reduceLT, Int.reduceEq, Int.reduceLE, Int.reduceAdd, Int.reduceSub, Int.reduceToNat, Int.reduceNeg, h1, h2, s1, s2, a1]
      obtain ⟨k1, hk1, hk1l⟩ := tmod_nat (a := A1) (n := B.length) ha1 hBp
      obtain ⟨b0, o0, rfl, hb0, l0⟩ := hsb.dot hk1l
      have c1 : (0 : Int) ≤ (k1 : Int) ∧ (k1 : Int) < (B.length : Int) := by omega
      simp (disch := omega) only [go_sem, ↓reduceIte, Nat.reduceEqDiff, Nat.reduceAdd, Nat.reduceMul, Nat.reduceSub, Nat.reduceLT, Nat.reduceLeDiff, Nat.reduceBEq, reduceCtorEq, Int.reduceLT, Int.reduceEq, Int.reduceLE, Int.reduceAdd, Int.reduceSub, Int.reduceToNat, Int.reduceNeg, h1, h2, h10, hBz, hk1, c1, l0]
      generalize hb : B[k1] = b at *
      have hbs : (alook b (runS L)).isSome = true := (hBm b).1 (hb ▸ List.getElem_mem hk1l)
      have hbn : ¬ noneP b := by obtain ⟨x, hx, e⟩ := key_block hbs; exact e ▸ (hg x hx).2
      refine walloc_x [.int .i64 0, .int .i64 0] fun y S4 e4 oy hy hyn => ?_
      simp (disch := omega) only [go_sem, ↓reduceIte, Nat.reduceEqDiff, Nat.reduceAdd, Nat.reduceMul, Nat.reduceSub, Nat.reduceLT, Nat.reduceLeDiff, Nat.reduceBEq, reduceCtorEq, Int.reduceLT, Int.reduceEq, Int.reduceLE, Int.reduceAdd, Int.reduceSub, Int.reduceToNat, Int.reduceNeg]
      refine wst_w [.int .i64 b.1, .int .i64 b.2] oy rfl rfl (by simp) (by simp) rfl fun S5 oy5 b5 hy5 => ?_
      have T5 := (T3.ext e4).but b5 (T3.off hyn)
      have fy5 : Off Z S5 y [.int .i64 b.1, .int .i64 b.2] := ⟨hy5, T3.off hyn y rfl, oy5⟩
      have g35 : S3.Ext S5 := e4.but b5 fun j hj => by simp [blkOf] at hj; omega
      simp (disch := omega) only [go_sem, ↓reduceIte, Nat.reduceEqDiff, Nat.reduceAdd, Nat.reduceMul, Nat.reduceSub, Nat.reduceLT, Nat.reduceLeDiff, Nat.reduceBEq, reduceCtorEq, Int.reduceLT, Int.reduceEq, Int.reduceLE, Int.reduceAdd, Int.reduceSub, Int.reduceToNat, Int.reduceNeg]
      refine wJ_of F.api_Trash_J ?_; rintro _ _ ⟨rfl, rfl⟩
      simp (disch := omega) only [go_sem, ↓reduceIte, Nat.reduceEqDiff, Nat.reduceAdd, Nat.reduceMul, Nat.reduceSub, Nat.reduceLT, Nat.reduceLeDiff, Nat.reduceBEq, reduceCtorEq, Int.reduceLT, Int.reduceEq, Int.reduceLE, Int.reduceAdd, Int.reduceSub, Int.reduceToNat, Int.reduceNeg]
      refine walloc_x [.int .i64 0, .int .i64 0] fun z S5' e5 oz hzb hzn => ?_
      simp (disch := omega) only [go_sem, ↓reduceIte, Nat.reduceEqDiff, Nat.reduceAdd, Nat.reduceMul, Nat.reduceSub, Nat.reduceLT, Nat.reduceLeDiff, Nat.reduceBEq, reduceCtorEq, Int.reduceLT, Int.reduceEq, Int.reduceLE, Int.reduceAdd, Int.reduceSub, Int.reduceToNat, Int.reduceNeg]
      refine wst_w [.int .i64 0, .int .i64 (-2)] oz rfl rfl (by simp) (by simp) rfl fun S6 oz6 b6 hz6 => ?_
      have T6 := (T5.ext e5).but b6 (T5.off hzn)
      have fz6 : Off Z S6 z [.int .i64 0, .int .i64 (-2)] := ⟨hz6, T5.off hzn z rfl, oz6⟩
      have fy6 := (fy5.ext e5).but b6 (by have := fy5.1; omega)
      have g36 : S3.Ext S6 := (g35.trans e5).but b6 fun j hj => by simp [blkOf] at hj; have := g35.n; omega
      obtain ⟨k2, hk2, hk2l⟩ := tmod_nat (a := A2) (n := B.length + 1) ha2 (Nat.succ_pos _)
      replace hk2 : A2.tmod ((B.length : Int) + 1) = k2 := hk2
      have hB1 : ¬ ((B.length : Int) + 1 = 0) := by omega
      by_cases hp2 : k2 < B.length
      · have i2 : (k2 : Int) < (B.length : Int) := by omega
        have c2 : (0 : Int) ≤ (k2 : Int) ∧ (k2 : Int) < (B.length : Int) := by omega
        obtain ⟨b0', o0', hbb, -, l2⟩ := (hsb.ext dotE g36).dot hp2
        injection hbb with hbb
        injection hbb with hb1 hb2
        subst hb1 hb2
        simp (disch := omega) only [go_sem, ↓reduceIte, Nat.reduceEqDiff, Nat.reduceAdd, Nat.reduceMul, Nat.reduceSub, Nat.reduceLT, Nat.reduceLeDiff, Nat.reduceBEq, reduceCtorEq, Int.reduceLT, Int.reduceEq, Int.reduceLE, Int.reduceAdd, Int.reduceSub, Int.reduceToNat, Int.reduceNeg, h1, h2, h10, hB1, hk2, i2, c2, l2]
        generalize hpe : B[k2] = p at *
        have hp : p = trashD ∨ (alook p (runS L)).isSome = true := .inr ((hBm p).1 (hpe ▸ List.getElem_mem hp2))
        refine wst_w [.int .i64 p.1, .int .i64 p.2] fz6.2.2 rfl rfl (by simp) (by simp) rfl fun S6' oz6' b6' hz6' => ?_
        have hyz : z ≠ y := by have := fy5.1; omega
        have T6 := T6.but b6' (T5.off hzn)
        have fz6 : Off Z S6' z [.int .i64 p.1, .int .i64 p.2] := ⟨hz6', T5.off hzn z rfl, oz6'⟩
        have fy6 := fy6.but b6' hyz
        have g36 : S3.Ext S6' := g36.but b6' fun j hj => by simp [blkOf] at hj; have := g35.n; omega
        obtain ⟨lm1, lm2, lm3⟩ := last_move (L := L) (b := b) (p := p) (key := key) (i := (99, 99)) (t := 1000001) hbs hp
        by_cases q1 : p = b
        · have e1 := eqV_d p b (decide_eq_true q1)
          simp (disch := omega) only [go_sem, ↓reduceIte, Nat.reduceEqDiff, Nat.reduceAdd, Nat.reduceMul, Nat.reduceSub, Nat.reduceLT, Nat.reduceLeDiff, Nat.reduceBEq, reduceCtorEq, Int.reduceLT, Int.reduceEq, Int.reduceLE, Int.reduceAdd, Int.reduceSub, Int.reduceToNat, Int.reduceNeg, h10, h3, fz6.l, fy6.l, e1]
          have hm : ¬ takesP (runS L) ⟨(99, 99), 1000001, p, key, b⟩ := fun h => (lm1.1 h).1 q1
          refine wJ_of (F.movetree_Tree_Parent_J (d := b) T6) ?_; rintro _ _ ⟨rfl, rfl⟩
          simp (disch := omega) only [go_sem, ↓reduceIte, Nat.reduceEqDiff, Nat.reduceAdd, Nat.reduceMul, Nat.reduceSub, Nat.reduceLT, Nat.reduceLeDiff, Nat.reduceBEq, reduceCtorEq, Int.reduceLT, Int.reduceEq, Int.reduceLE, Int.reduceAdd, Int.reduceSub, Int.reduceToNat, Int.reduceNeg, h10, h3, fy6.l, fz6.l]
          refine walloc_x [.int .i64 0, .int .i64 0] fun w S7 e7 ow hw hwn => ?_
          simp (disch := omega) only [go_sem, ↓reduceIte, Nat.reduceEqDiff, Nat.reduceAdd, Nat.reduceMul, Nat.reduceSub, Nat.reduceLT, Nat.reduceLeDiff, Nat.reduceBEq, reduceCtorEq, Int.reduceLT, Int.reduceEq, Int.reduceLE, Int.reduceAdd, Int.reduceSub, Int.reduceToNat, Int.reduceNeg, h10, h3]
          refine wst_w [.int .i64 ((alook b (runS L)).getD zSpot).1.1, .int .i64 ((alook b (runS L)).getD zSpot).1.2] ow rfl rfl (by simp) (by simp) rfl fun S8 ow8 b8 hw8 => ?_
          have T8 := (T6.ext e7).but b8 (T6.off hwn)
          have fw8 : Off Z S8 w [.int .i64 ((alook b (runS L)).getD zSpot).1.1, .int .i64 ((alook b (runS L)).getD zSpot).1.2] := ⟨hw8, T6.off hwn w rfl, ow8⟩
          have fy8 := (fy6.ext e7).but b8 (by have := fy6.1; omega)
          have fz8 := (fz6.ext e7).but b8 (by have := fz6.1; omega)
          simp (disch := omega) only [go_sem, ↓reduceIte, Nat.reduceEqDiff, Nat.reduceAdd, Nat.reduceMul, Nat.reduceSub, Nat.reduceLT, Nat.reduceLeDiff, Nat.reduceBEq, reduceCtorEq, Int.reduceLT, Int.reduceEq, Int.reduceLE, Int.reduceAdd, Int.reduceSub, Int.reduceToNat, Int.reduceNeg, h10, h3, fy8.l, fz8.l]
          refine walloc_x [.int .i64 0, .int .i64 0] fun u S9 e9 ou hu hun => ?_
          simp (disch := omega) only [go_sem, ↓reduceIte, Nat.reduceEqDiff, Nat.reduceAdd, Nat.reduceMul, Nat.reduceSub, Nat.reduceLT, Nat.reduceLeDiff, Nat.reduceBEq, reduceCtorEq, Int.reduceLT, Int.reduceEq, Int.reduceLE, Int.reduceAdd, Int.reduceSub, Int.reduceToNat, Int.reduceNeg, h10, h3]
          refine wst_w [.int .i64 99, .int .i64 99] ou rfl rfl (by simp) (by simp) rfl fun S10 ou10 b10 hu10 => ?_
          have T10 := (T8.ext e9).but b10 (T8.off hun)
          have fu10 : Off Z S10 u [.int .i64 99, .int .i64 99] := ⟨hu10, T8.off hun u rfl, ou10⟩
          have fw10 := (fw8.ext e9).but b10 (by have := fw8.1; omega)
          have fy10 := (fy8.ext e9).but b10 (by have := fy8.1; omega)
          have fz10 := (fz8.ext e9).but b10 (by have := fz8.1; omega)
          simp (disch := omega) only [go_sem, ↓reduceIte, Nat.reduceEqDiff, Nat.reduceAdd, Nat.reduceMul, Nat.reduceSub, Nat.reduceLT, Nat.reduceLeDiff, Nat.reduceBEq, reduceCtorEq, Int.reduceLT, Int.reduceEq, Int.reduceLE, Int.reduceAdd, Int.reduceSub, Int.reduceToNat, Int.reduceNeg, h10, h3, fy10.l, fz10.l, fu10.l, fw10.l]
          refine wJ_of (F.movetree_Tree_Move_J (m := ⟨(99, 99), 1000001, p, key, b⟩) T10 (by omega)) ?_; rintro _ S11 ⟨rfl, Z11, T11, z11, r11⟩
          have fu11 := fu10.step r11 z11
          have fw11 := fw10.step r11 z11
          have fy11 := fy10.step r11 z11
          have fz11 := fz10.step r11 z11
          have hnn : ¬ (noneP ((99, 99) : Dot) ∨ noneP b) := fun h => h.elim (by decide) hbn
          by_cases hid : ((99, 99) : Dot) ∈ L.map Mv.id
          · have em : moveA L ⟨(99, 99), 1000001, p, key, b⟩ = (32, L) := by
              unfold moveA
              rw [if_neg hnn, if_pos hid]
            have em1 : (moveA L ⟨(99, 99), 1000001, p, key, b⟩).1 = 32 := by rw [em]
            simp (disch := omega) only [go_sem, ↓reduceIte, Nat.reduceEqDiff, Nat.reduceAdd, Nat.reduceMul, Nat.reduceSub, Nat.reduceLT, Nat.reduceLeDiff, Nat.reduceBEq, reduceCtorEq, Int.reduceLT, Int.reduceEq, Int.reduceLE, Int.reduceAdd, Int.reduceSub, Int.reduceToNat, Int.reduceNeg, h10, h3, em1]
          have em : moveA L ⟨(99, 99), 1000001, p, key, b⟩ = (0, L ++ [⟨(99, 99), 1000001, p, key, b⟩]) := by
            unfold moveA
            rw [if_neg hnn, if_neg hid, insM_last fun x hx => by have := ht x hx; show x.time < 1000001; omega]
          have em1 : (moveA L ⟨(99, 99), 1000001, p, key, b⟩).1 = 0 := by rw [em]
          rw [em] at T11
          simp only at T11
          have hlook : alook b (runS (L ++ [⟨(99, 99), 1000001, p, key, b⟩])) = if takesP (runS L) ⟨(99, 99), 1000001, p, key, b⟩ then some (p, key) else alook b (runS L) := by rw [runS_snoc]; exact lm2
          simp (disch := omega) only [go_sem, ↓reduceIte, Nat.reduceEqDiff, Nat.reduceAdd, Nat.reduceMul, Nat.reduceSub, Nat.reduceLT, Nat.reduceLeDiff, Nat.reduceBEq, reduceCtorEq, Int.reduceLT, Int.reduceEq, Int.reduceLE, Int.reduceAdd, Int.reduceSub, Int.reduceToNat, Int.reduceNeg, h10, h3, em1, fy11.l]
          refine wJ_of (F.movetree_Tree_Parent_J (d := b) T11) ?_; rintro _ _ ⟨rfl, rfl⟩
          rw [hlook]
          simp (disch := omega) only [go_sem, ↓reduceIte, Nat.reduceEqDiff, Nat.reduceAdd, Nat.reduceMul, Nat.reduceSub, Nat.reduceLT, Nat.reduceLeDiff, Nat.reduceBEq, reduceCtorEq, Int.reduceLT, Int.reduceEq, Int.reduceLE, Int.reduceAdd, Int.reduceSub, Int.reduceToNat, Int.reduceNeg, h10, h3]
          refine walloc_x [.int .i64 0, .int .i64 0] fun t S12 e12 ot ht' htn => ?_
          have T12 := T11.ext e12
          have fu12 := fu11.ext e12
          have fw12 := fw11.ext e12
          have fy12 := fy11.ext e12
          have fz12 := fz11.ext e12
          rw [if_neg hm]
          simp (disch := omega) only [go_sem, ↓reduceIte, Nat.reduceEqDiff, Nat.reduceAdd, Nat.reduceMul, Nat.reduceSub, Nat.reduceLT, Nat.reduceLeDiff, Nat.reduceBEq, reduceCtorEq, Int.reduceLT, Int.reduceEq, Int.reduceLE, Int.reduceAdd, Int.reduceSub, Int.reduceToNat, Int.reduceNeg, h10, h3]
          refine wst_w [.int .i64 ((alook b (runS L)).getD zSpot).1.1, .int .i64 ((alook b (runS L)).getD zSpot).1.2] ot rfl rfl (by simp) (by simp) rfl fun S13 ot13 b13 ht13 => ?_
          have T13 := T12.but b13 (T11.off htn)
          have ft13 : Off Z11 S13 t [.int .i64 ((alook b (runS L)).getD zSpot).1.1, .int .i64 ((alook b (runS L)).getD zSpot).1.2] := ⟨ht13, T11.off htn t rfl, ot13⟩
          have fu13 := fu12.but b13 (by have := fu11.1; omega)
          have fw13 := fw12.but b13 (by have := fw11.1; omega)
          have fy13 := fy12.but b13 (by have := fy11.1; omega)
          have fz13 := fz12.but b13 (by have := fz11.1; omega)
          simp (disch := omega) only [go_sem, ↓reduceIte, Nat.reduceEqDiff, Nat.reduceAdd, Nat.reduceMul, Nat.reduceSub, Nat.reduceLT, Nat.reduceLeDiff, Nat.reduceBEq, reduceCtorEq, Int.reduceLT, Int.reduceEq, Int.reduceLE, Int.reduceAdd, Int.reduceSub, Int.reduceToNat, Int.reduceNeg, h10, h3, em1, hbs, fu13.l, fy13.l, fz13.l]
          refine wJ_of (F.movetree_Tree_Took_J (d := (99, 99)) T13 (by simp; omega)) ?_; rintro _ _ ⟨rfl, rfl⟩
          have dt : decide (tookP (L ++ [⟨(99, 99), 1000001, p, key, b⟩]) (99, 99)) = false := decide_eq_false fun h => hm ((tookP_snoc (m := ⟨(99, 99), 1000001, p, key, b⟩) hid).1 h)
          have epp := eqV_d ((alook b (runS L)).getD zSpot).1 ((alook b (runS L)).getD zSpot).1 (t := true) (by simp)
          have ekk : (((alook b (runS L)).getD zSpot).2 == ((alook b (runS L)).getD zSpot).2) = true := by rw [ba_beq]; simp
          simp (disch := omega) only [go_sem, ↓reduceIte, Nat.reduceEqDiff, Nat.reduceAdd, Nat.reduceMul, Nat.reduceSub, Nat.reduceLT, Nat.reduceLeDiff, Nat.reduceBEq, reduceCtorEq, Int.reduceLT, Int.reduceEq, Int.reduceLE, Int.reduceAdd, Int.reduceSub, Int.reduceToNat, Int.reduceNeg, h10, h3, dt, epp, ekk, ft13.l, fz13.l, fw13.l]
          refine wJ_of (F.movetree_Tree_Blocks_J T13 (by simp; omega)) ?_; rintro vb2 S14 ⟨hob2, e14⟩
          have hB2 : risen ((runS (L ++ [⟨(99, 99), 1000001, p, key, b⟩])).map Prod.fst) = B := by
            rw [← hB, runS_snoc]
            exact risen_congr lm3
          rw [hB2] at hob2
          have k8 : S3.Ext S8 := (g36.trans e7).but b8 fun j hj => by simp [blkOf] at hj; have := g36.n; omega
          have k10 : S3.Ext S10 := (k8.trans e9).but b10 fun j hj => by simp [blkOf] at hj; have := k8.n; omega
          have w10 := hob.ext dotE k10
          have w11 := w10.congr dotE r11.n fun c _ _ hv hc => r11.obj c hc fun e => by
            have h1 := (hob.blk dotE c (by rw [hv]; rfl)).1
            have h2 := T2.1 c e
            omega
          have w13 := (w11.ext dotE e12).but dotE b13 fun j hj => by have := (w11.blk dotE j hj).2; simp [blkOf]; omega
          have w14 := w13.ext dotE e14
          simp (disch := omega) only [go_sem, ↓reduceIte, Nat.reduceEqDiff, Nat.reduceAdd, Nat.reduceMul, Nat.reduceSub, Nat.reduceLT, Nat.reduceLeDiff, Nat.reduceBEq, reduceCtorEq, Int.reduceLT, Int.reduceEq, Int.reduceLE, Int.reduceAdd, Int.reduceSub, Int.reduceToNat, Int.reduceNeg, h10, h3]
          refine wJ_of (F.osierref03_Same.J (hob2.sl dotE) (w14.sl dotE) (by omega)) ?_; rintro _ _ ⟨rfl, rfl⟩
          simp (disch := omega) only [go_sem, ↓reduceIte, Nat.reduceEqDiff, Nat.reduceAdd, Nat.reduceMul, Nat.reduceSub, Nat.reduceLT, Nat.reduceLeDiff, Nat.reduceBEq, reduceCtorEq, Int.reduceLT, Int.reduceEq, Int.reduceLE, Int.reduceAdd, Int.reduceSub, Int.reduceToNat, Int.reduceNeg, h10, h3]
        have e1 := eqV_d p b (decide_eq_false q1)
        simp (disch := omega) only [go_sem, ↓reduceIte, Nat.reduceEqDiff, Nat.reduceAdd, Nat.reduceMul, Nat.reduceSub, Nat.reduceLT, Nat.reduceLeDiff, Nat.reduceBEq, reduceCtorEq, Int.reduceLT, Int.reduceEq, Int.reduceLE, Int.reduceAdd, Int.reduceSub, Int.reduceToNat, Int.reduceNeg, h10, h3, fz6.l, fy6.l, e1]
        refine wJ_of (F.movetree_Tree_Path_T (b := p) T6 (by omega)) ?_; rintro vp Sp ⟨hop, ep⟩
        have T6 := T6.ext ep
        have fy6 := fy6.ext ep
        have fz6 := fz6.ext ep
        have g36 := g36.trans ep
        have hpl : (pathA (runS L) p).length < 4611686018427387904 := by have h1 := ((okS_run L).pth p).len; have h2 := runS_len L; omega
        simp (disch := omega) only [go_sem, ↓reduceIte, Nat.reduceEqDiff, Nat.reduceAdd, Nat.reduceMul, Nat.reduceSub, Nat.reduceLT, Nat.reduceLeDiff, Nat.reduceBEq, reduceCtorEq, Int.reduceLT, Int.reduceEq, Int.reduceLE, Int.reduceAdd, Int.reduceSub, Int.reduceToNat, Int.reduceNeg, h10, h3, fy6.l]
        refine wJ_of (F.osierref03_In_P (hop.sl dotE) hpl) ?_; rintro _ _ ⟨rfl, rfl⟩
        by_cases q2 : b ∈ pathA (runS L) p
        · have dq : decide (b ∈ pathA (runS L) p) = true := decide_eq_true q2
          simp (disch := omega) only [go_sem, ↓reduceIte, Nat.reduceEqDiff, Nat.reduceAdd, Nat.reduceMul, Nat.reduceSub, Nat.reduceLT, Nat.reduceLeDiff, Nat.reduceBEq, reduceCtorEq, Int.reduceLT, Int.reduceEq, Int.reduceLE, Int.reduceAdd, Int.reduceSub, Int.reduceToNat, Int.reduceNeg, h10, h3, fy6.l, fz6.l, dq]
          have hm : ¬ takesP (runS L) ⟨(99, 99), 1000001, p, key, b⟩ := fun h => (lm1.1 h).2 q2
          refine wJ_of (F.movetree_Tree_Parent_J (d := b) T6) ?_; rintro _ _ ⟨rfl, rfl⟩
          simp (disch := omega) only [go_sem, ↓reduceIte, Nat.reduceEqDiff, Nat.reduceAdd, Nat.reduceMul, Nat.reduceSub, Nat.reduceLT, Nat.reduceLeDiff, Nat.reduceBEq, reduceCtorEq, Int.reduceLT, Int.reduceEq, Int.reduceLE, Int.reduceAdd, Int.reduceSub, Int.reduceToNat, Int.reduceNeg, h10, h3, fy6.l, fz6.l]
          refine walloc_x [.int .i64 0, .int .i64 0] fun w S7 e7 ow hw hwn => ?_
          simp (disch := omega) only [go_sem, ↓reduceIte, Nat.reduceEqDiff, Nat.reduceAdd, Nat.reduceMul, Nat.reduceSub, Nat.reduceLT, Nat.reduceLeDiff, Nat.reduceBEq, reduceCtorEq, Int.reduceLT, Int.reduceEq, Int.reduceLE, Int.reduceAdd, Int.reduceSub, Int.reduceToNat, Int.reduceNeg, h10, h3]
          refine wst_w [.int .i64 ((alook b (runS L)).getD zSpot).1.1, .int .i64 ((alook b (runS L)).getD zSpot).1.2] ow rfl rfl (by simp) (by simp) rfl fun S8 ow8 b8 hw8 => ?_
          have T8 := (T6.ext e7).but b8 (T6.off hwn)
          have fw8 : Off Z S8 w [.int .i64 ((alook b (runS L)).getD zSpot).1.1, .int .i64 ((alook b (runS L)).getD zSpot).1.2] := ⟨hw8, T6.off hwn w rfl, ow8⟩
          have fy8 := (fy6.ext e7).but b8 (by have := fy6.1; omega)
          have fz8 := (fz6.ext e7).but b8 (by have := fz6.1; omega)
          simp (disch := omega) only [go_sem, ↓reduceIte, Nat.reduceEqDiff, Nat.reduceAdd, Nat.reduceMul, Nat.reduceSub, Nat.reduceLT, Nat.reduceLeDiff, Nat.reduceBEq, reduceCtorEq, Int.reduceLT, Int.reduceEq, Int.reduceLE, Int.reduceAdd, Int.reduceSub, Int.reduceToNat, Int.reduceNeg, h10, h3, fy8.l, fz8.l]
          refine walloc_x [.int .i64 0, .int .i64 0] fun u S9 e9 ou hu hun => ?_
          simp (disch := omega) only [go_sem, ↓reduceIte, Nat.reduceEqDiff, Nat.reduceAdd, Nat.reduceMul, Nat.reduceSub, Nat.reduceLT, Nat.reduceLeDiff, Nat.reduceBEq, reduceCtorEq, Int.reduceLT, Int.reduceEq, Int.reduceLE, Int.reduceAdd, Int.reduceSub, Int.reduceToNat, Int.reduceNeg, h10, h3]
          refine wst_w [.int .i64 99, .int .i64 99] ou rfl rfl (by simp) (by simp) rfl fun S10 ou10 b10 hu10 => ?_
          have T10 := (T8.ext e9).but b10 (T8.off hun)
          have fu10 : Off Z S10 u [.int .i64 99, .int .i64 99] := ⟨hu10, T8.off hun u rfl, ou10⟩
          have fw10 := (fw8.ext e9).but b10 (by have := fw8.1; omega)
          have fy10 := (fy8.ext e9).but b10 (by have := fy8.1; omega)
          have fz10 := (fz8.ext e9).but b10 (by have := fz8.1; omega)
          simp (disch := omega) only [go_sem, ↓reduceIte, Nat.reduceEqDiff, Nat.reduceAdd, Nat.reduceMul, Nat.reduceSub, Nat.reduceLT, Nat.reduceLeDiff, Nat.reduceBEq, reduceCtorEq, Int.reduceLT, Int.reduceEq, Int.reduceLE, Int.reduceAdd, Int.reduceSub, Int.reduceToNat, Int.reduceNeg, h10, h3, fy10.l, fz10.l, fu10.l, fw10.l]
          refine wJ_of (F.movetree_Tree_Move_J (m := ⟨(99, 99), 1000001, p, key, b⟩) T10 (by omega)) ?_; rintro _ S11 ⟨rfl, Z11, T11, z11, r11⟩
          have fu11 := fu10.step r11 z11
          have fw11 := fw10.step r11 z11
          have fy11 := fy10.step r11 z11
          have fz11 := fz10.step r11 z11
          have hnn : ¬ (noneP ((99, 99) : Dot) ∨ noneP b) := fun h => h.elim (by decide) hbn
          by_cases hid : ((99, 99) : Dot) ∈ L.map Mv.id
          · have em : moveA L ⟨(99, 99), 1000001, p, key, b⟩ = (32, L) := by
              unfold moveA
              rw [if_neg hnn, if_pos hid]
            have em1 : (moveA L ⟨(99, 99), 1000001, p, key, b⟩).1 = 32 := by rw [em]
            simp (disch := omega) only [go_sem, ↓reduceIte, Nat.reduceEqDiff, Nat.reduceAdd, Nat.reduceMul, Nat.reduceSub, Nat.reduceLT, Nat.reduceLeDiff, Nat.reduceBEq, reduceCtorEq, Int.reduceLT, Int.reduceEq, Int.reduceLE, Int.reduceAdd, Int.reduceSub, Int.reduceToNat, Int.reduceNeg, h10, h3, em1]
          have em : moveA L ⟨(99, 99), 1000001, p, key, b⟩ = (0, L ++ [⟨(99, 99), 1000001, p, key, b⟩]) := by
            unfold moveA
            rw [if_neg hnn, if_neg hid, insM_last fun x hx => by have := ht x hx; show x.time < 1000001; omega]
          have em1 : (moveA L ⟨(99, 99), 1000001, p, key, b⟩).1 = 0 := by rw [em]
          rw [em] at T11
          simp only at T11
          have hlook : alook b (runS (L ++ [⟨(99, 99), 1000001, p, key, b⟩])) = if takesP (runS L) ⟨(99, 99), 1000001, p, key, b⟩ then some (p, key) else alook b (runS L) := by rw [runS_snoc]; exact lm2
          simp (disch := omega) only [go_sem, ↓reduceIte, Nat.reduceEqDiff, Nat.reduceAdd, Nat.reduceMul, Nat.reduceSub, Nat.reduceLT, Nat.reduceLeDiff, Nat.reduceBEq, reduceCtorEq, Int.reduceLT, Int.reduceEq, Int.reduceLE, Int.reduceAdd, Int.reduceSub, Int.reduceToNat, Int.reduceNeg, h10, h3, em1, fy11.l]
          refine wJ_of (F.movetree_Tree_Parent_J (d := b) T11) ?_; rintro _ _ ⟨rfl, rfl⟩
          rw [hlook]
          simp (disch := omega) only [go_sem, ↓reduceIte, Nat.reduceEqDiff, Nat.reduceAdd, Nat.reduceMul, Nat.reduceSub, Nat.reduceLT, Nat.reduceLeDiff, Nat.reduceBEq, reduceCtorEq, Int.reduceLT, Int.reduceEq, Int.reduceLE, Int.reduceAdd, Int.reduceSub, Int.reduceToNat, Int.reduceNeg, h10, h3]
          refine walloc_x [.int .i64 0, .int .i64 0] fun t S12 e12 ot ht' htn => ?_
          have T12 := T11.ext e12
          have fu12 := fu11.ext e12
          have fw12 := fw11.ext e12
          have fy12 := fy11.ext e12
          have fz12 := fz11.ext e12
          rw [if_neg hm]
          simp (disch := omega) only [go_sem, ↓reduceIte, Nat.reduceEqDiff, Nat.reduceAdd, Nat.reduceMul, Nat.reduceSub, Nat.reduceLT, Nat.reduceLeDiff, Nat.reduceBEq, reduceCtorEq, Int.reduceLT, Int.reduceEq, Int.reduceLE, Int.reduceAdd, Int.reduceSub, Int.reduceToNat, Int.reduceNeg, h10, h3]
          refine wst_w [.int .i64 ((alook b (runS L)).getD zSpot).1.1, .int .i64 ((alook b (runS L)).getD zSpot).1.2] ot rfl rfl (by simp) (by simp) rfl fun S13 ot13 b13 ht13 => ?_
          have T13 := T12.but b13 (T11.off htn)
          have ft13 : Off Z11 S13 t [.int .i64 ((alook b (runS L)).getD zSpot).1.1, .int .i64 ((alook b (runS L)).getD zSpot).1.2] := ⟨ht13, T11.off htn t rfl, ot13⟩
          have fu13 := fu12.but b13 (by have := fu11.1; omega)
          have fw13 := fw12.but b13 (by have := fw11.1; omega)
          have fy13 := fy12.but b13 (by have := fy11.1; omega)
          have fz13 := fz12.but b13 (by have := fz11.1; omega)
          simp (disch := omega) only [go_sem, ↓reduceIte, Nat.reduceEqDiff, Nat.reduceAdd, Nat.reduceMul, Nat.reduceSub, Nat.reduceLT, Nat.reduceLeDiff, Nat.reduceBEq, reduceCtorEq, Int.reduceLT, Int.reduceEq, Int.reduceLE, Int.reduceAdd, Int.reduceSub, Int.reduceToNat, Int.reduceNeg, h10, h3, em1, hbs, fu13.l, fy13.l, fz13.l]
          refine wJ_of (F.movetree_Tree_Took_J (d := (99, 99)) T13 (by simp; omega)) ?_; rintro _ _ ⟨rfl, rfl⟩
          have dt : decide (tookP (L ++ [⟨(99, 99), 1000001, p, key, b⟩]) (99, 99)) = false := decide_eq_false fun h => hm ((tookP_snoc (m := ⟨(99, 99), 1000001, p, key, b⟩) hid).1 h)
          have epp := eqV_d ((alook b (runS L)).getD zSpot).1 ((alook b (runS L)).getD zSpot).1 (t := true) (by simp)
          have ekk : (((alook b (runS L)).getD zSpot).2 == ((alook b (runS L)).getD zSpot).2) = true := by rw [ba_beq]; simp
          simp (disch := omega) only [go_sem, ↓reduceIte, Nat.reduceEqDiff, Nat.reduceAdd, Nat.reduceMul, Nat.reduceSub, Nat.reduceLT, Nat.reduceLeDiff, Nat.reduceBEq, reduceCtorEq, Int.reduceLT, Int.reduceEq, Int.reduceLE, Int.reduceAdd, Int.reduceSub, Int.reduceToNat, Int.reduceNeg, h10, h3, dt, epp, ekk, ft13.l, fz13.l, fw13.l]
          refine wJ_of (F.movetree_Tree_Blocks_J T13 (by simp; omega)) ?_; rintro vb2 S14 ⟨hob2, e14⟩
          have hB2 : risen ((runS (L ++ [⟨(99, 99), 1000001, p, key, b⟩])).map Prod.fst) = B := by
            rw [← hB, runS_snoc]
            exact risen_congr lm3
          rw [hB2] at hob2
          have k8 : S3.Ext S8 := (g36.trans e7).but b8 fun j hj => by simp [blkOf] at hj; have := g36.n; omega
          have k10 : S3.Ext S10 := (k8.trans e9).but b10 fun j hj => by simp [blkOf] at hj; have := k8.n; omega
          have w10 := hob.ext dotE k10
          have w11 := w10.congr dotE r11.n fun c _ _ hv hc => r11.obj c hc fun e => by
            have h1 := (hob.blk dotE c (by rw [hv]; rfl)).1
            have h2 := T2.1 c e
            omega
          have w13 := (w11.ext dotE e12).but dotE b13 fun j hj => by have := (w11.blk dotE j hj).2; simp [blkOf]; omega
          have w14 := w13.ext dotE e14
          simp (disch := omega) only [go_sem, ↓reduceIte, Nat.reduceEqDiff, Nat.reduceAdd, Nat.reduceMul, Nat.reduceSub, Nat.reduceLT, Nat.reduceLeDiff, Nat.reduceBEq, reduceCtorEq, Int.reduceLT, Int.reduceEq, Int.reduceLE, Int.reduceAdd, Int.reduceSub, Int.reduceToNat, Int.reduceNeg, h10, h3]
          refine wJ_of (F.osierref03_Same.J (hob2.sl dotE) (w14.sl dotE) (by omega)) ?_; rintro _ _ ⟨rfl, rfl⟩
          simp (disch := omega) only [go_sem, ↓reduceIte, Nat.reduceEqDiff, Nat.reduceAdd, Nat.reduceMul, Nat.reduceSub, Nat.reduceLT, Nat.reduceLeDiff, Nat.reduceBEq, reduceCtorEq, Int.reduceLT, Int.reduceEq, Int.reduceLE, Int.reduceAdd, Int.reduceSub, Int.reduceToNat, Int.reduceNeg, h10, h3]
        · have dq : decide (b ∈ pathA (runS L) p) = false := decide_eq_false q2
          simp (disch := omega) only [go_sem, ↓reduceIte, Nat.reduceEqDiff, Nat.reduceAdd, Nat.reduceMul, Nat.reduceSub, Nat.reduceLT, Nat.reduceLeDiff, Nat.reduceBEq, reduceCtorEq, Int.reduceLT, Int.reduceEq, Int.reduceLE, Int.reduceAdd, Int.reduceSub, Int.reduceToNat, Int.reduceNeg, h10, h3, fy6.l, fz6.l, dq]
          have hm : takesP (runS L) ⟨(99, 99), 1000001, p, key, b⟩ := lm1.2 ⟨q1, q2⟩
          refine wJ_of (F.movetree_Tree_Parent_J (d := b) T6) ?_; rintro _ _ ⟨rfl, rfl⟩
          simp (disch := omega) only [go_sem, ↓reduceIte, Nat.reduceEqDiff, Nat.reduceAdd, Nat.reduceMul, Nat.reduceSub, Nat.reduceLT, Nat.reduceLeDiff, Nat.reduceBEq, reduceCtorEq, Int.reduceLT, Int.reduceEq, Int.reduceLE, Int.reduceAdd, Int.reduceSub, Int.reduceToNat, Int.reduceNeg, h10, h3, fy6.l, fz6.l]
          refine walloc_x [.int .i64 0, .int .i64 0] fun w S7 e7 ow hw hwn => ?_
          simp (disch := omega) only [go_sem, ↓reduceIte, Nat.reduceEqDiff, Nat.reduceAdd, Nat.reduceMul, Nat.reduceSub, Nat.reduceLT, Nat.reduceLeDiff, Nat.reduceBEq, reduceCtorEq, Int.reduceLT, Int.reduceEq, Int.reduceLE, Int.reduceAdd, Int.reduceSub, Int.reduceToNat, Int.reduceNeg, h10, h3]
          refine wst_w [.int .i64 ((alook b (runS L)).getD zSpot).1.1, .int .i64 ((alook b (runS L)).getD zSpot).1.2] ow rfl rfl (by simp) (by simp) rfl fun S8 ow8 b8 hw8 => ?_
          have T8 := (T6.ext e7).but b8 (T6.off hwn)
          have fw8 : Off Z S8 w [.int .i64 ((alook b (runS L)).getD zSpot).1.1, .int .i64 ((alook b (runS L)).getD zSpot).1.2] := ⟨hw8, T6.off hwn w rfl, ow8⟩
          have fy8 := (fy6.ext e7).but b8 (by have := fy6.1; omega)
          have fz8 := (fz6.ext e7).but b8 (by have := fz6.1; omega)
          simp (disch := omega) only [go_sem, ↓reduceIte, Nat.reduceEqDiff, Nat.reduceAdd, Nat.reduceMul, Nat.reduceSub, Nat.reduceLT, Nat.reduceLeDiff, Nat.reduceBEq, reduceCtorEq, Int.reduceLT, Int.reduceEq, Int.reduceLE, Int.reduceAdd, Int.reduceSub, Int.reduceToNat, Int.reduceNeg, h10, h3, fy8.l, fz8.l]
          refine walloc_x [.int .i64 0, .int .i64 0] fun u S9 e9 ou hu hun => ?_
          simp (disch := omega) only [go_sem, ↓reduceIte, Nat.reduceEqDiff, Nat.reduceAdd, Nat.reduceMul, Nat.reduceSub, Nat.reduceLT, Nat.reduceLeDiff, Nat.reduceBEq, reduceCtorEq, Int.reduceLT, Int.reduceEq, Int.reduceLE, Int.reduceAdd, Int.reduceSub, Int.reduceToNat, Int.reduceNeg, h10, h3]
          refine wst_w [.int .i64 99, .int .i64 99] ou rfl rfl (by simp) (by simp) rfl fun S10 ou10 b10 hu10 => ?_
          have T10 := (T8.ext e9).but b10 (T8.off hun)
          have fu10 : Off Z S10 u [.int .i64 99, .int .i64 99] := ⟨hu10, T8.off hun u rfl, ou10⟩
          have fw10 := (fw8.ext e9).but b10 (by have := fw8.1; omega)
          have fy10 := (fy8.ext e9).but b10 (by have := fy8.1; omega)
          have fz10 := (fz8.ext e9).but b10 (by have := fz8.1; omega)
          simp (disch := omega) only [go_sem, ↓reduceIte, Nat.reduceEqDiff, Nat.reduceAdd, Nat.reduceMul, Nat.reduceSub, Nat.reduceLT, Nat.reduceLeDiff, Nat.reduceBEq, reduceCtorEq, Int.reduceLT, Int.reduceEq, Int.reduceLE, Int.reduceAdd, Int.reduceSub, Int.reduceToNat, Int.reduceNeg, h10, h3, fy10.l, fz10.l, fu10.l, fw10.l]
          refine wJ_of (F.movetree_Tree_Move_J (m := ⟨(99, 99), 1000001, p, key, b⟩) T10 (by omega)) ?_; rintro _ S11 ⟨rfl, Z11, T11, z11, r11⟩
          have fu11 := fu10.step r11 z11
          have fw11 := fw10.step r11 z11
          have fy11 := fy10.step r11 z11
          have fz11 := fz10.step r11 z11
          have hnn : ¬ (noneP ((99, 99) : Dot) ∨ noneP b) := fun h => h.elim (by decide) hbn
          by_cases hid : ((99, 99) : Dot) ∈ L.map Mv.id
          · have em : moveA L ⟨(99, 99), 1000001, p, key, b⟩ = (32, L) := by
              unfold moveA
              rw [if_neg hnn, if_pos hid]
            have em1 : (moveA L ⟨(99, 99), 1000001, p, key, b⟩).1 = 32 := by rw [em]
            simp (disch := omega) only [go_sem, ↓reduceIte, Nat.reduceEqDiff, Nat.reduceAdd, Nat.reduceMul, Nat.reduceSub, Nat.reduceLT, Nat.reduceLeDiff, Nat.reduceBEq, reduceCtorEq, Int.reduceLT, Int.reduceEq, Int.reduceLE, Int.reduceAdd, Int.reduceSub, Int.reduceToNat, Int.reduceNeg, h10, h3, em1]
          have em : moveA L ⟨(99, 99), 1000001, p, key, b⟩ = (0, L ++ [⟨(99, 99), 1000001, p, key, b⟩]) := by
            unfold moveA
            rw [if_neg hnn, if_neg hid, insM_last fun x hx => by have := ht x hx; show x.time < 1000001; omega]
          have em1 : (moveA L ⟨(99, 99), 1000001, p, key, b⟩).1 = 0 := by rw [em]
          rw [em] at T11
          simp only at T11
          have hlook : alook b (runS (L ++ [⟨(99, 99), 1000001, p, key, b⟩])) = if takesP (runS L) ⟨(99, 99), 1000001, p, key, b⟩ then some (p, key) else alook b (runS L) := by rw [runS_snoc]; exact lm2
          simp (disch := omega) only [go_sem, ↓reduceIte, Nat.reduceEqDiff, Nat.reduceAdd, Nat.reduceMul, Nat.reduceSub, Nat.reduceLT, Nat.reduceLeDiff, Nat.reduceBEq, reduceCtorEq, Int.reduceLT, Int.reduceEq, Int.reduceLE, Int.reduceAdd, Int.reduceSub, Int.reduceToNat, Int.reduceNeg, h10, h3, em1, fy11.l]
          refine wJ_of (F.movetree_Tree_Parent_J (d := b) T11) ?_; rintro _ _ ⟨rfl, rfl⟩
          rw [hlook]
          simp (disch := omega) only [go_sem, ↓reduceIte, Nat.reduceEqDiff, Nat.reduceAdd, Nat.reduceMul, Nat.reduceSub, Nat.reduceLT, Nat.reduceLeDiff, Nat.reduceBEq, reduceCtorEq, Int.reduceLT, Int.reduceEq, Int.reduceLE, Int.reduceAdd, Int.reduceSub, Int.reduceToNat, Int.reduceNeg, h10, h3]
          refine walloc_x [.int .i64 0, .int .i64 0] fun t S12 e12 ot ht' htn => ?_
          have T12 := T11.ext e12
          have fu12 := fu11.ext e12
          have fw12 := fw11.ext e12
          have fy12 := fy11.ext e12
          have fz12 := fz11.ext e12
          rw [if_pos hm]
          simp (disch := omega) only [go_sem, ↓reduceIte, Nat.reduceEqDiff, Nat.reduceAdd, Nat.reduceMul, Nat.reduceSub, Nat.reduceLT, Nat.reduceLeDiff, Nat.reduceBEq, reduceCtorEq, Int.reduceLT, Int.reduceEq, Int.reduceLE, Int.reduceAdd, Int.reduceSub, Int.reduceToNat, Int.reduceNeg, h10, h3, Option.getD_some]
          refine wst_w [.int .i64 p.1, .int .i64 p.2] ot rfl rfl (by simp) (by simp) rfl fun S13 ot13 b13 ht13 => ?_
          have T13 := T12.but b13 (T11.off htn)
          have ft13 : Off Z11 S13 t [.int .i64 p.1, .int .i64 p.2] := ⟨ht13, T11.off htn t rfl, ot13⟩
          have fu13 := fu12.but b13 (by have := fu11.1; omega)
          have fw13 := fw12.but b13 (by have := fw11.1; omega)
          have fy13 := fy12.but b13 (by have := fy11.1; omega)
          have fz13 := fz12.but b13 (by have := fz11.1; omega)
          simp (disch := omega) only [go_sem, ↓reduceIte, Nat.reduceEqDiff, Nat.reduceAdd, Nat.reduceMul, Nat.reduceSub, Nat.reduceLT, Nat.reduceLeDiff, Nat.reduceBEq, reduceCtorEq, Int.reduceLT, Int.reduceEq, Int.reduceLE, Int.reduceAdd, Int.reduceSub, Int.reduceToNat, Int.reduceNeg, h10, h3, em1, Option.isSome_some, fu13.l, fy13.l, fz13.l]
          refine wJ_of (F.movetree_Tree_Took_J (d := (99, 99)) T13 (by simp; omega)) ?_; rintro _ _ ⟨rfl, rfl⟩
          have dt : decide (tookP (L ++ [⟨(99, 99), 1000001, p, key, b⟩]) (99, 99)) = true := decide_eq_true ((tookP_snoc (m := ⟨(99, 99), 1000001, p, key, b⟩) hid).2 hm)
          have epp := eqV_d p p (t := true) (by simp)
          have ekk : (key == key) = true := by rw [ba_beq]; simp
          simp (disch := omega) only [go_sem, ↓reduceIte, Nat.reduceEqDiff, Nat.reduceAdd, Nat.reduceMul, Nat.reduceSub, Nat.reduceLT, Nat.reduceLeDiff, Nat.reduceBEq, reduceCtorEq, Int.reduceLT, Int.reduceEq, Int.reduceLE, Int.reduceAdd, Int.reduceSub, Int.reduceToNat, Int.reduceNeg, h10, h3, dt, epp, ekk, ft13.l, fz13.l, fw13.l]
          refine wJ_of (F.movetree_Tree_Blocks_J T13 (by simp; omega)) ?_; rintro vb2 S14 ⟨hob2, e14⟩
          have hB2 : risen ((runS (L ++ [⟨(99, 99), 1000001, p, key, b⟩])).map Prod.fst) = B := by
            rw [← hB, runS_snoc]
            exact risen_congr lm3
          rw [hB2] at hob2
          have k8 : S3.Ext S8 := (g36.trans e7).but b8 fun j hj => by simp [blkOf] at hj; have := g36.n; omega
          have k10 : S3.Ext S10 := (k8.trans e9).but b10 fun j hj => by simp [blkOf] at hj; have := k8.n; omega
          have w10 := hob.ext dotE k10
          have w11 := w10.congr dotE r11.n fun c _ _ hv hc => r11.obj c hc fun e => by
            have h1 := (hob.blk dotE c (by rw [hv]; rfl)).1
            have h2 := T2.1 c e
            omega
          have w13 := (w11.ext dotE e12).but dotE b13 fun j hj => by have := (w11.blk dotE j hj).2; simp [blkOf]; omega
          have w14 := w13.ext dotE e14
          simp (disch := omega) only [go_sem, ↓reduceIte, Nat.reduceEqDiff, Nat.reduceAdd, Nat.reduceMul, Nat.reduceSub, Nat.reduceLT, Nat.reduceLeDiff, Nat.reduceBEq, reduceCtorEq, Int.reduceLT, Int.reduceEq, Int.reduceLE, Int.reduceAdd, Int.reduceSub, Int.reduceToNat, Int.reduceNeg, h10, h3]
          refine wJ_of (F.osierref03_Same.J (hob2.sl dotE) (w14.sl dotE) (by omega)) ?_; rintro _ _ ⟨rfl, rfl⟩
          simp (disch := omega) only [go_sem, ↓reduceIte, Nat.reduceEqDiff, Nat.reduceAdd, Nat.reduceMul, Nat.reduceSub, Nat.reduceLT, Nat.reduceLeDiff, Nat.reduceBEq, reduceCtorEq, Int.reduceLT, Int.reduceEq, Int.reduceLE, Int.reduceAdd, Int.reduceSub, Int.reduceToNat, Int.reduceNeg, h10, h3]
      · have i2 : ¬ ((k2 : Int) < (B.length : Int)) := by omega
        simp (disch := omega) only [go_sem, ↓reduceIte, Nat.reduceEqDiff, Nat.reduceAdd, Nat.reduceMul, Nat.reduceSub, Nat.reduceLT, Nat.reduceLeDiff, Nat.reduceBEq, reduceCtorEq, Int.reduceLT, Int.reduceEq, Int.reduceLE, Int.reduceAdd, Int.reduceSub, Int.reduceToNat, Int.reduceNeg, h1, h2, h10, hB1, hk2, i2]
        obtain ⟨p, hpe⟩ : ∃ p : Dot, p = (0, -2) := ⟨_, rfl⟩
        have hp : p = trashD ∨ (alook p (runS L)).isSome = true := .inl hpe
        replace fz6 : Off Z S6 z [.int .i64 p.1, .int .i64 p.2] := by rw [hpe]; exact fz6
        obtain ⟨lm1, lm2, lm3⟩ := last_move (L := L) (b := b) (p := p) (key := key) (i := (99, 99)) (t := 1000001) hbs hp
        by_cases q1 : p = b
        · have e1 := eqV_d p b (decide_eq_true q1)
          simp (disch := omega) only [go_sem, ↓reduceIte, Nat.reduceEqDiff, Nat.reduceAdd, Nat.reduceMul, Nat.reduceSub, Nat.reduceLT, Nat.reduceLeDiff, Nat.reduceBEq, reduceCtorEq, Int.reduceLT, Int.reduceEq, Int.reduceLE, Int.reduceAdd, Int.reduceSub, Int.reduceToNat, Int.reduceNeg, h10, h3, fz6.l, fy6.l, e1]
          have hm : ¬ takesP (runS L) ⟨(99, 99), 1000001, p, key, b⟩ := fun h => (lm1.1 h).1 q1
          refine wJ_of (F.movetree_Tree_Parent_J (d := b) T6) ?_; rintro _ _ ⟨rfl, rfl⟩
          simp (disch := omega) only [go_sem, ↓reduceIte, Nat.reduceEqDiff, Nat.reduceAdd, Nat.reduceMul, Nat.reduceSub, Nat.reduceLT, Nat.reduceLeDiff, Nat.reduceBEq, reduceCtorEq, Int.reduceLT, Int.reduceEq, Int.reduceLE, Int.reduceAdd, Int.reduceSub, Int.reduceToNat, Int.reduceNeg, h10, h3, fy6.l, fz6.l]
          refine walloc_x [.int .i64 0, .int .i64 0] fun w S7 e7 ow hw hwn => ?_
          simp (disch := omega) only [go_sem, ↓reduceIte, Nat.reduceEqDiff, Nat.reduceAdd, Nat.reduceMul, Nat.reduceSub, Nat.reduceLT, Nat.reduceLeDiff, Nat.reduceBEq, reduceCtorEq, Int.reduceLT, Int.reduceEq, Int.reduceLE, Int.reduceAdd, Int.reduceSub, Int.reduceToNat, Int.reduceNeg, h10, h3]
          refine wst_w [.int .i64 ((alook b (runS L)).getD zSpot).1.1, .int .i64 ((alook b (runS L)).getD zSpot).1.2] ow rfl rfl (by simp) (by simp) rfl fun S8 ow8 b8 hw8 => ?_
          have T8 := (T6.ext e7).but b8 (T6.off hwn)
          have fw8 : Off Z S8 w [.int .i64 ((alook b (runS L)).getD zSpot).1.1, .int .i64 ((alook b (runS L)).getD zSpot).1.2] := ⟨hw8, T6.off hwn w rfl, ow8⟩
          have fy8 := (fy6.ext e7).but b8 (by have := fy6.1; omega)
          have fz8 := (fz6.ext e7).but b8 (by have := fz6.1; omega)
          simp (disch := omega) only [go_sem, ↓reduceIte, Nat.reduceEqDiff, Nat.reduceAdd, Nat.reduceMul, Nat.reduceSub, Nat.reduceLT, Nat.reduceLeDiff, Nat.reduceBEq, reduceCtorEq, Int.reduceLT, Int.reduceEq, Int.reduceLE, Int.reduceAdd, Int.reduceSub, Int.reduceToNat, Int.reduceNeg, h10, h3, fy8.l, fz8.l]
          refine walloc_x [.int .i64 0, .int .i64 0] fun u S9 e9 ou hu hun => ?_
          simp (disch := omega) only [go_sem, ↓reduceIte, Nat.reduceEqDiff, Nat.reduceAdd, Nat.reduceMul, Nat.reduceSub, Nat.reduceLT, Nat.reduceLeDiff, Nat.reduceBEq, reduceCtorEq, Int.reduceLT, Int.reduceEq, Int.reduceLE, Int.reduceAdd, Int.reduceSub, Int.reduceToNat, Int.reduceNeg, h10, h3]
          refine wst_w [.int .i64 99, .int .i64 99] ou rfl rfl (by simp) (by simp) rfl fun S10 ou10 b10 hu10 => ?_
          have T10 := (T8.ext e9).but b10 (T8.off hun)
          have fu10 : Off Z S10 u [.int .i64 99, .int .i64 99] := ⟨hu10, T8.off hun u rfl, ou10⟩
          have fw10 := (fw8.ext e9).but b10 (by have := fw8.1; omega)
          have fy10 := (fy8.ext e9).but b10 (by have := fy8.1; omega)
          have fz10 := (fz8.ext e9).but b10 (by have := fz8.1; omega)
          simp (disch := omega) only [go_sem, ↓reduceIte, Nat.reduceEqDiff, Nat.reduceAdd, Nat.reduceMul, Nat.reduceSub, Nat.reduceLT, Nat.reduceLeDiff, Nat.reduceBEq, reduceCtorEq, Int.reduceLT, Int.reduceEq, Int.reduceLE, Int.reduceAdd, Int.reduceSub, Int.reduceToNat, Int.reduceNeg, h10, h3, fy10.l, fz10.l, fu10.l, fw10.l]
          refine wJ_of (F.movetree_Tree_Move_J (m := ⟨(99, 99), 1000001, p, key, b⟩) T10 (by omega)) ?_; rintro _ S11 ⟨rfl, Z11, T11, z11, r11⟩
          have fu11 := fu10.step r11 z11
          have fw11 := fw10.step r11 z11
          have fy11 := fy10.step r11 z11
          have fz11 := fz10.step r11 z11
          have hnn : ¬ (noneP ((99, 99) : Dot) ∨ noneP b) := fun h => h.elim (by decide) hbn
          by_cases hid : ((99, 99) : Dot) ∈ L.map Mv.id
          · have em : moveA L ⟨(99, 99), 1000001, p, key, b⟩ = (32, L) := by
              unfold moveA
              rw [if_neg hnn, if_pos hid]
            have em1 : (moveA L ⟨(99, 99), 1000001, p, key, b⟩).1 = 32 := by rw [em]
            simp (disch := omega) only [go_sem, ↓reduceIte, Nat.reduceEqDiff, Nat.reduceAdd, Nat.reduceMul, Nat.reduceSub, Nat.reduceLT, Nat.reduceLeDiff, Nat.reduceBEq, reduceCtorEq, Int.reduceLT, Int.reduceEq, Int.reduceLE, Int.reduceAdd, Int.reduceSub, Int.reduceToNat, Int.reduceNeg, h10, h3, em1]
          have em : moveA L ⟨(99, 99), 1000001, p, key, b⟩ = (0, L ++ [⟨(99, 99), 1000001, p, key, b⟩]) := by
            unfold moveA
            rw [if_neg hnn, if_neg hid, insM_last fun x hx => by have := ht x hx; show x.time < 1000001; omega]
          have em1 : (moveA L ⟨(99, 99), 1000001, p, key, b⟩).1 = 0 := by rw [em]
          rw [em] at T11
          simp only at T11
          have hlook : alook b (runS (L ++ [⟨(99, 99), 1000001, p, key, b⟩])) = if takesP (runS L) ⟨(99, 99), 1000001, p, key, b⟩ then some (p, key) else alook b (runS L) := by rw [runS_snoc]; exact lm2
          simp (disch := omega) only [go_sem, ↓reduceIte, Nat.reduceEqDiff, Nat.reduceAdd, Nat.reduceMul, Nat.reduceSub, Nat.reduceLT, Nat.reduceLeDiff, Nat.reduceBEq, reduceCtorEq, Int.reduceLT, Int.reduceEq, Int.reduceLE, Int.reduceAdd, Int.reduceSub, Int.reduceToNat, Int.reduceNeg, h10, h3, em1, fy11.l]
          refine wJ_of (F.movetree_Tree_Parent_J (d := b) T11) ?_; rintro _ _ ⟨rfl, rfl⟩
          rw [hlook]
          simp (disch := omega) only [go_sem, ↓reduceIte, Nat.reduceEqDiff, Nat.reduceAdd, Nat.reduceMul, Nat.reduceSub, Nat.reduceLT, Nat.reduceLeDiff, Nat.reduceBEq, reduceCtorEq, Int.reduceLT, Int.reduceEq, Int.reduceLE, Int.reduceAdd, Int.reduceSub, Int.reduceToNat, Int.reduceNeg, h10, h3]
          refine walloc_x [.int .i64 0, .int .i64 0] fun t S12 e12 ot ht' htn => ?_
          have T12 := T11.ext e12
          have fu12 := fu11.ext e12
          have fw12 := fw11.ext e12
          have fy12 := fy11.ext e12
          have fz12 := fz11.ext e12
          rw [if_neg hm]
          simp (disch := omega) only [go_sem, ↓reduceIte, Nat.reduceEqDiff, Nat.reduceAdd, Nat.reduceMul, Nat.reduceSub, Nat.reduceLT, Nat.reduceLeDiff, Nat.reduceBEq, reduceCtorEq, Int.reduceLT, Int.reduceEq, Int.reduceLE, Int.reduceAdd, Int.reduceSub, Int.reduceToNat, Int.reduceNeg, h10, h3]
          refine wst_w [.int .i64 ((alook b (runS L)).getD zSpot).1.1, .int .i64 ((alook b (runS L)).getD zSpot).1.2] ot rfl rfl (by simp) (by simp) rfl fun S13 ot13 b13 ht13 => ?_
          have T13 := T12.but b13 (T11.off htn)
          have ft13 : Off Z11 S13 t [.int .i64 ((alook b (runS L)).getD zSpot).1.1, .int .i64 ((alook b (runS L)).getD zSpot).1.2] := ⟨ht13, T11.off htn t rfl, ot13⟩
          have fu13 := fu12.but b13 (by have := fu11.1; omega)
          have fw13 := fw12.but b13 (by have := fw11.1; omega)
          have fy13 := fy12.but b13 (by have := fy11.1; omega)
          have fz13 := fz12.but b13 (by have := fz11.1; omega)
          simp (disch := omega) only [go_sem, ↓reduceIte, Nat.reduceEqDiff, Nat.reduceAdd, Nat.reduceMul, Nat.reduceSub, Nat.reduceLT, Nat.reduceLeDiff, Nat.reduceBEq, reduceCtorEq, Int.reduceLT, Int.reduceEq, Int.reduceLE, Int.reduceAdd, Int.reduceSub, Int.reduceToNat, Int.reduceNeg, h10, h3, em1, hbs, fu13.l, fy13.l, fz13.l]
          refine wJ_of (F.movetree_Tree_Took_J (d := (99, 99)) T13 (by simp; omega)) ?_; rintro _ _ ⟨rfl, rfl⟩
          have dt : decide (tookP (L ++ [⟨(99, 99), 1000001, p, key, b⟩]) (99, 99)) = false := decide_eq_false fun h => hm ((tookP_snoc (m := ⟨(99, 99), 1000001, p, key, b⟩) hid).1 h)
          have epp := eqV_d ((alook b (runS L)).getD zSpot).1 ((alook b (runS L)).getD zSpot).1 (t := true) (by simp)
          have ekk : (((alook b (runS L)).getD zSpot).2 == ((alook b (runS L)).getD zSpot).2) = true := by rw [ba_beq]; simp
          simp (disch := omega) only [go_sem, ↓reduceIte, Nat.reduceEqDiff, Nat.reduceAdd, Nat.reduceMul, Nat.reduceSub, Nat.reduceLT, Nat.reduceLeDiff, Nat.reduceBEq, reduceCtorEq, Int.reduceLT, Int.reduceEq, Int.reduceLE, Int.reduceAdd, Int.reduceSub, Int.reduceToNat, Int.reduceNeg, h10, h3, dt, epp, ekk, ft13.l, fz13.l, fw13.l]
          refine wJ_of (F.movetree_Tree_Blocks_J T13 (by simp; omega)) ?_; rintro vb2 S14 ⟨hob2, e14⟩
          have hB2 : risen ((runS (L ++ [⟨(99, 99), 1000001, p, key, b⟩])).map Prod.fst) = B := by
            rw [← hB, runS_snoc]
            exact risen_congr lm3
          rw [hB2] at hob2
          have k8 : S3.Ext S8 := (g36.trans e7).but b8 fun j hj => by simp [blkOf] at hj; have := g36.n; omega
          have k10 : S3.Ext S10 := (k8.trans e9).but b10 fun j hj => by simp [blkOf] at hj; have := k8.n; omega
          have w10 := hob.ext dotE k10
          have w11 := w10.congr dotE r11.n fun c _ _ hv hc => r11.obj c hc fun e => by
            have h1 := (hob.blk dotE c (by rw [hv]; rfl)).1
            have h2 := T2.1 c e
            omega
          have w13 := (w11.ext dotE e12).but dotE b13 fun j hj => by have := (w11.blk dotE j hj).2; simp [blkOf]; omega
          have w14 := w13.ext dotE e14
          simp (disch := omega) only [go_sem, ↓reduceIte, Nat.reduceEqDiff, Nat.reduceAdd, Nat.reduceMul, Nat.reduceSub, Nat.reduceLT, Nat.reduceLeDiff, Nat.reduceBEq, reduceCtorEq, Int.reduceLT, Int.reduceEq, Int.reduceLE, Int.reduceAdd, Int.reduceSub, Int.reduceToNat, Int.reduceNeg, h10, h3]
          refine wJ_of (F.osierref03_Same.J (hob2.sl dotE) (w14.sl dotE) (by omega)) ?_; rintro _ _ ⟨rfl, rfl⟩
          simp (disch := omega) only [go_sem, ↓reduceIte, Nat.reduceEqDiff, Nat.reduceAdd, Nat.reduceMul, Nat.reduceSub, Nat.reduceLT, Nat.reduceLeDiff, Nat.reduceBEq, reduceCtorEq, Int.reduceLT, Int.reduceEq, Int.reduceLE, Int.reduceAdd, Int.reduceSub, Int.reduceToNat, Int.reduceNeg, h10, h3]
        have e1 := eqV_d p b (decide_eq_false q1)
        simp (disch := omega) only [go_sem, ↓reduceIte, Nat.reduceEqDiff, Nat.reduceAdd, Nat.reduceMul, Nat.reduceSub, Nat.reduceLT, Nat.reduceLeDiff, Nat.reduceBEq, reduceCtorEq, Int.reduceLT, Int.reduceEq, Int.reduceLE, Int.reduceAdd, Int.reduceSub, Int.reduceToNat, Int.reduceNeg, h10, h3, fz6.l, fy6.l, e1]
        refine wJ_of (F.movetree_Tree_Path_T (b := p) T6 (by omega)) ?_; rintro vp Sp ⟨hop, ep⟩
        have T6 := T6.ext ep
        have fy6 := fy6.ext ep
        have fz6 := fz6.ext ep
        have g36 := g36.trans ep
        have hpl : (pathA (runS L) p).length < 4611686018427387904 := by have h1 := ((okS_run L).pth p).len; have h2 := runS_len L; omega
        simp (disch := omega) only [go_sem, ↓reduceIte, Nat.reduceEqDiff, Nat.reduceAdd, Nat.reduceMul, Nat.reduceSub, Nat.reduceLT, Nat.reduceLeDiff, Nat.reduceBEq, reduceCtorEq, Int.reduceLT, Int.reduceEq, Int.reduceLE, Int.reduceAdd, Int.reduceSub, Int.reduceToNat, Int.reduceNeg, h10, h3, fy6.l]
        refine wJ_of (F.osierref03_In_P (hop.sl dotE) hpl) ?_; rintro _ _ ⟨rfl, rfl⟩
        by_cases q2 : b ∈ pathA (runS L) p
        · have dq : decide (b ∈ pathA (runS L) p) = true := decide_eq_true q2
          simp (disch := omega) only [go_sem, ↓reduceIte, Nat.reduceEqDiff, Nat.reduceAdd, Nat.reduceMul, Nat.reduceSub, Nat.reduceLT, Nat.reduceLeDiff, Nat.reduceBEq, reduceCtorEq, Int.reduceLT, Int.reduceEq, Int.reduceLE, Int.reduceAdd, Int.reduceSub, Int.reduceToNat, Int.reduceNeg, h10, h3, fy6.l, fz6.l, dq]
          have hm : ¬ takesP (runS L) ⟨(99, 99), 1000001, p, key, b⟩ := fun h => (lm1.1 h).2 q2
          refine wJ_of (F.movetree_Tree_Parent_J (d := b) T6) ?_; rintro _ _ ⟨rfl, rfl⟩
          simp (disch := omega) only [go_sem, ↓reduceIte, Nat.reduceEqDiff, Nat.reduceAdd, Nat.reduceMul, Nat.reduceSub, Nat.reduceLT, Nat.reduceLeDiff, Nat.reduceBEq, reduceCtorEq, Int.reduceLT, Int.reduceEq, Int.reduceLE, Int.reduceAdd, Int.reduceSub, Int.reduceToNat, Int.reduceNeg, h10, h3, fy6.l, fz6.l]
          refine walloc_x [.int .i64 0, .int .i64 0] fun w S7 e7 ow hw hwn => ?_
          simp (disch := omega) only [go_sem, ↓reduceIte, Nat.reduceEqDiff, Nat.reduceAdd, Nat.reduceMul, Nat.reduceSub, Nat.reduceLT, Nat.reduceLeDiff, Nat.reduceBEq, reduceCtorEq, Int.reduceLT, Int.reduceEq, Int.reduceLE, Int.reduceAdd, Int.reduceSub, Int.reduceToNat, Int.reduceNeg, h10, h3]
          refine wst_w [.int .i64 ((alook b (runS L)).getD zSpot).1.1, .int .i64 ((alook b (runS L)).getD zSpot).1.2] ow rfl rfl (by simp) (by simp) rfl fun S8 ow8 b8 hw8 => ?_
          have T8 := (T6.ext e7).but b8 (T6.off hwn)
          have fw8 : Off Z S8 w [.int .i64 ((alook b (runS L)).getD zSpot).1.1, .int .i64 ((alook b (runS L)).getD zSpot).1.2] := ⟨hw8, T6.off hwn w rfl, ow8⟩
          have fy8 := (fy6.ext e7).but b8 (by have := fy6.1; omega)
          have fz8 := (fz6.ext e7).but b8 (by have := fz6.1; omega)
          simp (disch := omega) only [go_sem, ↓reduceIte, Nat.reduceEqDiff, Nat.reduceAdd, Nat.reduceMul, Nat.reduceSub, Nat.reduceLT, Nat.reduceLeDiff, Nat.reduceBEq, reduceCtorEq, Int.reduceLT, Int.reduceEq, Int.reduceLE, Int.reduceAdd, Int.reduceSub, Int.reduceToNat, Int.reduceNeg, h10, h3, fy8.l, fz8.l]
          refine walloc_x [.int .i64 0, .int .i64 0] fun u S9 e9 ou hu hun => ?_
          simp (disch := omega) only [go_sem, ↓reduceIte, Nat.reduceEqDiff, Nat.reduceAdd, Nat.reduceMul, Nat.reduceSub, Nat.reduceLT, Nat.reduceLeDiff, Nat.reduceBEq, reduceCtorEq, Int.reduceLT, Int.reduceEq, Int.reduceLE, Int.reduceAdd, Int.reduceSub, Int.reduceToNat, Int.reduceNeg, h10, h3]
          refine wst_w [.int .i64 99, .int .i64 99] ou rfl rfl (by simp) (by simp) rfl fun S10 ou10 b10 hu10 => ?_
          have T10 := (T8.ext e9).but b10 (T8.off hun)
          have fu10 : Off Z S10 u [.int .i64 99, .int .i64 99] := ⟨hu10, T8.off hun u rfl, ou10⟩
          have fw10 := (fw8.ext e9).but b10 (by have := fw8.1; omega)
          have fy10 := (fy8.ext e9).but b10 (by have := fy8.1; omega)
          have fz10 := (fz8.ext e9).but b10 (by have := fz8.1; omega)
          simp (disch := omega) only [go_sem, ↓reduceIte, Nat.reduceEqDiff, Nat.reduceAdd, Nat.reduceMul, Nat.reduceSub, Nat.reduceLT, Nat.reduceLeDiff, Nat.reduceBEq, reduceCtorEq, Int.reduceLT, Int.reduceEq, Int.reduceLE, Int.reduceAdd, Int.reduceSub, Int.reduceToNat, Int.reduceNeg, h10, h3, fy10.l, fz10.l, fu10.l, fw10.l]
          refine wJ_of (F.movetree_Tree_Move_J (m := ⟨(99, 99), 1000001, p, key, b⟩) T10 (by omega)) ?_; rintro _ S11 ⟨rfl, Z11, T11, z11, r11⟩
          have fu11 := fu10.step r11 z11
          have fw11 := fw10.step r11 z11
          have fy11 := fy10.step r11 z11
          have fz11 := fz10.step r11 z11
          have hnn : ¬ (noneP ((99, 99) : Dot) ∨ noneP b) := fun h => h.elim (by decide) hbn
          by_cases hid : ((99, 99) : Dot) ∈ L.map Mv.id
          · have em : moveA L ⟨(99, 99), 1000001, p, key, b⟩ = (32, L) := by
              unfold moveA
              rw [if_neg hnn, if_pos hid]
            have em1 : (moveA L ⟨(99, 99), 1000001, p, key, b⟩).1 = 32 := by rw [em]
            simp (disch := omega) only [go_sem, ↓reduceIte, Nat.reduceEqDiff, Nat.reduceAdd, Nat.reduceMul, Nat.reduceSub, Nat.reduceLT, Nat.reduceLeDiff, Nat.reduceBEq, reduceCtorEq, Int.reduceLT, Int.reduceEq, Int.reduceLE, Int.reduceAdd, Int.reduceSub, Int.reduceToNat, Int.reduceNeg, h10, h3, em1]
          have em : moveA L ⟨(99, 99), 1000001, p, key, b⟩ = (0, L ++ [⟨(99, 99), 1000001, p, key, b⟩]) := by
            unfold moveA
            rw [if_neg hnn, if_neg hid, insM_last fun x hx => by have := ht x hx; show x.time < 1000001; omega]
          have em1 : (moveA L ⟨(99, 99), 1000001, p, key, b⟩).1 = 0 := by rw [em]
          rw [em] at T11
          simp only at T11
          have hlook : alook b (runS (L ++ [⟨(99, 99), 1000001, p, key, b⟩])) = if takesP (runS L) ⟨(99, 99), 1000001, p, key, b⟩ then some (p, key) else alook b (runS L) := by rw [runS_snoc]; exact lm2
          simp (disch := omega) only [go_sem, ↓reduceIte, Nat.reduceEqDiff, Nat.reduceAdd, Nat.reduceMul, Nat.reduceSub, Nat.reduceLT, Nat.reduceLeDiff, Nat.reduceBEq, reduceCtorEq, Int.reduceLT, Int.reduceEq, Int.reduceLE, Int.reduceAdd, Int.reduceSub, Int.reduceToNat, Int.reduceNeg, h10, h3, em1, fy11.l]
          refine wJ_of (F.movetree_Tree_Parent_J (d := b) T11) ?_; rintro _ _ ⟨rfl, rfl⟩
          rw [hlook]
          simp (disch := omega) only [go_sem, ↓reduceIte, Nat.reduceEqDiff, Nat.reduceAdd, Nat.reduceMul, Nat.reduceSub, Nat.reduceLT, Nat.reduceLeDiff, Nat.reduceBEq, reduceCtorEq, Int.reduceLT, Int.reduceEq, Int.reduceLE, Int.reduceAdd, Int.reduceSub, Int.reduceToNat, Int.reduceNeg, h10, h3]
          refine walloc_x [.int .i64 0, .int .i64 0] fun t S12 e12 ot ht' htn => ?_
          have T12 := T11.ext e12
          have fu12 := fu11.ext e12
          have fw12 := fw11.ext e12
          have fy12 := fy11.ext e12
          have fz12 := fz11.ext e12
          rw [if_neg hm]
          simp (disch := omega) only [go_sem, ↓reduceIte, Nat.reduceEqDiff, Nat.reduceAdd, Nat.reduceMul, Nat.reduceSub, Nat.reduceLT, Nat.reduceLeDiff, Nat.reduceBEq, reduceCtorEq, Int.reduceLT, Int.reduceEq, Int.reduceLE, Int.reduceAdd, Int.reduceSub, Int.reduceToNat, Int.reduceNeg, h10, h3]
          refine wst_w [.int .i64 ((alook b (runS L)).getD zSpot).1.1, .int .i64 ((alook b (runS L)).getD zSpot).1.2] ot rfl rfl (by simp) (by simp) rfl fun S13 ot13 b13 ht13 => ?_
          have T13 := T12.but b13 (T11.off htn)
          have ft13 : Off Z11 S13 t [.int .i64 ((alook b (runS L)).getD zSpot).1.1, .int .i64 ((alook b (runS L)).getD zSpot).1.2] := ⟨ht13, T11.off htn t rfl, ot13⟩
          have fu13 := fu12.but b13 (by have := fu11.1; omega)
          have fw13 := fw12.but b13 (by have := fw11.1; omega)
          have fy13 := fy12.but b13 (by have := fy11.1; omega)
          have fz13 := fz12.but b13 (by have := fz11.1; omega)
          simp (disch := omega) only [go_sem, ↓reduceIte, Nat.reduceEqDiff, Nat.reduceAdd, Nat.reduceMul, Nat.reduceSub, Nat.reduceLT, Nat.reduceLeDiff, Nat.reduceBEq, reduceCtorEq, Int.reduceLT, Int.reduceEq, Int.reduceLE, Int.reduceAdd, Int.reduceSub, Int.reduceToNat, Int.reduceNeg, h10, h3, em1, hbs, fu13.l, fy13.l, fz13.l]
          refine wJ_of (F.movetree_Tree_Took_J (d := (99, 99)) T13 (by simp; omega)) ?_; rintro _ _ ⟨rfl, rfl⟩
          have dt : decide (tookP (L ++ [⟨(99, 99), 1000001, p, key, b⟩]) (99, 99)) = false := decide_eq_false fun h => hm ((tookP_snoc (m := ⟨(99, 99), 1000001, p, key, b⟩) hid).1 h)
          have epp := eqV_d ((alook b (runS L)).getD zSpot).1 ((alook b (runS L)).getD zSpot).1 (t := true) (by simp)
          have ekk : (((alook b (runS L)).getD zSpot).2 == ((alook b (runS L)).getD zSpot).2) = true := by rw [ba_beq]; simp
          simp (disch := omega) only [go_sem, ↓reduceIte, Nat.reduceEqDiff, Nat.reduceAdd, Nat.reduceMul, Nat.reduceSub, Nat.reduceLT, Nat.reduceLeDiff, Nat.reduceBEq, reduceCtorEq, Int.reduceLT, Int.reduceEq, Int.reduceLE, Int.reduceAdd, Int.reduceSub, Int.reduceToNat, Int.reduceNeg, h10, h3, dt, epp, ekk, ft13.l, fz13.l, fw13.l]
          refine wJ_of (F.movetree_Tree_Blocks_J T13 (by simp; omega)) ?_; rintro vb2 S14 ⟨hob2, e14⟩
          have hB2 : risen ((runS (L ++ [⟨(99, 99), 1000001, p, key, b⟩])).map Prod.fst) = B := by
            rw [← hB, runS_snoc]
            exact risen_congr lm3
          rw [hB2] at hob2
          have k8 : S3.Ext S8 := (g36.trans e7).but b8 fun j hj => by simp [blkOf] at hj; have := g36.n; omega
          have k10 : S3.Ext S10 := (k8.trans e9).but b10 fun j hj => by simp [blkOf] at hj; have := k8.n; omega
          have w10 := hob.ext dotE k10
          have w11 := w10.congr dotE r11.n fun c _ _ hv hc => r11.obj c hc fun e => by
            have h1 := (hob.blk dotE c (by rw [hv]; rfl)).1
            have h2 := T2.1 c e
            omega
          have w13 := (w11.ext dotE e12).but dotE b13 fun j hj => by have := (w11.blk dotE j hj).2; simp [blkOf]; omega
          have w14 := w13.ext dotE e14
          simp (disch := omega) only [go_sem, ↓reduceIte, Nat.reduceEqDiff, Nat.reduceAdd, Nat.reduceMul, Nat.reduceSub, Nat.reduceLT, Nat.reduceLeDiff, Nat.reduceBEq, reduceCtorEq, Int.reduceLT, Int.reduceEq, Int.reduceLE, Int.reduceAdd, Int.reduceSub, Int.reduceToNat, Int.reduceNeg, h10, h3]
          refine wJ_of (F.osierref03_Same.J (hob2.sl dotE) (w14.sl dotE) (by omega)) ?_; rintro _ _ ⟨rfl, rfl⟩
          simp (disch := omega) only [go_sem, ↓reduceIte, Nat.reduceEqDiff, Nat.reduceAdd, Nat.reduceMul, Nat.reduceSub, Nat.reduceLT, Nat.reduceLeDiff, Nat.reduceBEq, reduceCtorEq, Int.reduceLT, Int.reduceEq, Int.reduceLE, Int.reduceAdd, Int.reduceSub, Int.reduceToNat, Int.reduceNeg, h10, h3]
        · have dq : decide (b ∈ pathA (runS L) p) = false := decide_eq_false q2
          simp (disch := omega) only [go_sem, ↓reduceIte, Nat.reduceEqDiff, Nat.reduceAdd, Nat.reduceMul, Nat.reduceSub, Nat.reduceLT, Nat.reduceLeDiff, Nat.reduceBEq, reduceCtorEq, Int.reduceLT, Int.reduceEq, Int.reduceLE, Int.reduceAdd, Int.reduceSub, Int.reduceToNat, Int.reduceNeg, h10, h3, fy6.l, fz6.l, dq]
          have hm : takesP (runS L) ⟨(99, 99), 1000001, p, key, b⟩ := lm1.2 ⟨q1, q2⟩
          refine wJ_of (F.movetree_Tree_Parent_J (d := b) T6) ?_; rintro _ _ ⟨rfl, rfl⟩
          simp (disch := omega) only [go_sem, ↓reduceIte, Nat.reduceEqDiff, Nat.reduceAdd, Nat.reduceMul, Nat.reduceSub, Nat.reduceLT, Nat.reduceLeDiff, Nat.reduceBEq, reduceCtorEq, Int.reduceLT, Int.reduceEq, Int.reduceLE, Int.reduceAdd, Int.reduceSub, Int.reduceToNat, Int.reduceNeg, h10, h3, fy6.l, fz6.l]
          refine walloc_x [.int .i64 0, .int .i64 0] fun w S7 e7 ow hw hwn => ?_
          simp (disch := omega) only [go_sem, ↓reduceIte, Nat.reduceEqDiff, Nat.reduceAdd, Nat.reduceMul, Nat.reduceSub, Nat.reduceLT, Nat.reduceLeDiff, Nat.reduceBEq, reduceCtorEq, Int.reduceLT, Int.reduceEq, Int.reduceLE, Int.reduceAdd, Int.reduceSub, Int.reduceToNat, Int.reduceNeg, h10, h3]
          refine wst_w [.int .i64 ((alook b (runS L)).getD zSpot).1.1, .int .i64 ((alook b (runS L)).getD zSpot).1.2] ow rfl rfl (by simp) (by simp) rfl fun S8 ow8 b8 hw8 => ?_
          have T8 := (T6.ext e7).but b8 (T6.off hwn)
          have fw8 : Off Z S8 w [.int .i64 ((alook b (runS L)).getD zSpot).1.1, .int .i64 ((alook b (runS L)).getD zSpot).1.2] := ⟨hw8, T6.off hwn w rfl, ow8⟩
          have fy8 := (fy6.ext e7).but b8 (by have := fy6.1; omega)
          have fz8 := (fz6.ext e7).but b8 (by have := fz6.1; omega)
          simp (disch := omega) only [go_sem, ↓reduceIte, Nat.reduceEqDiff, Nat.reduceAdd, Nat.reduceMul, Nat.reduceSub, Nat.reduceLT, Nat.reduceLeDiff, Nat.reduceBEq, reduceCtorEq, Int.reduceLT, Int.reduceEq, Int.reduceLE, Int.reduceAdd, Int.reduceSub, Int.reduceToNat, Int.reduceNeg, h10, h3, fy8.l, fz8.l]
          refine walloc_x [.int .i64 0, .int .i64 0] fun u S9 e9 ou hu hun => ?_
          simp (disch := omega) only [go_sem, ↓reduceIte, Nat.reduceEqDiff, Nat.reduceAdd, Nat.reduceMul, Nat.reduceSub, Nat.reduceLT, Nat.reduceLeDiff, Nat.reduceBEq, reduceCtorEq, Int.reduceLT, Int.reduceEq, Int.reduceLE, Int.reduceAdd, Int.reduceSub, Int.reduceToNat, Int.reduceNeg, h10, h3]
          refine wst_w [.int .i64 99, .int .i64 99] ou rfl rfl (by simp) (by simp) rfl fun S10 ou10 b10 hu10 => ?_
          have T10 := (T8.ext e9).but b10 (T8.off hun)
          have fu10 : Off Z S10 u [.int .i64 99, .int .i64 99] := ⟨hu10, T8.off hun u rfl, ou10⟩
          have fw10 := (fw8.ext e9).but b10 (by have := fw8.1; omega)
          have fy10 := (fy8.ext e9).but b10 (by have := fy8.1; omega)
          have fz10 := (fz8.ext e9).but b10 (by have := fz8.1; omega)
          simp (disch := omega) only [go_sem, ↓reduceIte, Nat.reduceEqDiff, Nat.reduceAdd, Nat.reduceMul, Nat.reduceSub, Nat.reduceLT, Nat.reduceLeDiff, Nat.reduceBEq, reduceCtorEq, Int.reduceLT, Int.reduceEq, Int.reduceLE, Int.reduceAdd, Int.reduceSub, Int.reduceToNat, Int.reduceNeg, h10, h3, fy10.l, fz10.l, fu10.l, fw10.l]
          refine wJ_of (F.movetree_Tree_Move_J (m := ⟨(99, 99), 1000001, p, key, b⟩) T10 (by omega)) ?_; rintro _ S11 ⟨rfl, Z11, T11, z11, r11⟩
          have fu11 := fu10.step r11 z11
          have fw11 := fw10.step r11 z11
          have fy11 := fy10.step r11 z11
          have fz11 := fz10.step r11 z11
          have hnn : ¬ (noneP ((99, 99) : Dot) ∨ noneP b) := fun h => h.elim (by decide) hbn
          by_cases hid : ((99, 99) : Dot) ∈ L.map Mv.id
          · have em : moveA L ⟨(99, 99), 1000001, p, key, b⟩ = (32, L) := by
              unfold moveA
              rw [if_neg hnn, if_pos hid]
            have em1 : (moveA L ⟨(99, 99), 1000001, p, key, b⟩).1 = 32 := by rw [em]
            simp (disch := omega) only [go_sem, ↓reduceIte, Nat.reduceEqDiff, Nat.reduceAdd, Nat.reduceMul, Nat.reduceSub, Nat.reduceLT, Nat.reduceLeDiff, Nat.reduceBEq, reduceCtorEq, Int.reduceLT, Int.reduceEq, Int.reduceLE, Int.reduceAdd, Int.reduceSub, Int.reduceToNat, Int.reduceNeg, h10, h3, em1]
          have em : moveA L ⟨(99, 99), 1000001, p, key, b⟩ = (0, L ++ [⟨(99, 99), 1000001, p, key, b⟩]) := by
            unfold moveA
            rw [if_neg hnn, if_neg hid, insM_last fun x hx => by have := ht x hx; show x.time < 1000001; omega]
          have em1 : (moveA L ⟨(99, 99), 1000001, p, key, b⟩).1 = 0 := by rw [em]
          rw [em] at T11
          simp only at T11
          have hlook : alook b (runS (L ++ [⟨(99, 99), 1000001, p, key, b⟩])) = if takesP (runS L) ⟨(99, 99), 1000001, p, key, b⟩ then some (p, key) else alook b (runS L) := by rw [runS_snoc]; exact lm2
          simp (disch := omega) only [go_sem, ↓reduceIte, Nat.reduceEqDiff, Nat.reduceAdd, Nat.reduceMul, Nat.reduceSub, Nat.reduceLT, Nat.reduceLeDiff, Nat.reduceBEq, reduceCtorEq, Int.reduceLT, Int.reduceEq, Int.reduceLE, Int.reduceAdd, Int.reduceSub, Int.reduceToNat, Int.reduceNeg, h10, h3, em1, fy11.l]
          refine wJ_of (F.movetree_Tree_Parent_J (d := b) T11) ?_; rintro _ _ ⟨rfl, rfl⟩
          rw [hlook]
          simp (disch := omega) only [go_sem, ↓reduceIte, Nat.reduceEqDiff, Nat.reduceAdd, Nat.reduceMul, Nat.reduceSub, Nat.reduceLT, Nat.reduceLeDiff, Nat.reduceBEq, reduceCtorEq, Int.reduceLT, Int.reduceEq, Int.reduceLE, Int.reduceAdd, Int.reduceSub, Int.reduceToNat, Int.reduceNeg, h10, h3]
          refine walloc_x [.int .i64 0, .int .i64 0] fun t S12 e12 ot ht' htn => ?_
          have T12 := T11.ext e12
          have fu12 := fu11.ext e12
          have fw12 := fw11.ext e12
          have fy12 := fy11.ext e12
          have fz12 := fz11.ext e12
          rw [if_pos hm]
          simp (disch := omega) only [go_sem, ↓reduceIte, Nat.reduceEqDiff, Nat.reduceAdd, Nat.reduceMul, Nat.reduceSub, Nat.reduceLT, Nat.reduceLeDiff, Nat.reduceBEq, reduceCtorEq, Int.reduceLT, Int.reduceEq, Int.reduceLE, Int.reduceAdd, Int.reduceSub, Int.reduceToNat, Int.reduceNeg, h10, h3, Option.getD_some]
          refine wst_w [.int .i64 p.1, .int .i64 p.2] ot rfl rfl (by simp) (by simp) rfl fun S13 ot13 b13 ht13 => ?_
          have T13 := T12.but b13 (T11.off htn)
          have ft13 : Off Z11 S13 t [.int .i64 p.1, .int .i64 p.2] := ⟨ht13, T11.off htn t rfl, ot13⟩
          have fu13 := fu12.but b13 (by have := fu11.1; omega)
          have fw13 := fw12.but b13 (by have := fw11.1; omega)
          have fy13 := fy12.but b13 (by have := fy11.1; omega)
          have fz13 := fz12.but b13 (by have := fz11.1; omega)
          simp (disch := omega) only [go_sem, ↓reduceIte, Nat.reduceEqDiff, Nat.reduceAdd, Nat.reduceMul, Nat.reduceSub, Nat.reduceLT, Nat.reduceLeDiff, Nat.reduceBEq, reduceCtorEq, Int.reduceLT, Int.reduceEq, Int.reduceLE, Int.reduceAdd, Int.reduceSub, Int.reduceToNat, Int.reduceNeg, h10, h3, em1, Option.isSome_some, fu13.l, fy13.l, fz13.l]
          refine wJ_of (F.movetree_Tree_Took_J (d := (99, 99)) T13 (by simp; omega)) ?_; rintro _ _ ⟨rfl, rfl⟩
          have dt : decide (tookP (L ++ [⟨(99, 99), 1000001, p, key, b⟩]) (99, 99)) = true := decide_eq_true ((tookP_snoc (m := ⟨(99, 99), 1000001, p, key, b⟩) hid).2 hm)
          have epp := eqV_d p p (t := true) (by simp)
          have ekk : (key == key) = true := by rw [ba_beq]; simp
          simp (disch := omega) only [go_sem, ↓reduceIte, Nat.reduceEqDiff, Nat.reduceAdd, Nat.reduceMul, Nat.reduceSub, Nat.reduceLT, Nat.reduceLeDiff, Nat.reduceBEq, reduceCtorEq, Int.reduceLT, Int.reduceEq, Int.reduceLE, Int.reduceAdd, Int.reduceSub, Int.reduceToNat, Int.reduceNeg, h10, h3, dt, epp, ekk, ft13.l, fz13.l, fw13.l]
          refine wJ_of (F.movetree_Tree_Blocks_J T13 (by simp; omega)) ?_; rintro vb2 S14 ⟨hob2, e14⟩
          have hB2 : risen ((runS (L ++ [⟨(99, 99), 1000001, p, key, b⟩])).map Prod.fst) = B := by
            rw [← hB, runS_snoc]
            exact risen_congr lm3
          rw [hB2] at hob2
          have k8 : S3.Ext S8 := (g36.trans e7).but b8 fun j hj => by simp [blkOf] at hj; have := g36.n; omega
          have k10 : S3.Ext S10 := (k8.trans e9).but b10 fun j hj => by simp [blkOf] at hj; have := k8.n; omega
          have w10 := hob.ext dotE k10
          have w11 := w10.congr dotE r11.n fun c _ _ hv hc => r11.obj c hc fun e => by
            have h1 := (hob.blk dotE c (by rw [hv]; rfl)).1
            have h2 := T2.1 c e
            omega
          have w13 := (w11.ext dotE e12).but dotE b13 fun j hj => by have := (w11.blk dotE j hj).2; simp [blkOf]; omega
          have w14 := w13.ext dotE e14
          simp (disch := omega) only [go_sem, ↓reduceIte, Nat.reduceEqDiff, Nat.reduceAdd, Nat.reduceMul, Nat.reduceSub, Nat.reduceLT, Nat.reduceLeDiff, Nat.reduceBEq, reduceCtorEq, Int.reduceLT, Int.reduceEq, Int.reduceLE, Int.reduceAdd, Int.reduceSub, Int.reduceToNat, Int.reduceNeg, h10, h3]
          refine wJ_of (F.osierref03_Same.J (hob2.sl dotE) (w14.sl dotE) (by omega)) ?_; rintro _ _ ⟨rfl, rfl⟩
          simp (disch := omega) only [go_sem, ↓reduceIte, Nat.reduceEqDiff, Nat.reduceAdd, Nat.reduceMul, Nat.reduceSub, Nat.reduceLT, Nat.reduceLeDiff, Nat.reduceBEq, reduceCtorEq, Int.reduceLT, Int.reduceEq, Int.reduceLE, Int.reduceAdd, Int.reduceSub, Int.reduceToNat, Int.reduceNeg, h10, h3]
  · obtain ⟨A1, hA1⟩ : ∃ A1 : Int, A1 = n1 := ⟨_, rfl⟩
    rw [← hA1] at h1
    have ha1 : 0 ≤ A1 := by omega
    have s1 : ¬ A1 < 0 := by omega
    by_cases s2 : n2 < 0
    · have q2 := hn2
      obtain ⟨A2, hA2⟩ : ∃ A2 : Int, A2 = 0 - (n2 + 1) := ⟨_, rfl⟩
      have a2 : 0 - (n2 + 1) = A2 := hA2.symm
      have ha2 : 0 ≤ A2 := by omega
      simp (disch := omega) only [go_sem, ↓reduceIte, Nat.reduceEqDiff, Nat.reduceAdd, Nat.reduceMul, Nat.reduceSub, Nat.reduceLT, Nat.reduceLeDiff, Nat.reduceBEq, reduceCtorEq, Int.reduceLT, Int.reduceEq, Int.reduceLE, Int.reduceAdd, Int.reduceSub, Int.reduceToNat, Int.reduceNeg, h1, h2, s1, s2, a2]
      obtain ⟨k1, hk1, hk1l⟩ := tmod_nat (a := A1) (n := B.length) ha1 hBp
      obtain ⟨b0, o0, rfl, hb0, l0⟩ := hsb.dot hk1l
      have c1 : (0 : Int) ≤ (k1 : Int) ∧ (k1 : Int) < (B.length : Int) := by omega
      simp (disch := omega) only [go_sem, ↓reduceIte, Nat.reduceEqDiff, Nat.reduceAdd, Nat.reduceMul, Nat.reduceSub, Nat.reduceLT, Nat.reduceLeDiff, Nat.reduceBEq, reduceCtorEq, Int.reduceLT, Int.reduceEq, Int.reduceLE, Int.reduceAdd, Int.reduceSub, Int.reduceToNat, Int.reduceNeg, h1, h2, h10, hBz, hk1, c1, l0]
      generalize hb : B[k1] = b at *
      have hbs : (alook b (runS L)).isSome = true := (hBm b).1 (hb ▸ List.getElem_mem hk1l)
      have hbn : ¬ noneP b := by obtain ⟨x, hx, e⟩ := key_block hbs; exact e ▸ (hg x hx).2
      refine walloc_x [.int .i64 0, .int .i64 0] fun y S4 e4 oy hy hyn => ?_
      simp (disch := omega) only [go_sem, ↓reduceIte, Nat.reduceEqDiff, Nat.reduceAdd, Nat.reduceMul, Nat.reduceSub, Nat.reduceLT, Nat.reduceLeDiff, Nat.reduceBEq, reduceCtorEq, Int.reduceLT, Int.reduceEq, Int.reduceLE, Int.reduceAdd, Int.reduceSub, Int.reduceToNat, Int.reduceNeg]
      refine wst_w [.int .i64 b.1, .int .i64 b.2] oy rfl rfl (by simp) (by simp) rfl fun S5 oy5 b5 hy5 => ?_
      have T5 := (T3.ext e4).but b5 (T3.off hyn)
      have fy5 : Off Z S5 y [.int .i64 b.1, .int .i64 b.2] := ⟨hy5, T3.off hyn y rfl, oy5⟩
      have g35 : S3.Ext S5 := e4.but b5 fun j hj => by simp [blkOf] at hj; omega
      simp (disch := omega) only [go_sem, ↓reduceIte, Nat.reduceEqDiff, Nat.reduceAdd, Nat.reduceMul, Nat.reduceSub, Nat.reduceLT, Nat.reduceLeDiff, Nat.reduceBEq, reduceCtorEq, Int.reduceLT, Int.reduceEq, Int.reduceLE, Int.reduceAdd, Int.reduceSub, Int.reduceToNat, Int.reduceNeg]
      refine wJ_of F.api_Trash_J ?_; rintro _ _ ⟨rfl, rfl⟩
      simp (disch := omega) only [go_sem, ↓reduceIte, Nat.reduceEqDiff, Nat.reduceAdd, Nat.reduceMul, Nat.reduceSub, Nat.reduceLT, Nat.reduceLeDiff, Nat.reduceBEq, reduceCtorEq, Int.reduceLT, Int.reduceEq, Int.reduceLE, Int.reduceAdd, Int.reduceSub, Int.reduceToNat, Int.reduceNeg]
      refine walloc_x [.int .i64 0, .int .i64 0] fun z S5' e5 oz hzb hzn => ?_
      simp (disch := omega) only [go_sem, ↓reduceIte, Nat.reduceEqDiff, Nat.reduceAdd, Nat.reduceMul, Nat.reduceSub, Nat.reduceLT, Nat.reduceLeDiff, Nat.reduceBEq, reduceCtorEq, Int.reduceLT, Int.reduceEq, Int.reduceLE, Int.reduceAdd, Int.reduceSub, Int.reduceToNat, Int.reduceNeg]
      refine wst_w [.int .i64 0, .int .i64 (-2)] oz rfl rfl (by simp) (by simp) rfl fun S6 oz6 b6 hz6 => ?_
      have T6 := (T5.ext e5).but b6 (T5.off hzn)
      have fz6 : Off Z S6 z [.int .i64 0, .int .i64 (-2)] := ⟨hz6, T5.off hzn z rfl, oz6⟩
      have fy6 := (fy5.ext e5).but b6 (by have := fy5.1; omega)
      have g36 : S3.Ext S6 := (g35.trans e5).but b6 fun j hj => by simp [blkOf] at hj; have := g35.n; omega
      obtain ⟨k2, hk2, hk2l⟩ := tmod_nat (a := A2) (n := B.length + 1) ha2 (Nat.succ_pos _)
      replace hk2 : A2.tmod ((B.length : Int) + 1) = k2 := hk2
      have hB1 : ¬ ((B.length : Int) + 1 = 0) := by omega
      by_cases hp2 : k2 < B.length
      · have i2 : (k2 : Int) < (B.length : Int) := by omega
        have c2 : (0 : Int) ≤ (k2 : Int) ∧ (k2 : Int) < (B.length : Int) := by omega
        obtain ⟨b0', o0', hbb, -, l2⟩ := (hsb.ext dotE g36).dot hp2
        injection hbb with hbb
        injection hbb with hb1 hb2
        subst hb1 hb2
        simp (disch := omega) only [go_sem, ↓reduceIte, Nat.reduceEqDiff, Nat.reduceAdd, Nat.reduceMul, Nat.reduceSub, Nat.reduceLT, Nat.reduceLeDiff, Nat.reduceBEq, reduceCtorEq, Int.reduceLT, Int.reduceEq, Int.reduceLE, Int.reduceAdd, Int.reduceSub, Int.reduceToNat, Int.reduceNeg, h1, h2, h10, hB1, hk2, i2, c2, l2]
        generalize hpe : B[k2] = p at *
        have hp : p = trashD ∨ (alook p (runS L)).isSome = true := .inr ((hBm p).1 (hpe ▸ List.getElem_mem hp2))
        refine wst_w [.int .i64 p.1, .int .i64 p.2] fz6.2.2 rfl rfl (by simp) (by simp) rfl fun S6' oz6' b6' hz6' => ?_
        have hyz : z ≠ y := by have := fy5.1; omega
        have T6 := T6.but b6' (T5.off hzn)
        have fz6 : Off Z S6' z [.int .i64 p.1, .int .i64 p.2] := ⟨hz6', T5.off hzn z rfl, oz6'⟩
        have fy6 := fy6.but b6' hyz
        have g36 : S3.Ext S6' := g36.but b6' fun j hj => by simp [blkOf] at hj; have := g35.n; omega
        obtain ⟨lm1, lm2, lm3⟩ := last_move (L := L) (b := b) (p := p) (key := key) (i := (99, 99)) (t := 1000001) hbs hp
        by_cases q1 : p = b
        · have e1 := eqV_d p b (decide_eq_true q1)
          simp (disch := omega) only [go_sem, ↓reduceIte, Nat.reduceEqDiff, Nat.reduceAdd, Nat.reduceMul, Nat.reduceSub, Nat.reduceLT, Nat.reduceLeDiff, Nat.reduceBEq, reduceCtorEq, Int.reduceLT, Int.reduceEq, Int.reduceLE, Int.reduceAdd, Int.reduceSub, Int.reduceToNat, Int.reduceNeg, h10, h3, fz6.l, fy6.l, e1]
          have hm : ¬ takesP (runS L) ⟨(99, 99), 1000001, p, key, b⟩ := fun h => (lm1.1 h).1 q1
          refine wJ_of (F.movetree_Tree_Parent_J (d := b) T6) ?_; rintro _ _ ⟨rfl, rfl⟩
          simp (disch := omega) only [go_sem, ↓reduceIte, Nat.reduceEqDiff, Nat.reduceAdd, Nat.reduceMul, Nat.reduceSub, Nat.reduceLT, Nat.reduceLeDiff, Nat.reduceBEq, reduceCtorEq, Int.reduceLT, Int.reduceEq, Int.reduceLE, Int.reduceAdd, Int.reduceSub, Int.reduceToNat, Int.reduceNeg, h10, h3, fy6.l, fz6.l]
          refine walloc_x [.int .i64 0, .int .i64 0] fun w S7 e7 ow hw hwn => ?_
          simp (disch := omega) only [go_sem, ↓reduceIte, Nat.reduceEqDiff, Nat.reduceAdd, Nat.reduceMul, Nat.reduceSub, Nat.reduceLT, Nat.reduceLeDiff, Nat.reduceBEq, reduceCtorEq, Int.reduceLT, Int.reduceEq, Int.reduceLE, Int.reduceAdd, Int.reduceSub, Int.reduceToNat, Int.reduceNeg, h10, h3]
          refine wst_w [.int .i64 ((alook b (runS L)).getD zSpot).1.1, .int .i64 ((alook b (runS L)).getD zSpot).1.2] ow rfl rfl (by simp) (by simp) rfl fun S8 ow8 b8 hw8 => ?_
          have T8 := (T6.ext e7).but b8 (T6.off hwn)
          have fw8 : Off Z S8 w [.int .i64 ((alook b (runS L)).getD zSpot).1.1, .int .i64 ((alook b (runS L)).getD zSpot).1.2] := ⟨hw8, T6.off hwn w rfl, ow8⟩
          have fy8 := (fy6.ext e7).but b8 (by have := fy6.1; omega)
          have fz8 := (fz6.ext e7).but b8 (by have := fz6.1; omega)
          simp (disch := omega) only [go_sem, ↓reduceIte, Nat.reduceEqDiff, Nat.reduceAdd, Nat.reduceMul, Nat.reduceSub, Nat.reduceLT, Nat.reduceLeDiff, Nat.reduceBEq, reduceCtorEq, Int.reduceLT, Int.reduceEq, Int.reduceLE, Int.reduceAdd, Int.reduceSub, Int.reduceToNat, Int.reduceNeg, h10, h3, fy8.l, fz8.l]
          refine walloc_x [.int .i64 0, .int .i64 0] fun u S9 e9 ou hu hun => ?_
          simp (disch := omega) only [go_sem, ↓reduceIte, Nat.reduceEqDiff, Nat.reduceAdd, Nat.reduceMul, Nat.reduceSub, Nat.reduceLT, Nat.reduceLeDiff, Nat.reduceBEq, reduceCtorEq, Int.reduceLT, Int.reduceEq, Int.reduceLE, Int.reduceAdd, Int.reduceSub, Int.reduceToNat, Int.reduceNeg, h10, h3]
          refine wst_w [.int .i64 99, .int .i64 99] ou rfl rfl (by simp) (by simp) rfl fun S10 ou10 b10 hu10 => ?_
          have T10 := (T8.ext e9).but b10 (T8.off hun)
          have fu10 : Off Z S10 u [.int .i64 99, .int .i64 99] := ⟨hu10, T8.off hun u rfl, ou10⟩
          have fw10 := (fw8.ext e9).but b10 (by have := fw8.1; omega)
          have fy10 := (fy8.ext e9).but b10 (by have := fy8.1; omega)
          have fz10 := (fz8.ext e9).but b10 (by have := fz8.1; omega)
          simp (disch := omega) only [go_sem, ↓reduceIte, Nat.reduceEqDiff, Nat.reduceAdd, Nat.reduceMul, Nat.reduceSub, Nat.reduceLT, Nat.reduceLeDiff, Nat.reduceBEq, reduceCtorEq, Int.reduceLT, Int.reduceEq, Int.reduceLE, Int.reduceAdd, Int.reduceSub, Int.reduceToNat, Int.reduceNeg, h10, h3, fy10.l, fz10.l, fu10.l, fw10.l]
          refine wJ_of (F.movetree_Tree_Move_J (m := ⟨(99, 99), 1000001, p, key, b⟩) T10 (by omega)) ?_; rintro _ S11 ⟨rfl, Z11, T11, z11, r11⟩
          have fu11 := fu10.step r11 z11
          have fw11 := fw10.step r11 z11
          have fy11 := fy10.step r11 z11
          have fz11 := fz10.step r11 z11
          have hnn : ¬ (noneP ((99, 99) : Dot) ∨ noneP b) := fun h => h.elim (by decide) hbn
          by_cases hid : ((99, 99) : Dot) ∈ L.map Mv.id
          · have em : moveA L ⟨(99, 99), 1000001, p, key, b⟩ = (32, L) := by
              unfold moveA
              rw [if_neg hnn, if_pos hid]
            have em1 : (moveA L ⟨(99, 99), 1000001, p, key, b⟩).1 = 32 := by rw [em]
            simp (disch := omega) only [go_sem, ↓reduceIte, Nat.reduceEqDiff, Nat.reduceAdd, Nat.reduceMul, Nat.reduceSub, Nat.reduceLT, Nat.reduceLeDiff, Nat.reduceBEq, reduceCtorEq, Int.reduceLT, Int.reduceEq, Int.reduceLE, Int.reduceAdd, Int.reduceSub, Int.reduceToNat, Int.reduceNeg, h10, h3, em1]
          have em : moveA L ⟨(99, 99), 1000001, p, key, b⟩ = (0, L ++ [⟨(99, 99), 1000001, p, key, b⟩]) := by
            unfold moveA
            rw [if_neg hnn, if_neg hid, insM_last fun x hx => by have := ht x hx; show x.time < 1000001; omega]
          have em1 : (moveA L ⟨(99, 99), 1000001, p, key, b⟩).1 = 0 := by rw [em]
          rw [em] at T11
          simp only at T11
          have hlook : alook b (runS (L ++ [⟨(99, 99), 1000001, p, key, b⟩])) = if takesP (runS L) ⟨(99, 99), 1000001, p, key, b⟩ then some (p, key) else alook b (runS L) := by rw [runS_snoc]; exact lm2
          simp (disch := omega) only [go_sem, ↓reduceIte, Nat.reduceEqDiff, Nat.reduceAdd, Nat.reduceMul, Nat.reduceSub, Nat.reduceLT, Nat.reduceLeDiff, Nat.reduceBEq, reduceCtorEq, Int.reduceLT, Int.reduceEq, Int.reduceLE, Int.reduceAdd, Int.reduceSub, Int.reduceToNat, Int.reduceNeg, h10, h3, em1, fy11.l]
          refine wJ_of (F.movetree_Tree_Parent_J (d := b) T11) ?_; rintro _ _ ⟨rfl, rfl⟩
          rw [hlook]
          simp (disch := omega) only [go_sem, ↓reduceIte, Nat.reduceEqDiff, Nat.reduceAdd, Nat.reduceMul, Nat.reduceSub, Nat.reduceLT, Nat.reduceLeDiff, Nat.reduceBEq, reduceCtorEq, Int.reduceLT, Int.reduceEq, Int.reduceLE, Int.reduceAdd, Int.reduceSub, Int.reduceToNat, Int.reduceNeg, h10, h3]
          refine walloc_x [.int .i64 0, .int .i64 0] fun t S12 e12 ot ht' htn => ?_
          have T12 := T11.ext e12
          have fu12 := fu11.ext e12
          have fw12 := fw11.ext e12
          have fy12 := fy11.ext e12
          have fz12 := fz11.ext e12
          rw [if_neg hm]
          simp (disch := omega) only [go_sem, ↓reduceIte, Nat.reduceEqDiff, Nat.reduceAdd, Nat.reduceMul, Nat.reduceSub, Nat.reduceLT, Nat.reduceLeDiff, Nat.reduceBEq, reduceCtorEq, Int.reduceLT, Int.reduceEq, Int.reduceLE, Int.reduceAdd, Int.reduceSub, Int.reduceToNat, Int.reduceNeg, h10, h3]
          refine wst_w [.int .i64 ((alook b (runS L)).getD zSpot).1.1, .int .i64 ((alook b (runS L)).getD zSpot).1.2] ot rfl rfl (by simp) (by simp) rfl fun S13 ot13 b13 ht13 => ?_
          have T13 := T12.but b13 (T11.off htn)
          have ft13 : Off Z11 S13 t [.int .i64 ((alook b (runS L)).getD zSpot).1.1, .int .i64 ((alook b (runS L)).getD zSpot).1.2] := ⟨ht13, T11.off htn t rfl, ot13⟩
          have fu13 := fu12.but b13 (by have := fu11.1; omega)
          have fw13 := fw12.but b13 (by have := fw11.1; omega)
          have fy13 := fy12.but b13 (by have := fy11.1; omega)
          have fz13 := fz12.but b13 (by have := fz11.1; omega)
          simp (disch := omega) only [go_sem, ↓reduceIte, Nat.reduceEqDiff, Nat.reduceAdd, Nat.reduceMul, Nat.reduceSub, Nat.reduceLT, Nat.reduceLeDiff, Nat.reduceBEq, reduceCtorEq, Int.reduceLT, Int.reduceEq, Int.reduceLE, Int.reduceAdd, Int.reduceSub, Int.reduceToNat, Int.reduceNeg, h10, h3, em1, hbs, fu13.l, fy13.l, fz13.l]
          refine wJ_of (F.movetree_Tree_Took_J (d := (99, 99)) T13 (by simp; omega)) ?_; rintro _ _ ⟨rfl, rfl⟩
          have dt : decide (tookP (L ++ [⟨(99, 99), 1000001, p, key, b⟩]) (99, 99)) = false := decide_eq_false fun h => hm ((tookP_snoc (m := ⟨(99, 99), 1000001, p, key, b⟩) hid).1 h)
          have epp := eqV_d ((alook b (runS L)).getD zSpot).1 ((alook b (runS L)).getD zSpot).1 (t := true) (by simp)
          have ekk : (((alook b (runS L)).getD zSpot).2 == ((alook b (runS L)).getD zSpot).2) = true := by rw [ba_beq]; simp
          simp (disch := omega) only [go_sem, ↓reduceIte, Nat.reduceEqDiff, Nat.reduceAdd, Nat.reduceMul, Nat.reduceSub, Nat.reduceLT, Nat.reduceLeDiff, Nat.reduceBEq, reduceCtorEq, Int.reduceLT, Int.reduceEq, Int.reduceLE, Int.reduceAdd, Int.reduceSub, Int.reduceToNat, Int.reduceNeg, h10, h3, dt, epp, ekk, ft13.l, fz13.l, fw13.l]
          refine wJ_of (F.movetree_Tree_Blocks_J T13 (by simp; omega)) ?_; rintro vb2 S14 ⟨hob2, e14⟩
          have hB2 : risen ((runS (L ++ [⟨(99, 99), 1000001, p, key, b⟩])).map Prod.fst) = B := by
            rw [← hB, runS_snoc]
            exact risen_congr lm3
          rw [hB2] at hob2
          have k8 : S3.Ext S8 := (g36.trans e7).but b8 fun j hj => by simp [blkOf] at hj; have := g36.n; omega
          have k10 : S3.Ext S10 := (k8.trans e9).but b10 fun j hj => by simp [blkOf] at hj; have := k8.n; omega
          have w10 := hob.ext dotE k10
          have w11 := w10.congr dotE r11.n fun c _ _ hv hc => r11.obj c hc fun e => by
            have h1 := (hob.blk dotE c (by rw [hv]; rfl)).1
            have h2 := T2.1 c e
            omega
          have w13 := (w11.ext dotE e12).but dotE b13 fun j hj => by have := (w11.blk dotE j hj).2; simp [blkOf]; omega
          have w14 := w13.ext dotE e14
          simp (disch := omega) only [go_sem, ↓reduceIte, Nat.reduceEqDiff, Nat.reduceAdd, Nat.reduceMul, Nat.reduceSub, Nat.reduceLT, Nat.reduceLeDiff, Nat.reduceBEq, reduceCtorEq, Int.reduceLT, Int.reduceEq, Int.reduceLE, Int.reduceAdd, Int.reduceSub, Int.reduceToNat, Int.reduceNeg, h10, h3]
          refine wJ_of (F.osierref03_Same.J (hob2.sl dotE) (w14.sl dotE) (by omega)) ?_; rintro _ _ ⟨rfl, rfl⟩
          simp (disch := omega) only [go_sem, ↓reduceIte, Nat.reduceEqDiff, Nat.reduceAdd, Nat.reduceMul, Nat.reduceSub, Nat.reduceLT, Nat.reduceLeDiff, Nat.reduceBEq, reduceCtorEq, Int.reduceLT, Int.reduceEq, Int.reduceLE, Int.reduceAdd, Int.reduceSub, Int.reduceToNat, Int.reduceNeg, h10, h3]
        have e1 := eqV_d p b (decide_eq_false q1)
        simp (disch := omega) only [go_sem, ↓reduceIte, Nat.reduceEqDiff, Nat.reduceAdd, Nat.reduceMul, Nat.reduceSub, Nat.reduceLT, Nat.reduceLeDiff, Nat.reduceBEq, reduceCtorEq, Int.reduceLT, Int.reduceEq, Int.reduceLE, Int.reduceAdd, Int.reduceSub, Int.reduceToNat, Int.reduceNeg, h10, h3, fz6.l, fy6.l, e1]
        refine wJ_of (F.movetree_Tree_Path_T (b := p) T6 (by omega)) ?_; rintro vp Sp ⟨hop, ep⟩
        have T6 := T6.ext ep
        have fy6 := fy6.ext ep
        have fz6 := fz6.ext ep
        have g36 := g36.trans ep
        have hpl : (pathA (runS L) p).length < 4611686018427387904 := by have h1 := ((okS_run L).pth p).len; have h2 := runS_len L; omega
        simp (disch := omega) only [go_sem, ↓reduceIte, Nat.reduceEqDiff, Nat.reduceAdd, Nat.reduceMul, Nat.reduceSub, Nat.reduceLT, Nat.reduceLeDiff, Nat.reduceBEq, reduceCtorEq, Int.reduceLT, Int.reduceEq, Int.reduceLE, Int.reduceAdd, Int.reduceSub, Int.reduceToNat, Int.reduceNeg, h10, h3, fy6.l]
        refine wJ_of (F.osierref03_In_P (hop.sl dotE) hpl) ?_; rintro _ _ ⟨rfl, rfl⟩
        by_cases q2 : b ∈ pathA (runS L) p
        · have dq : decide (b ∈ pathA (runS L) p) = true := decide_eq_true q2
          simp (disch := omega) only [go_sem, ↓reduceIte, Nat.reduceEqDiff, Nat.reduceAdd, Nat.reduceMul, Nat.reduceSub, Nat.reduceLT, Nat.reduceLeDiff, Nat.reduceBEq, reduceCtorEq, Int.reduceLT, Int.reduceEq, Int.reduceLE, Int.reduceAdd, Int.reduceSub, Int.reduceToNat, Int.reduceNeg, h10, h3, fy6.l, fz6.l, dq]
          have hm : ¬ takesP (runS L) ⟨(99, 99), 1000001, p, key, b⟩ := fun h => (lm1.1 h).2 q2
          refine wJ_of (F.movetree_Tree_Parent_J (d := b) T6) ?_; rintro _ _ ⟨rfl, rfl⟩
          simp (disch := omega) only [go_sem, ↓reduceIte, Nat.reduceEqDiff, Nat.reduceAdd, Nat.reduceMul, Nat.reduceSub, Nat.reduceLT, Nat.reduceLeDiff, Nat.reduceBEq, reduceCtorEq, Int.reduceLT, Int.reduceEq, Int.reduceLE, Int.reduceAdd, Int.reduceSub, Int.reduceToNat, Int.reduceNeg, h10, h3, fy6.l, fz6.l]
          refine walloc_x [.int .i64 0, .int .i64 0] fun w S7 e7 ow hw hwn => ?_
          simp (disch := omega) only [go_sem, ↓reduceIte, Nat.reduceEqDiff, Nat.reduceAdd, Nat.reduceMul, Nat.reduceSub, Nat.reduceLT, Nat.reduceLeDiff, Nat.reduceBEq, reduceCtorEq, Int.reduceLT, Int.reduceEq, Int.reduceLE, Int.reduceAdd, Int.reduceSub, Int.reduceToNat, Int.reduceNeg, h10, h3]
          refine wst_w [.int .i64 ((alook b (runS L)).getD zSpot).1.1, .int .i64 ((alook b (runS L)).getD zSpot).1.2] ow rfl rfl (by simp) (by simp) rfl fun S8 ow8 b8 hw8 => ?_
          have T8 := (T6.ext e7).but b8 (T6.off hwn)
          have fw8 : Off Z S8 w [.int .i64 ((alook b (runS L)).getD zSpot).1.1, .int .i64 ((alook b (runS L)).getD zSpot).1.2] := ⟨hw8, T6.off hwn w rfl, ow8⟩
          have fy8 := (fy6.ext e7).but b8 (by have := fy6.1; omega)
          have fz8 := (fz6.ext e7).but b8 (by have := fz6.1; omega)
          simp (disch := omega) only [go_sem, ↓reduceIte, Nat.reduceEqDiff, Nat.reduceAdd, Nat.reduceMul, Nat.reduceSub, Nat.reduceLT, Nat.reduceLeDiff, Nat.reduceBEq, reduceCtorEq, Int.reduceLT, Int.reduceEq, Int.reduceLE, Int.reduceAdd, Int.reduceSub, Int.reduceToNat, Int.reduceNeg, h10, h3, fy8.l, fz8.l]
          refine walloc_x [.int .i64 0, .int .i64 0] fun u S9 e9 ou hu hun => ?_
          simp (disch := omega) only [go_sem, ↓reduceIte, Nat.reduceEqDiff, Nat.reduceAdd, Nat.reduceMul, Nat.reduceSub, Nat.reduceLT, Nat.reduceLeDiff, Nat.reduceBEq, reduceCtorEq, Int.reduceLT, Int.reduceEq, Int.reduceLE, Int.reduceAdd, Int.reduceSub, Int.reduceToNat, Int.reduceNeg, h10, h3]
          refine wst_w [.int .i64 99, .int .i64 99] ou rfl rfl (by simp) (by simp) rfl fun S10 ou10 b10 hu10 => ?_
          have T10 := (T8.ext e9).but b10 (T8.off hun)
          have fu10 : Off Z S10 u [.int .i64 99, .int .i64 99] := ⟨hu10, T8.off hun u rfl, ou10⟩
          have fw10 := (fw8.ext e9).but b10 (by have := fw8.1; omega)
          have fy10 := (fy8.ext e9).but b10 (by have := fy8.1; omega)
          have fz10 := (fz8.ext e9).but b10 (by have := fz8.1; omega)
          simp (disch := omega) only [go_sem, ↓reduceIte, Nat.reduceEqDiff, Nat.reduceAdd, Nat.reduceMul, Nat.reduceSub, Nat.reduceLT, Nat.reduceLeDiff, Nat.reduceBEq, reduceCtorEq, Int.reduceLT, Int.reduceEq, Int.reduceLE, Int.reduceAdd, Int.reduceSub, Int.reduceToNat, Int.reduceNeg, h10, h3, fy10.l, fz10.l, fu10.l, fw10.l]
          refine wJ_of (F.movetree_Tree_Move_J (m := ⟨(99, 99), 1000001, p, key, b⟩) T10 (by omega)) ?_; rintro _ S11 ⟨rfl, Z11, T11, z11, r11⟩
          have fu11 := fu10.step r11 z11
          have fw11 := fw10.step r11 z11
          have fy11 := fy10.step r11 z11
          have fz11 := fz10.step r11 z11
          have hnn : ¬ (noneP ((99, 99) : Dot) ∨ noneP b) := fun h => h.elim (by decide) hbn
          by_cases hid : ((99, 99) : Dot) ∈ L.map Mv.id
          · have em : moveA L ⟨(99, 99), 1000001, p, key, b⟩ = (32, L) := by
              unfold moveA
              rw [if_neg hnn, if_pos hid]
            have em1 : (moveA L ⟨(99, 99), 1000001, p, key, b⟩).1 = 32 := by rw [em]
            simp (disch := omega) only [go_sem, ↓reduceIte, Nat.reduceEqDiff, Nat.reduceAdd, Nat.reduceMul, Nat.reduceSub, Nat.reduceLT, Nat.reduceLeDiff, Nat.reduceBEq, reduceCtorEq, Int.reduceLT, Int.reduceEq, Int.reduceLE, Int.reduceAdd, Int.reduceSub, Int.reduceToNat, Int.reduceNeg, h10, h3, em1]
          have em : moveA L ⟨(99, 99), 1000001, p, key, b⟩ = (0, L ++ [⟨(99, 99), 1000001, p, key, b⟩]) := by
            unfold moveA
            rw [if_neg hnn, if_neg hid, insM_last fun x hx => by have := ht x hx; show x.time < 1000001; omega]
          have em1 : (moveA L ⟨(99, 99), 1000001, p, key, b⟩).1 = 0 := by rw [em]
          rw [em] at T11
          simp only at T11
          have hlook : alook b (runS (L ++ [⟨(99, 99), 1000001, p, key, b⟩])) = if takesP (runS L) ⟨(99, 99), 1000001, p, key, b⟩ then some (p, key) else alook b (runS L) := by rw [runS_snoc]; exact lm2
          simp (disch := omega) only [go_sem, ↓reduceIte, Nat.reduceEqDiff, Nat.reduceAdd, Nat.reduceMul, Nat.reduceSub, Nat.reduceLT, Nat.reduceLeDiff, Nat.reduceBEq, reduceCtorEq, Int.reduceLT, Int.reduceEq, Int.reduceLE, Int.reduceAdd, Int.reduceSub, Int.reduceToNat, Int.reduceNeg, h10, h3, em1, fy11.l]
          refine wJ_of (F.movetree_Tree_Parent_J (d := b) T11) ?_; rintro _ _ ⟨rfl, rfl⟩
          rw [hlook]
          simp (disch := omega) only [go_sem, ↓reduceIte, Nat.reduceEqDiff, Nat.reduceAdd, Nat.reduceMul, Nat.reduceSub, Nat.reduceLT, Nat.reduceLeDiff, Nat.reduceBEq, reduceCtorEq, Int.reduceLT, Int.reduceEq, Int.reduceLE, Int.reduceAdd, Int.reduceSub, Int.reduceToNat, Int.reduceNeg, h10, h3]
          refine walloc_x [.int .i64 0, .int .i64 0] fun t S12 e12 ot ht' htn => ?_
          have T12 := T11.ext e12
          have fu12 := fu11.ext e12
          have fw12 := fw11.ext e12
          have fy12 := fy11.ext e12
          have fz12 := fz11.ext e12
          rw [if_neg hm]
          simp (disch := omega) only [go_sem, ↓reduceIte, Nat.reduceEqDiff, Nat.reduceAdd, Nat.reduceMul, Nat.reduceSub, Nat.reduceLT, Nat.reduceLeDiff, Nat.reduceBEq, reduceCtorEq, Int.reduceLT, Int.reduceEq, Int.reduceLE, Int.reduceAdd, Int.reduceSub, Int.reduceToNat, Int.reduceNeg, h10, h3]
          refine wst_w [.int .i64 ((alook b (runS L)).getD zSpot).1.1, .int .i64 ((alook b (runS L)).getD zSpot).1.2] ot rfl rfl (by simp) (by simp) rfl fun S13 ot13 b13 ht13 => ?_
          have T13 := T12.but b13 (T11.off htn)
          have ft13 : Off Z11 S13 t [.int .i64 ((alook b (runS L)).getD zSpot).1.1, .int .i64 ((alook b (runS L)).getD zSpot).1.2] := ⟨ht13, T11.off htn t rfl, ot13⟩
          have fu13 := fu12.but b13 (by have := fu11.1; omega)
          have fw13 := fw12.but b13 (by have := fw11.1; omega)
          have fy13 := fy12.but b13 (by have := fy11.1; omega)
          have fz13 := fz12.but b13 (by have := fz11.1; omega)
          simp (disch := omega) only [go_sem, ↓reduceIte, Nat.reduceEqDiff, Nat.reduceAdd, Nat.reduceMul, Nat.reduceSub, Nat.reduceLT, Nat.reduceLeDiff, Nat.reduceBEq, reduceCtorEq, Int.reduceLT, Int.reduceEq, Int.reduceLE, Int.reduceAdd, Int.reduceSub, Int.reduceToNat, Int.reduceNeg, h10, h3, em1, hbs, fu13.l, fy13.l, fz13.l]
          refine wJ_of (F.movetree_Tree_Took_J (d := (99, 99)) T13 (by simp; omega)) ?_; rintro _ _ ⟨rfl, rfl⟩
          have dt : decide (tookP (L ++ [⟨(99, 99), 1000001, p, key, b⟩]) (99, 99)) = false := decide_eq_false fun h => hm ((tookP_snoc (m := ⟨(99, 99), 1000001, p, key, b⟩) hid).1 h)
          have epp := eqV_d ((alook b (runS L)).getD zSpot).1 ((alook b (runS L)).getD zSpot).1 (t := true) (by simp)
          have ekk : (((alook b (runS L)).getD zSpot).2 == ((alook b (runS L)).getD zSpot).2) = true := by rw [ba_beq]; simp
          simp (disch := omega) only [go_sem, ↓reduceIte, Nat.reduceEqDiff, Nat.reduceAdd, Nat.reduceMul, Nat.reduceSub, Nat.reduceLT, Nat.reduceLeDiff, Nat.reduceBEq, reduceCtorEq, Int.reduceLT, Int.reduceEq, Int.reduceLE, Int.reduceAdd, Int.reduceSub, Int.reduceToNat, Int.reduceNeg, h10, h3, dt, epp, ekk, ft13.l, fz13.l, fw13.l]
          refine wJ_of (F.movetree_Tree_Blocks_J T13 (by simp; omega)) ?_; rintro vb2 S14 ⟨hob2, e14⟩
          have hB2 : risen ((runS (L ++ [⟨(99, 99), 1000001, p, key, b⟩])).map Prod.fst) = B := by
            rw [← hB, runS_snoc]
            exact risen_congr lm3
          rw [hB2] at hob2
          have k8 : S3.Ext S8 := (g36.trans e7).but b8 fun j hj => by simp [blkOf] at hj; have := g36.n; omega
          have k10 : S3.Ext S10 := (k8.trans e9).but b10 fun j hj => by simp [blkOf] at hj; have := k8.n; omega
          have w10 := hob.ext dotE k10
          have w11 := w10.congr dotE r11.n fun c _ _ hv hc => r11.obj c hc fun e => by
            have h1 := (hob.blk dotE c (by rw [hv]; rfl)).1
            have h2 := T2.1 c e
            omega
          have w13 := (w11.ext dotE e12).but dotE b13 fun j hj => by have := (w11.blk dotE j hj).2; simp [blkOf]; omega
          have w14 := w13.ext dotE e14
          simp (disch := omega) only [go_sem, ↓reduceIte, Nat.reduceEqDiff, Nat.reduceAdd, Nat.reduceMul, Nat.reduceSub, Nat.reduceLT, Nat.reduceLeDiff, Nat.reduceBEq, reduceCtorEq, Int.reduceLT, Int.reduceEq, Int.reduceLE, Int.reduceAdd, Int.reduceSub, Int.reduceToNat, Int.reduceNeg, h10, h3]
          refine wJ_of (F.osierref03_Same.J (hob2.sl dotE) (w14.sl dotE) (by omega)) ?_; rintro _ _ ⟨rfl, rfl⟩
          simp (disch := omega) only [go_sem, ↓reduceIte, Nat.reduceEqDiff, Nat.reduceAdd, Nat.reduceMul, Nat.reduceSub, Nat.reduceLT, Nat.reduceLeDiff, Nat.reduceBEq, reduceCtorEq, Int.reduceLT, Int.reduceEq, Int.reduceLE, Int.reduceAdd, Int.reduceSub, Int.reduceToNat, Int.reduceNeg, h10, h3]
        · have dq : decide (b ∈ pathA (runS L) p) = false := decide_eq_false q2
          simp (disch := omega) only [go_sem, ↓reduceIte, Nat.reduceEqDiff, Nat.reduceAdd, Nat.reduceMul, Nat.reduceSub, Nat.reduceLT, Nat.reduceLeDiff, Nat.reduceBEq, reduceCtorEq, Int.reduceLT, Int.reduceEq, Int.reduceLE, Int.reduceAdd, Int.reduceSub, Int.reduceToNat, Int.reduceNeg, h10, h3, fy6.l, fz6.l, dq]
          have hm : takesP (runS L) ⟨(99, 99), 1000001, p, key, b⟩ := lm1.2 ⟨q1, q2⟩
          refine wJ_of (F.movetree_Tree_Parent_J (d := b) T6) ?_; rintro _ _ ⟨rfl, rfl⟩
          simp (disch := omega) only [go_sem, ↓reduceIte, Nat.reduceEqDiff, Nat.reduceAdd, Nat.reduceMul, Nat.reduceSub, Nat.reduceLT, Nat.reduceLeDiff, Nat.reduceBEq, reduceCtorEq, Int.reduceLT, Int.reduceEq, Int.reduceLE, Int.reduceAdd, Int.reduceSub, Int.reduceToNat, Int.reduceNeg, h10, h3, fy6.l, fz6.l]
          refine walloc_x [.int .i64 0, .int .i64 0] fun w S7 e7 ow hw hwn => ?_
          simp (disch := omega) only [go_sem, ↓reduceIte, Nat.reduceEqDiff, Nat.reduceAdd, Nat.reduceMul, Nat.reduceSub, Nat.reduceLT, Nat.reduceLeDiff, Nat.reduceBEq, reduceCtorEq, Int.reduceLT, Int.reduceEq, Int.reduceLE, Int.reduceAdd, Int.reduceSub, Int.reduceToNat, Int.reduceNeg, h10, h3]
          refine wst_w [.int .i64 ((alook b (runS L)).getD zSpot).1.1, .int .i64 ((alook b (runS L)).getD zSpot).1.2] ow rfl rfl (by simp) (by simp) rfl fun S8 ow8 b8 hw8 => ?_
          have T8 := (T6.ext e7).but b8 (T6.off hwn)
          have fw8 : Off Z S8 w [.int .i64 ((alook b (runS L)).getD zSpot).1.1, .int .i64 ((alook b (runS L)).getD zSpot).1.2] := ⟨hw8, T6.off hwn w rfl, ow8⟩
          have fy8 := (fy6.ext e7).but b8 (by have := fy6.1; omega)
          have fz8 := (fz6.ext e7).but b8 (by have := fz6.1; omega)
          simp (disch := omega) only [go_sem, ↓reduceIte, Nat.reduceEqDiff, Nat.reduceAdd, Nat.reduceMul, Nat.reduceSub, Nat.reduceLT, Nat.reduceLeDiff, Nat.reduceBEq, reduceCtorEq, Int.reduceLT, Int.reduceEq, Int.reduceLE, Int.reduceAdd, Int.reduceSub, Int.reduceToNat, Int.reduceNeg, h10, h3, fy8.l, fz8.l]
          refine walloc_x [.int .i64 0, .int .i64 0] fun u S9 e9 ou hu hun => ?_
          simp (disch := omega) only [go_sem, ↓reduceIte, Nat.reduceEqDiff, Nat.reduceAdd, Nat.reduceMul, Nat.reduceSub, Nat.reduceLT, Nat.reduceLeDiff, Nat.reduceBEq, reduceCtorEq, Int.reduceLT, Int.reduceEq, Int.reduceLE, Int.reduceAdd, Int.reduceSub, Int.reduceToNat, Int.reduceNeg, h10, h3]
          refine wst_w [.int .i64 99, .int .i64 99] ou rfl rfl (by simp) (by simp) rfl fun S10 ou10 b10 hu10 => ?_
          have T10 := (T8.ext e9).but b10 (T8.off hun)
          have fu10 : Off Z S10 u [.int .i64 99, .int .i64 99] := ⟨hu10, T8.off hun u rfl, ou10⟩
          have fw10 := (fw8.ext e9).but b10 (by have := fw8.1; omega)
          have fy10 := (fy8.ext e9).but b10 (by have := fy8.1; omega)
          have fz10 := (fz8.ext e9).but b10 (by have := fz8.1; omega)
          simp (disch := omega) only [go_sem, ↓reduceIte, Nat.reduceEqDiff, Nat.reduceAdd, Nat.reduceMul, Nat.reduceSub, Nat.reduceLT, Nat.reduceLeDiff, Nat.reduceBEq, reduceCtorEq, Int.reduceLT, Int.reduceEq, Int.reduceLE, Int.reduceAdd, Int.reduceSub, Int.reduceToNat, Int.reduceNeg, h10, h3, fy10.l, fz10.l, fu10.l, fw10.l]
          refine wJ_of (F.movetree_Tree_Move_J (m := ⟨(99, 99), 1000001, p, key, b⟩) T10 (by omega)) ?_; rintro _ S11 ⟨rfl, Z11, T11, z11, r11⟩
          have fu11 := fu10.step r11 z11
          have fw11 := fw10.step r11 z11
          have fy11 := fy10.step r11 z11
          have fz11 := fz10.step r11 z11
          have hnn : ¬ (noneP ((99, 99) : Dot) ∨ noneP b) := fun h => h.elim (by decide) hbn
          by_cases hid : ((99, 99) : Dot) ∈ L.map Mv.id
          · have em : moveA L ⟨(99, 99), 1000001, p, key, b⟩ = (32, L) := by
              unfold moveA
              rw [if_neg hnn, if_pos hid]
            have em1 : (moveA L ⟨(99, 99), 1000001, p, key, b⟩).1 = 32 := by rw [em]
            simp (disch := omega) only [go_sem, ↓reduceIte, Nat.reduceEqDiff, Nat.reduceAdd, Nat.reduceMul, Nat.reduceSub, Nat.reduceLT, Nat.reduceLeDiff, Nat.reduceBEq, reduceCtorEq, Int.reduceLT, Int.reduceEq, Int.reduceLE, Int.reduceAdd, Int.reduceSub, Int.reduceToNat, Int.reduceNeg, h10, h3, em1]
          have em : moveA L ⟨(99, 99), 1000001, p, key, b⟩ = (0, L ++ [⟨(99, 99), 1000001, p, key, b⟩]) := by
            unfold moveA
            rw [if_neg hnn, if_neg hid, insM_last fun x hx => by have := ht x hx; show x.time < 1000001; omega]
          have em1 : (moveA L ⟨(99, 99), 1000001, p, key, b⟩).1 = 0 := by rw [em]
          rw [em] at T11
          simp only at T11
          have hlook : alook b (runS (L ++ [⟨(99, 99), 1000001, p, key, b⟩])) = if takesP (runS L) ⟨(99, 99), 1000001, p, key, b⟩ then some (p, key) else alook b (runS L) := by rw [runS_snoc]; exact lm2
          simp (disch := omega) only [go_sem, ↓reduceIte, Nat.reduceEqDiff, Nat.reduceAdd, Nat.reduceMul, Nat.reduceSub, Nat.reduceLT, Nat.reduceLeDiff, Nat.reduceBEq, reduceCtorEq, Int.reduceLT, Int.reduceEq, Int.reduceLE, Int.reduceAdd, Int.reduceSub, Int.reduceToNat, Int.reduceNeg, h10, h3, em1, fy11.l]
          refine wJ_of (F.movetree_Tree_Parent_J (d := b) T11) ?_; rintro _ _ ⟨rfl, rfl⟩
          rw [hlook]
          simp (disch := omega) only [go_sem, ↓reduceIte, Nat.reduceEqDiff, Nat.reduceAdd, Nat.reduceMul, Nat.reduceSub, Nat.reduceLT, Nat.reduceLeDiff, Nat.reduceBEq, reduceCtorEq, Int.reduceLT, Int.reduceEq, Int.reduceLE, Int.reduceAdd, Int.reduceSub, Int.reduceToNat, Int.reduceNeg, h10, h3]
          refine walloc_x [.int .i64 0, .int .i64 0] fun t S12 e12 ot ht' htn => ?_
          have T12 := T11.ext e12
          have fu12 := fu11.ext e12
          have fw12 := fw11.ext e12
          have fy12 := fy11.ext e12
          have fz12 := fz11.ext e12
          rw [if_pos hm]
          simp (disch := omega) only [go_sem, ↓reduceIte, Nat.reduceEqDiff, Nat.reduceAdd, Nat.reduceMul, Nat.reduceSub, Nat.reduceLT, Nat.reduceLeDiff, Nat.reduceBEq, reduceCtorEq, Int.reduceLT, Int.reduceEq, Int.reduceLE, Int.reduceAdd, Int.reduceSub, Int.reduceToNat, Int.reduceNeg, h10, h3, Option.getD_some]
          refine wst_w [.int .i64 p.1, .int .i64 p.2] ot rfl rfl (by simp) (by simp) rfl fun S13 ot13 b13 ht13 => ?_
          have T13 := T12.but b13 (T11.off htn)
          have ft13 : Off Z11 S13 t [.int .i64 p.1, .int .i64 p.2] := ⟨ht13, T11.off htn t rfl, ot13⟩
          have fu13 := fu12.but b13 (by have := fu11.1; omega)
          have fw13 := fw12.but b13 (by have := fw11.1; omega)
          have fy13 := fy12.but b13 (by have := fy11.1; omega)
          have fz13 := fz12.but b13 (by have := fz11.1; omega)
          simp (disch := omega) only [go_sem, ↓reduceIte, Nat.reduceEqDiff, Nat.reduceAdd, Nat.reduceMul, Nat.reduceSub, Nat.reduceLT, Nat.reduceLeDiff, Nat.reduceBEq, reduceCtorEq, Int.reduceLT, Int.reduceEq, Int.reduceLE, Int.reduceAdd, Int.reduceSub, Int.reduceToNat, Int.reduceNeg, h10, h3, em1, Option.isSome_some, fu13.l, fy13.l, fz13.l]
          refine wJ_of (F.movetree_Tree_Took_J (d := (99, 99)) T13 (by simp; omega)) ?_; rintro _ _ ⟨rfl, rfl⟩
          have dt : decide (tookP (L ++ [⟨(99, 99), 1000001, p, key, b⟩]) (99, 99)) = true := decide_eq_true ((tookP_snoc (m := ⟨(99, 99), 1000001, p, key, b⟩) hid).2 hm)
          have epp := eqV_d p p (t := true) (by simp)
          have ekk : (key == key) = true := by rw [ba_beq]; simp
          simp (disch := omega) only [go_sem, ↓reduceIte, Nat.reduceEqDiff, Nat.reduceAdd, Nat.reduceMul, Nat.reduceSub, Nat.reduceLT, Nat.reduceLeDiff, Nat.reduceBEq, reduceCtorEq, Int.reduceLT, Int.reduceEq, Int.reduceLE, Int.reduceAdd, Int.reduceSub, Int.reduceToNat, Int.reduceNeg, h10, h3, dt, epp, ekk, ft13.l, fz13.l, fw13.l]
          refine wJ_of (F.movetree_Tree_Blocks_J T13 (by simp; omega)) ?_; rintro vb2 S14 ⟨hob2, e14⟩
          have hB2 : risen ((runS (L ++ [⟨(99, 99), 1000001, p, key, b⟩])).map Prod.fst) = B := by
            rw [← hB, runS_snoc]
            exact risen_congr lm3
          rw [hB2] at hob2
          have k8 : S3.Ext S8 := (g36.trans e7).but b8 fun j hj => by simp [blkOf] at hj; have := g36.n; omega
          have k10 : S3.Ext S10 := (k8.trans e9).but b10 fun j hj => by simp [blkOf] at hj; have := k8.n; omega
          have w10 := hob.ext dotE k10
          have w11 := w10.congr dotE r11.n fun c _ _ hv hc => r11.obj c hc fun e => by
            have h1 := (hob.blk dotE c (by rw [hv]; rfl)).1
            have h2 := T2.1 c e
            omega
          have w13 := (w11.ext dotE e12).but dotE b13 fun j hj => by have := (w11.blk dotE j hj).2; simp [blkOf]; omega
          have w14 := w13.ext dotE e14
          simp (disch := omega) only [go_sem, ↓reduceIte, Nat.reduceEqDiff, Nat.reduceAdd, Nat.reduceMul, Nat.reduceSub, Nat.reduceLT, Nat.reduceLeDiff, Nat.reduceBEq, reduceCtorEq, Int.reduceLT, Int.reduceEq, Int.reduceLE, Int.reduceAdd, Int.reduceSub, Int.reduceToNat, Int.reduceNeg, h10, h3]
          refine wJ_of (F.osierref03_Same.J (hob2.sl dotE) (w14.sl dotE) (by omega)) ?_; rintro _ _ ⟨rfl, rfl⟩
          simp (disch := omega) only [go_sem, ↓reduceIte, Nat.reduceEqDiff, Nat.reduceAdd, Nat.reduceMul, Nat.reduceSub, Nat.reduceLT, Nat.reduceLeDiff, Nat.reduceBEq, reduceCtorEq, Int.reduceLT, Int.reduceEq, Int.reduceLE, Int.reduceAdd, Int.reduceSub, Int.reduceToNat, Int.reduceNeg, h10, h3]
      · have i2 : ¬ ((k2 : Int) < (B.length : Int)) := by omega
        simp (disch := omega) only [go_sem, ↓reduceIte, Nat.reduceEqDiff, Nat.reduceAdd, Nat.reduceMul, Nat.reduceSub, Nat.reduceLT, Nat.reduceLeDiff, Nat.reduceBEq, reduceCtorEq, Int.reduceLT, Int.reduceEq, Int.reduceLE, Int.reduceAdd, Int.reduceSub, Int.reduceToNat, Int.reduceNeg, h1, h2, h10, hB1, hk2, i2]
        obtain ⟨p, hpe⟩ : ∃ p : Dot, p = (0, -2) := ⟨_, rfl⟩
        have hp : p = trashD ∨ (alook p (runS L)).isSome = true := .inl hpe
        replace fz6 : Off Z S6 z [.int .i64 p.1, .int .i64 p.2] := by rw [hpe]; exact fz6
        obtain ⟨lm1, lm2, lm3⟩ := last_move (L := L) (b := b) (p := p) (key := key) (i := (99, 99)) (t := 1000001) hbs hp
        by_cases q1 : p = b
        · have e1 := eqV_d p b (decide_eq_true q1)
          simp (disch := omega) only [go_sem, ↓reduceIte, Nat.reduceEqDiff, Nat.reduceAdd, Nat.reduceMul, Nat.reduceSub, Nat.reduceLT, Nat.reduceLeDiff, Nat.reduceBEq, reduceCtorEq, Int.reduceLT, Int.reduceEq, Int.reduceLE, Int.reduceAdd, Int.reduceSub, Int.reduceToNat, Int.reduceNeg, h10, h3, fz6.l, fy6.l, e1]
          have hm : ¬ takesP (runS L) ⟨(99, 99), 1000001, p, key, b⟩ := fun h => (lm1.1 h).1 q1
          refine wJ_of (F.movetree_Tree_Parent_J (d := b) T6) ?_; rintro _ _ ⟨rfl, rfl⟩
          simp (disch := omega) only [go_sem, ↓reduceIte, Nat.reduceEqDiff, Nat.reduceAdd, Nat.reduceMul, Nat.reduceSub, Nat.reduceLT, Nat.reduceLeDiff, Nat.reduceBEq, reduceCtorEq, Int.reduceLT, Int.reduceEq, Int.reduceLE, Int.reduceAdd, Int.reduceSub, Int.reduceToNat, Int.reduceNeg, h10, h3, fy6.l, fz6.l]
          refine walloc_x [.int .i64 0, .int .i64 0] fun w S7 e7 ow hw hwn => ?_
          simp (disch := omega) only [go_sem, ↓reduceIte, Nat.reduceEqDiff, Nat.reduceAdd, Nat.reduceMul, Nat.reduceSub, Nat.reduceLT, Nat.reduceLeDiff, Nat.reduceBEq, reduceCtorEq, Int.reduceLT, Int.reduceEq, Int.reduceLE, Int.reduceAdd, Int.reduceSub, Int.reduceToNat, Int.reduceNeg, h10, h3]
          refine wst_w [.int .i64 ((alook b (runS L)).getD zSpot).1.1, .int .i64 ((alook b (runS L)).getD zSpot).1.2] ow rfl rfl (by simp) (by simp) rfl fun S8 ow8 b8 hw8 => ?_
          have T8 := (T6.ext e7).but b8 (T6.off hwn)
          have fw8 : Off Z S8 w [.int .i64 ((alook b (runS L)).getD zSpot).1.1, .int .i64 ((alook b (runS L)).getD zSpot).1.2] := ⟨hw8, T6.off hwn w rfl, ow8⟩
          have fy8 := (fy6.ext e7).but b8 (by have := fy6.1; omega)
          have fz8 := (fz6.ext e7).but b8 (by have := fz6.1; omega)
          simp (disch := omega) only [go_sem, ↓reduceIte, Nat.reduceEqDiff, Nat.reduceAdd, Nat.reduceMul, Nat.reduceSub, Nat.reduceLT, Nat.reduceLeDiff, Nat.reduceBEq, reduceCtorEq, Int.reduceLT, Int.reduceEq, Int.reduceLE, Int.reduceAdd, Int.reduceSub, Int.reduceToNat, Int.reduceNeg, h10, h3, fy8.l, fz8.l]
          refine walloc_x [.int .i64 0, .int .i64 0] fun u S9 e9 ou hu hun => ?_
          simp (disch := omega) only [go_sem, ↓reduceIte, Nat.reduceEqDiff, Nat.reduceAdd, Nat.reduceMul, Nat.reduceSub, Nat.reduceLT, Nat.reduceLeDiff, Nat.reduceBEq, reduceCtorEq, Int.reduceLT, Int.reduceEq, Int.reduceLE, Int.reduceAdd, Int.reduceSub, Int.reduceToNat, Int.reduceNeg, h10, h3]
          refine wst_w [.int .i64 99, .int .i64 99] ou rfl rfl (by simp) (by simp) rfl fun S10 ou10 b10 hu10 => ?_
          have T10 := (T8.ext e9).but b10 (T8.off hun)
          have fu10 : Off Z S10 u [.int .i64 99, .int .i64 99] := ⟨hu10, T8.off hun u rfl, ou10⟩
          have fw10 := (fw8.ext e9).but b10 (by have := fw8.1; omega)
          have fy10 := (fy8.ext e9).but b10 (by have := fy8.1; omega)
          have fz10 := (fz8.ext e9).but b10 (by have := fz8.1; omega)
          simp (disch := omega) only [go_sem, ↓reduceIte, Nat.reduceEqDiff, Nat.reduceAdd, Nat.reduceMul, Nat.reduceSub, Nat.reduceLT, Nat.reduceLeDiff, Nat.reduceBEq, reduceCtorEq, Int.reduceLT, Int.reduceEq, Int.reduceLE, Int.reduceAdd, Int.reduceSub, Int.reduceToNat, Int.reduceNeg, h10, h3, fy10.l, fz10.l, fu10.l, fw10.l]
          refine wJ_of (F.movetree_Tree_Move_J (m := ⟨(99, 99), 1000001, p, key, b⟩) T10 (by omega)) ?_; rintro _ S11 ⟨rfl, Z11, T11, z11, r11⟩
          have fu11 := fu10.step r11 z11
          have fw11 := fw10.step r11 z11
          have fy11 := fy10.step r11 z11
          have fz11 := fz10.step r11 z11
          have hnn : ¬ (noneP ((99, 99) : Dot) ∨ noneP b) := fun h => h.elim (by decide) hbn
          by_cases hid : ((99, 99) : Dot) ∈ L.map Mv.id
          · have em : moveA L ⟨(99, 99), 1000001, p, key, b⟩ = (32, L) := by
              unfold moveA
              rw [if_neg hnn, if_pos hid]
            have em1 : (moveA L ⟨(99, 99), 1000001, p, key, b⟩).1 = 32 := by rw [em]
            simp (disch := omega) only [go_sem, ↓reduceIte, Nat.reduceEqDiff, Nat.reduceAdd, Nat.reduceMul, Nat.reduceSub, Nat.reduceLT, Nat.reduceLeDiff, Nat.reduceBEq, reduceCtorEq, Int.reduceLT, Int.reduceEq, Int.reduceLE, Int.reduceAdd, Int.reduceSub, Int.reduceToNat, Int.reduceNeg, h10, h3, em1]
          have em : moveA L ⟨(99, 99), 1000001, p, key, b⟩ = (0, L ++ [⟨(99, 99), 1000001, p, key, b⟩]) := by
            unfold moveA
            rw [if_neg hnn, if_neg hid, insM_last fun x hx => by have := ht x hx; show x.time < 1000001; omega]
          have em1 : (moveA L ⟨(99, 99), 1000001, p, key, b⟩).1 = 0 := by rw [em]
          rw [em] at T11
          simp only at T11
          have hlook : alook b (runS (L ++ [⟨(99, 99), 1000001, p, key, b⟩])) = if takesP (runS L) ⟨(99, 99), 1000001, p, key, b⟩ then some (p, key) else alook b (runS L) := by rw [runS_snoc]; exact lm2
          simp (disch := omega) only [go_sem, ↓reduceIte, Nat.reduceEqDiff, Nat.reduceAdd, Nat.reduceMul, Nat.reduceSub, Nat.reduceLT, Nat.reduceLeDiff, Nat.reduceBEq, reduceCtorEq, Int.reduceLT, Int.reduceEq, Int.reduceLE, Int.reduceAdd, Int.reduceSub, Int.reduceToNat, Int.reduceNeg, h10, h3, em1, fy11.l]
          refine wJ_of (F.movetree_Tree_Parent_J (d := b) T11) ?_; rintro _ _ ⟨rfl, rfl⟩
          rw [hlook]
          simp (disch := omega) only [go_sem, ↓reduceIte, Nat.reduceEqDiff, Nat.reduceAdd, Nat.reduceMul, Nat.reduceSub, Nat.reduceLT, Nat.reduceLeDiff, Nat.reduceBEq, reduceCtorEq, Int.reduceLT, Int.reduceEq, Int.reduceLE, Int.reduceAdd, Int.reduceSub, Int.reduceToNat, Int.reduceNeg, h10, h3]
          refine walloc_x [.int .i64 0, .int .i64 0] fun t S12 e12 ot ht' htn => ?_
          have T12 := T11.ext e12
          have fu12 := fu11.ext e12
          have fw12 := fw11.ext e12
          have fy12 := fy11.ext e12
          have fz12 := fz11.ext e12
          rw [if_neg hm]
          simp (disch := omega) only [go_sem, ↓reduceIte, Nat.reduceEqDiff, Nat.reduceAdd, Nat.reduceMul, Nat.reduceSub, Nat.reduceLT, Nat.reduceLeDiff, Nat.reduceBEq, reduceCtorEq, Int.reduceLT, Int.reduceEq, Int.reduceLE, Int.reduceAdd, Int.reduceSub, Int.reduceToNat, Int.reduceNeg, h10, h3]
          refine wst_w [.int .i64 ((alook b (runS L)).getD zSpot).1.1, .int .i64 ((alook b (runS L)).getD zSpot).1.2] ot rfl rfl (by simp) (by simp) rfl fun S13 ot13 b13 ht13 => ?_
          have T13 := T12.but b13 (T11.off htn)
          have ft13 : Off Z11 S13 t [.int .i64 ((alook b (runS L)).getD zSpot).1.1, .int .i64 ((alook b (runS L)).getD zSpot).1.2] := ⟨ht13, T11.off htn t rfl, ot13⟩
          have fu13 := fu12.but b13 (by have := fu11.1; omega)
          have fw13 := fw12.but b13 (by have := fw11.1; omega)
          have fy13 := fy12.but b13 (by have := fy11.1; omega)
          have fz13 := fz12.but b13 (by have := fz11.1; omega)
          simp (disch := omega) only [go_sem, ↓reduceIte, Nat.reduceEqDiff, Nat.reduceAdd, Nat.reduceMul, Nat.reduceSub, Nat.reduceLT, Nat.reduceLeDiff, Nat.reduceBEq, reduceCtorEq, Int.reduceLT, Int.reduceEq, Int.reduceLE, Int.reduceAdd, Int.reduceSub, Int.reduceToNat, Int.reduceNeg, h10, h3, em1, hbs, fu13.l, fy13.l, fz13.l]
          refine wJ_of (F.movetree_Tree_Took_J (d := (99, 99)) T13 (by simp; omega)) ?_; rintro _ _ ⟨rfl, rfl⟩
          have dt : decide (tookP (L ++ [⟨(99, 99), 1000001, p, key, b⟩]) (99, 99)) = false := decide_eq_false fun h => hm ((tookP_snoc (m := ⟨(99, 99), 1000001, p, key, b⟩) hid).1 h)
          have epp := eqV_d ((alook b (runS L)).getD zSpot).1 ((alook b (runS L)).getD zSpot).1 (t := true) (by simp)
          have ekk : (((alook b (runS L)).getD zSpot).2 == ((alook b (runS L)).getD zSpot).2) = true := by rw [ba_beq]; simp
          simp (disch := omega) only [go_sem, ↓reduceIte, Nat.reduceEqDiff, Nat.reduceAdd, Nat.reduceMul, Nat.reduceSub, Nat.reduceLT, Nat.reduceLeDiff, Nat.reduceBEq, reduceCtorEq, Int.reduceLT, Int.reduceEq, Int.reduceLE, Int.reduceAdd, Int.reduceSub, Int.reduceToNat, Int.reduceNeg, h10, h3, dt, epp, ekk, ft13.l, fz13.l, fw13.l]
          refine wJ_of (F.movetree_Tree_Blocks_J T13 (by simp; omega)) ?_; rintro vb2 S14 ⟨hob2, e14⟩
          have hB2 : risen ((runS (L ++ [⟨(99, 99), 1000001, p, key, b⟩])).map Prod.fst) = B := by
            rw [← hB, runS_snoc]
            exact risen_congr lm3
          rw [hB2] at hob2
          have k8 : S3.Ext S8 := (g36.trans e7).but b8 fun j hj => by simp [blkOf] at hj; have := g36.n; omega
          have k10 : S3.Ext S10 := (k8.trans e9).but b10 fun j hj => by simp [blkOf] at hj; have := k8.n; omega
          have w10 := hob.ext dotE k10
          have w11 := w10.congr dotE r11.n fun c _ _ hv hc => r11.obj c hc fun e => by
            have h1 := (hob.blk dotE c (by rw [hv]; rfl)).1
            have h2 := T2.1 c e
            omega
          have w13 := (w11.ext dotE e12).but dotE b13 fun j hj => by have := (w11.blk dotE j hj).2; simp [blkOf]; omega
          have w14 := w13.ext dotE e14
          simp (disch := omega) only [go_sem, ↓reduceIte, Nat.reduceEqDiff, Nat.reduceAdd, Nat.reduceMul, Nat.reduceSub, Nat.reduceLT, Nat.reduceLeDiff, Nat.reduceBEq, reduceCtorEq, Int.reduceLT, Int.reduceEq, Int.reduceLE, Int.reduceAdd, Int.reduceSub, Int.reduceToNat, Int.reduceNeg, h10, h3]
          refine wJ_of (F.osierref03_Same.J (hob2.sl dotE) (w14.sl dotE) (by omega)) ?_; rintro _ _ ⟨rfl, rfl⟩
          simp (disch := omega) only [go_sem, ↓reduceIte, Nat.reduceEqDiff, Nat.reduceAdd, Nat.reduceMul, Nat.reduceSub, Nat.reduceLT, Nat.reduceLeDiff, Nat.reduceBEq, reduceCtorEq, Int.reduceLT, Int.reduceEq, Int.reduceLE, Int.reduceAdd, Int.reduceSub, Int.reduceToNat, Int.reduceNeg, h10, h3]
        have e1 := eqV_d p b (decide_eq_false q1)
        simp (disch := omega) only [go_sem, ↓reduceIte, Nat.reduceEqDiff, Nat.reduceAdd, Nat.reduceMul, Nat.reduceSub, Nat.reduceLT, Nat.reduceLeDiff, Nat.reduceBEq, reduceCtorEq, Int.reduceLT, Int.reduceEq, Int.reduceLE, Int.reduceAdd, Int.reduceSub, Int.reduceToNat, Int.reduceNeg, h10, h3, fz6.l, fy6.l, e1]
        refine wJ_of (F.movetree_Tree_Path_T (b := p) T6 (by omega)) ?_; rintro vp Sp ⟨hop, ep⟩
        have T6 := T6.ext ep
        have fy6 := fy6.ext ep
        have fz6 := fz6.ext ep
        have g36 := g36.trans ep
        have hpl : (pathA (runS L) p).length < 4611686018427387904 := by have h1 := ((okS_run L).pth p).len; have h2 := runS_len L; omega
        simp (disch := omega) only [go_sem, ↓reduceIte, Nat.reduceEqDiff, Nat.reduceAdd, Nat.reduceMul, Nat.reduceSub, Nat.reduceLT, Nat.reduceLeDiff, Nat.reduceBEq, reduceCtorEq, Int.reduceLT, Int.reduceEq, Int.reduceLE, Int.reduceAdd, Int.reduceSub, Int.reduceToNat, Int.reduceNeg, h10, h3, fy6.l]
        refine wJ_of (F.osierref03_In_P (hop.sl dotE) hpl) ?_; rintro _ _ ⟨rfl, rfl⟩
        by_cases q2 : b ∈ pathA (runS L) p
        · have dq : decide (b ∈ pathA (runS L) p) = true := decide_eq_true q2
          simp (disch := omega) only [go_sem, ↓reduceIte, Nat.reduceEqDiff, Nat.reduceAdd, Nat.reduceMul, Nat.reduceSub, Nat.reduceLT, Nat.reduceLeDiff, Nat.reduceBEq, reduceCtorEq, Int.reduceLT, Int.reduceEq, Int.reduceLE, Int.reduceAdd, Int.reduceSub, Int.reduceToNat, Int.reduceNeg, h10, h3, fy6.l, fz6.l, dq]
          have hm : ¬ takesP (runS L) ⟨(99, 99), 1000001, p, key, b⟩ := fun h => (lm1.1 h).2 q2
          refine wJ_of (F.movetree_Tree_Parent_J (d := b) T6) ?_; rintro _ _ ⟨rfl, rfl⟩
          simp (disch := omega) only [go_sem, ↓reduceIte, Nat.reduceEqDiff, Nat.reduceAdd, Nat.reduceMul, Nat.reduceSub, Nat.reduceLT, Nat.reduceLeDiff, Nat.reduceBEq, reduceCtorEq, Int.reduceLT, Int.reduceEq, Int.reduceLE, Int.reduceAdd, Int.reduceSub, Int.reduceToNat, Int.reduceNeg, h10, h3, fy6.l, fz6.l]
          refine walloc_x [.int .i64 0, .int .i64 0] fun w S7 e7 ow hw hwn => ?_
          simp (disch := omega) only [go_sem, ↓reduceIte, Nat.reduceEqDiff, Nat.reduceAdd, Nat.reduceMul, Nat.reduceSub, Nat.reduceLT, Nat.reduceLeDiff, Nat.reduceBEq, reduceCtorEq, Int.reduceLT, Int.reduceEq, Int.reduceLE, Int.reduceAdd, Int.reduceSub, Int.reduceToNat, Int.reduceNeg, h10, h3]
          refine wst_w [.int .i64 ((alook b (runS L)).getD zSpot).1.1, .int .i64 ((alook b (runS L)).getD zSpot).1.2] ow rfl rfl (by simp) (by simp) rfl fun S8 ow8 b8 hw8 => ?_
          have T8 := (T6.ext e7).but b8 (T6.off hwn)
          have fw8 : Off Z S8 w [.int .i64 ((alook b (runS L)).getD zSpot).1.1, .int .i64 ((alook b (runS L)).getD zSpot).1.2] := ⟨hw8, T6.off hwn w rfl, ow8⟩
          have fy8 := (fy6.ext e7).but b8 (by have := fy6.1; omega)
          have fz8 := (fz6.ext e7).but b8 (by have := fz6.1; omega)
          simp (disch := omega) only [go_sem, ↓reduceIte, Nat.reduceEqDiff, Nat.reduceAdd, Nat.reduceMul, Nat.reduceSub, Nat.reduceLT, Nat.reduceLeDiff, Nat.reduceBEq, reduceCtorEq, Int.reduceLT, Int.reduceEq, Int.reduceLE, Int.reduceAdd, Int.reduceSub, Int.reduceToNat, Int.reduceNeg, h10, h3, fy8.l, fz8.l]
          refine walloc_x [.int .i64 0, .int .i64 0] fun u S9 e9 ou hu hun => ?_
          simp (disch := omega) only [go_sem, ↓reduceIte, Nat.reduceEqDiff, Nat.reduceAdd, Nat.reduceMul, Nat.reduceSub, Nat.reduceLT, Nat.reduceLeDiff, Nat.reduceBEq, reduceCtorEq, Int.reduceLT, Int.reduceEq, Int.reduceLE, Int.reduceAdd, Int.reduceSub, Int.reduceToNat, Int.reduceNeg, h10, h3]
          refine wst_w [.int .i64 99, .int .i64 99] ou rfl rfl (by simp) (by simp) rfl fun S10 ou10 b10 hu10 => ?_
          have T10 := (T8.ext e9).but b10 (T8.off hun)
          have fu10 : Off Z S10 u [.int .i64 99, .int .i64 99] := ⟨hu10, T8.off hun u rfl, ou10⟩
          have fw10 := (fw8.ext e9).but b10 (by have := fw8.1; omega)
          have fy10 := (fy8.ext e9).but b10 (by have := fy8.1; omega)
          have fz10 := (fz8.ext e9).but b10 (by have := fz8.1; omega)
          simp (disch := omega) only [go_sem, ↓reduceIte, Nat.reduceEqDiff, Nat.reduceAdd, Nat.reduceMul, Nat.reduceSub, Nat.reduceLT, Nat.reduceLeDiff, Nat.reduceBEq, reduceCtorEq, Int.reduceLT, Int.reduceEq, Int.reduceLE, Int.reduceAdd, Int.reduceSub, Int.reduceToNat, Int.reduceNeg, h10, h3, fy10.l, fz10.l, fu10.l, fw10.l]
          refine wJ_of (F.movetree_Tree_Move_J (m := ⟨(99, 99), 1000001, p, key, b⟩) T10 (by omega)) ?_; rintro _ S11 ⟨rfl, Z11, T11, z11, r11⟩
          have fu11 := fu10.step r11 z11
          have fw11 := fw10.step r11 z11
          have fy11 := fy10.step r11 z11
          have fz11 := fz10.step r11 z11
          have hnn : ¬ (noneP ((99, 99) : Dot) ∨ noneP b) := fun h => h.elim (by decide) hbn
          by_cases hid : ((99, 99) : Dot) ∈ L.map Mv.id
          · have em : moveA L ⟨(99, 99), 1000001, p, key, b⟩ = (32, L) := by
              unfold moveA
              rw [if_neg hnn, if_pos hid]
            have em1 : (moveA L ⟨(99, 99), 1000001, p, key, b⟩).1 = 32 := by rw [em]
            simp (disch := omega) only [go_sem, ↓reduceIte, Nat.reduceEqDiff, Nat.reduceAdd, Nat.reduceMul, Nat.reduceSub, Nat.reduceLT, Nat.reduceLeDiff, Nat.reduceBEq, reduceCtorEq, Int.reduceLT, Int.reduceEq, Int.reduceLE, Int.reduceAdd, Int.reduceSub, Int.reduceToNat, Int.reduceNeg, h10, h3, em1]
          have em : moveA L ⟨(99, 99), 1000001, p, key, b⟩ = (0, L ++ [⟨(99, 99), 1000001, p, key, b⟩]) := by
            unfold moveA
            rw [if_neg hnn, if_neg hid, insM_last fun x hx => by have := ht x hx; show x.time < 1000001; omega]
          have em1 : (moveA L ⟨(99, 99), 1000001, p, key, b⟩).1 = 0 := by rw [em]
          rw [em] at T11
          simp only at T11
          have hlook : alook b (runS (L ++ [⟨(99, 99), 1000001, p, key, b⟩])) = if takesP (runS L) ⟨(99, 99), 1000001, p, key, b⟩ then some (p, key) else alook b (runS L) := by rw [runS_snoc]; exact lm2
          simp (disch := omega) only [go_sem, ↓reduceIte, Nat.reduceEqDiff, Nat.reduceAdd, Nat.reduceMul, Nat.reduceSub, Nat.reduceLT, Nat.reduceLeDiff, Nat.reduceBEq, reduceCtorEq, Int.reduceLT, Int.reduceEq, Int.reduceLE, Int.reduceAdd, Int.reduceSub, Int.reduceToNat, Int.reduceNeg, h10, h3, em1, fy11.l]
          refine wJ_of (F.movetree_Tree_Parent_J (d := b) T11) ?_; rintro _ _ ⟨rfl, rfl⟩
          rw [hlook]
          simp (disch := omega) only [go_sem, ↓reduceIte, Nat.reduceEqDiff, Nat.reduceAdd, Nat.reduceMul, Nat.reduceSub, Nat.reduceLT, Nat.reduceLeDiff, Nat.reduceBEq, reduceCtorEq, Int.reduceLT, Int.reduceEq, Int.reduceLE, Int.reduceAdd, Int.reduceSub, Int.reduceToNat, Int.reduceNeg, h10, h3]
          refine walloc_x [.int .i64 0, .int .i64 0] fun t S12 e12 ot ht' htn => ?_
          have T12 := T11.ext e12
          have fu12 := fu11.ext e12
          have fw12 := fw11.ext e12
          have fy12 := fy11.ext e12
          have fz12 := fz11.ext e12
          rw [if_neg hm]
          simp (disch := omega) only [go_sem, ↓reduceIte, Nat.reduceEqDiff, Nat.reduceAdd, Nat.reduceMul, Nat.reduceSub, Nat.reduceLT, Nat.reduceLeDiff, Nat.reduceBEq, reduceCtorEq, Int.reduceLT, Int.reduceEq, Int.reduceLE, Int.reduceAdd, Int.reduceSub, Int.reduceToNat, Int.reduceNeg, h10, h3]
          refine wst_w [.int .i64 ((alook b (runS L)).getD zSpot).1.1, .int .i64 ((alook b (runS L)).getD zSpot).1.2] ot rfl rfl (by simp) (by simp) rfl fun S13 ot13 b13 ht13 => ?_
          have T13 := T12.but b13 (T11.off htn)
          have ft13 : Off Z11 S13 t [.int .i64 ((alook b (runS L)).getD zSpot).1.1, .int .i64 ((alook b (runS L)).getD zSpot).1.2] := ⟨ht13, T11.off htn t rfl, ot13⟩
          have fu13 := fu12.but b13 (by have := fu11.1; omega)
          have fw13 := fw12.but b13 (by have := fw11.1; omega)
          have fy13 := fy12.but b13 (by have := fy11.1; omega)
          have fz13 := fz12.but b13 (by have := fz11.1; omega)
          simp (disch := omega) only [go_sem, ↓reduceIte, Nat.reduceEqDiff, Nat.reduceAdd, Nat.reduceMul, Nat.reduceSub, Nat.reduceLT, Nat.reduceLeDiff, Nat.reduceBEq, reduceCtorEq, Int.reduceLT, Int.reduceEq, Int.reduceLE, Int.reduceAdd, Int.reduceSub, Int.reduceToNat, Int.reduceNeg, h10, h3, em1, hbs, fu13.l, fy13.l, fz13.l]
          refine wJ_of (F.movetree_Tree_Took_J (d := (99, 99)) T13 (by simp; omega)) ?_; rintro _ _ ⟨rfl, rfl⟩
          have dt : decide (tookP (L ++ [⟨(99, 99), 1000001, p, key, b⟩]) (99, 99)) = false := decide_eq_false fun h => hm ((tookP_snoc (m := ⟨(99, 99), 1000001, p, key, b⟩) hid).1 h)
          have epp := eqV_d ((alook b (runS L)).getD zSpot).1 ((alook b (runS L)).getD zSpot).1 (t := true) (by simp)
          have ekk : (((alook b (runS L)).getD zSpot).2 == ((alook b (runS L)).getD zSpot).2) = true := by rw [ba_beq]; simp
          simp (disch := omega) only [go_sem, ↓reduceIte, Nat.reduceEqDiff, Nat.reduceAdd, Nat.reduceMul, Nat.reduceSub, Nat.reduceLT, Nat.reduceLeDiff, Nat.reduceBEq, reduceCtorEq, Int.reduceLT, Int.reduceEq, Int.reduceLE, Int.reduceAdd, Int.reduceSub, Int.reduceToNat, Int.reduceNeg, h10, h3, dt, epp, ekk, ft13.l, fz13.l, fw13.l]
          refine wJ_of (F.movetree_Tree_Blocks_J T13 (by simp; omega)) ?_; rintro vb2 S14 ⟨hob2, e14⟩
          have hB2 : risen ((runS (L ++ [⟨(99, 99), 1000001, p, key, b⟩])).map Prod.fst) = B := by
            rw [← hB, runS_snoc]
            exact risen_congr lm3
          rw [hB2] at hob2
          have k8 : S3.Ext S8 := (g36.trans e7).but b8 fun j hj => by simp [blkOf] at hj; have := g36.n; omega
          have k10 : S3.Ext S10 := (k8.trans e9).but b10 fun j hj => by simp [blkOf] at hj; have := k8.n; omega
          have w10 := hob.ext dotE k10
          have w11 := w10.congr dotE r11.n fun c _ _ hv hc => r11.obj c hc fun e => by
            have h1 := (hob.blk dotE c (by rw [hv]; rfl)).1
            have h2 := T2.1 c e
            omega
          have w13 := (w11.ext dotE e12).but dotE b13 fun j hj => by have := (w11.blk dotE j hj).2; simp [blkOf]; omega
          have w14 := w13.ext dotE e14
          simp (disch := omega) only [go_sem, ↓reduceIte, Nat.reduceEqDiff, Nat.reduceAdd, Nat.reduceMul, Nat.reduceSub, Nat.reduceLT, Nat.reduceLeDiff, Nat.reduceBEq, reduceCtorEq, Int.reduceLT, Int.reduceEq, Int.reduceLE, Int.reduceAdd, Int.reduceSub, Int.reduceToNat, Int.reduceNeg, h10, h3]
          refine wJ_of (F.osierref03_Same.J (hob2.sl dotE) (w14.sl dotE) (by omega)) ?_; rintro _ _ ⟨rfl, rfl⟩
          simp (disch := omega) only [go_sem, ↓reduceIte, Nat.reduceEqDiff, Nat.reduceAdd, Nat.reduceMul, Nat.reduceSub, Nat.reduceLT, Nat.reduceLeDiff, Nat.reduceBEq, reduceCtorEq, Int.reduceLT, Int.reduceEq, Int.reduceLE, Int.reduceAdd, Int.reduceSub, Int.reduceToNat, Int.reduceNeg, h10, h3]
        · have dq : decide (b ∈ pathA (runS L) p) = false := decide_eq_false q2
          simp (disch := omega) only [go_sem, ↓reduceIte, Nat.reduceEqDiff, Nat.reduceAdd, Nat.reduceMul, Nat.reduceSub, Nat.reduceLT, Nat.reduceLeDiff, Nat.reduceBEq, reduceCtorEq, Int.reduceLT, Int.reduceEq, Int.reduceLE, Int.reduceAdd, Int.reduceSub, Int.reduceToNat, Int.reduceNeg, h10, h3, fy6.l, fz6.l, dq]
          have hm : takesP (runS L) ⟨(99, 99), 1000001, p, key, b⟩ := lm1.2 ⟨q1, q2⟩
          refine wJ_of (F.movetree_Tree_Parent_J (d := b) T6) ?_; rintro _ _ ⟨rfl, rfl⟩
          simp (disch := omega) only [go_sem, ↓reduceIte, Nat.reduceEqDiff, Nat.reduceAdd, Nat.reduceMul, Nat.reduceSub, Nat.reduceLT, Nat.reduceLeDiff, Nat.reduceBEq, reduceCtorEq, Int.reduceLT, Int.reduceEq, Int.reduceLE, Int.reduceAdd, Int.reduceSub, Int.reduceToNat, Int.reduceNeg, h10, h3, fy6.l, fz6.l]
          refine walloc_x [.int .i64 0, .int .i64 0] fun w S7 e7 ow hw hwn => ?_
          simp (disch := omega) only [go_sem, ↓reduceIte, Nat.reduceEqDiff, Nat.reduceAdd, Nat.reduceMul, Nat.reduceSub, Nat.reduceLT, Nat.reduceLeDiff, Nat.reduceBEq, reduceCtorEq, Int.reduceLT, Int.reduceEq, Int.reduceLE, Int.reduceAdd, Int.reduceSub, Int.reduceToNat, Int.reduceNeg, h10, h3]
          refine wst_w [.int .i64 ((alook b (runS L)).getD zSpot).1.1, .int .i64 ((alook b (runS L)).getD zSpot).1.2] ow rfl rfl (by simp) (by simp) rfl fun S8 ow8 b8 hw8 => ?_
          have T8 := (T6.ext e7).but b8 (T6.off hwn)
          have fw8 : Off Z S8 w [.int .i64 ((alook b (runS L)).getD zSpot).1.1, .int .i64 ((alook b (runS L)).getD zSpot).1.2] := ⟨hw8, T6.off hwn w rfl, ow8⟩
          have fy8 := (fy6.ext e7).but b8 (by have := fy6.1; omega)
          have fz8 := (fz6.ext e7).but b8 (by have := fz6.1; omega)
          simp (disch := omega) only [go_sem, ↓reduceIte, Nat.reduceEqDiff, Nat.reduceAdd, Nat.reduceMul, Nat.reduceSub, Nat.reduceLT, Nat.reduceLeDiff, Nat.reduceBEq, reduceCtorEq, Int.reduceLT, Int.reduceEq, Int.reduceLE, Int.reduceAdd, Int.reduceSub, Int.reduceToNat, Int.reduceNeg, h10, h3, fy8.l, fz8.l]
          refine walloc_x [.int .i64 0, .int .i64 0] fun u S9 e9 ou hu hun => ?_
          simp (disch := omega) only [go_sem, ↓reduceIte, Nat.reduceEqDiff, Nat.reduceAdd, Nat.reduceMul, Nat.reduceSub, Nat.reduceLT, Nat.reduceLeDiff, Nat.reduceBEq, reduceCtorEq, Int.reduceLT, Int.reduceEq, Int.reduceLE, Int.reduceAdd, Int.reduceSub, Int.reduceToNat, Int.reduceNeg, h10, h3]
          refine wst_w [.int .i64 99, .int .i64 99] ou rfl rfl (by simp) (by simp) rfl fun S10 ou10 b10 hu10 => ?_
          have T10 := (T8.ext e9).but b10 (T8.off hun)
          have fu10 : Off Z S10 u [.int .i64 99, .int .i64 99] := ⟨hu10, T8.off hun u rfl, ou10⟩
          have fw10 := (fw8.ext e9).but b10 (by have := fw8.1; omega)
          have fy10 := (fy8.ext e9).but b10 (by have := fy8.1; omega)
          have fz10 := (fz8.ext e9).but b10 (by have := fz8.1; omega)
          simp (disch := omega) only [go_sem, ↓reduceIte, Nat.reduceEqDiff, Nat.reduceAdd, Nat.reduceMul, Nat.reduceSub, Nat.reduceLT, Nat.reduceLeDiff, Nat.reduceBEq, reduceCtorEq, Int.reduceLT, Int.reduceEq, Int.reduceLE, Int.reduceAdd, Int.reduceSub, Int.reduceToNat, Int.reduceNeg, h10, h3, fy10.l, fz10.l, fu10.l, fw10.l]
          refine wJ_of (F.movetree_Tree_Move_J (m := ⟨(99, 99), 1000001, p, key, b⟩) T10 (by omega)) ?_; rintro _ S11 ⟨rfl, Z11, T11, z11, r11⟩
          have fu11 := fu10.step r11 z11
          have fw11 := fw10.step r11 z11
          have fy11 := fy10.step r11 z11
          have fz11 := fz10.step r11 z11
          have hnn : ¬ (noneP ((99, 99) : Dot) ∨ noneP b) := fun h => h.elim (by decide) hbn
          by_cases hid : ((99, 99) : Dot) ∈ L.map Mv.id
          · have em : moveA L ⟨(99, 99), 1000001, p, key, b⟩ = (32, L) := by
              unfold moveA
              rw [if_neg hnn, if_pos hid]
            have em1 : (moveA L ⟨(99, 99), 1000001, p, key, b⟩).1 = 32 := by rw [em]
            simp (disch := omega) only [go_sem, ↓reduceIte, Nat.reduceEqDiff, Nat.reduceAdd, Nat.reduceMul, Nat.reduceSub, Nat.reduceLT, Nat.reduceLeDiff, Nat.reduceBEq, reduceCtorEq, Int.reduceLT, Int.reduceEq, Int.reduceLE, Int.reduceAdd, Int.reduceSub, Int.reduceToNat, Int.reduceNeg, h10, h3, em1]
          have em : moveA L ⟨(99, 99), 1000001, p, key, b⟩ = (0, L ++ [⟨(99, 99), 1000001, p, key, b⟩]) := by
            unfold moveA
            rw [if_neg hnn, if_neg hid, insM_last fun x hx => by have := ht x hx; show x.time < 1000001; omega]
          have em1 : (moveA L ⟨(99, 99), 1000001, p, key, b⟩).1 = 0 := by rw [em]
          rw [em] at T11
          simp only at T11
          have hlook : alook b (runS (L ++ [⟨(99, 99), 1000001, p, key, b⟩])) = if takesP (runS L) ⟨(99, 99), 1000001, p, key, b⟩ then some (p, key) else alook b (runS L) := by rw [runS_snoc]; exact lm2
          simp (disch := omega) only [go_sem, ↓reduceIte, Nat.reduceEqDiff, Nat.reduceAdd, Nat.reduceMul, Nat.reduceSub, Nat.reduceLT, Nat.reduceLeDiff, Nat.reduceBEq, reduceCtorEq, Int.reduceLT, Int.reduceEq, Int.reduceLE, Int.reduceAdd, Int.reduceSub, Int.reduceToNat, Int.reduceNeg, h10, h3, em1, fy11.l]
          refine wJ_of (F.movetree_Tree_Parent_J (d := b) T11) ?_; rintro _ _ ⟨rfl, rfl⟩
          rw [hlook]
          simp (disch := omega) only [go_sem, ↓reduceIte, Nat.reduceEqDiff, Nat.reduceAdd, Nat.reduceMul, Nat.reduceSub, Nat.reduceLT, Nat.reduceLeDiff, Nat.reduceBEq, reduceCtorEq, Int.reduceLT, Int.reduceEq, Int.reduceLE, Int.reduceAdd, Int.reduceSub, Int.reduceToNat, Int.reduceNeg, h10, h3]
          refine walloc_x [.int .i64 0, .int .i64 0] fun t S12 e12 ot ht' htn => ?_
          have T12 := T11.ext e12
          have fu12 := fu11.ext e12
          have fw12 := fw11.ext e12
          have fy12 := fy11.ext e12
          have fz12 := fz11.ext e12
          rw [if_pos hm]
          simp (disch := omega) only [go_sem, ↓reduceIte, Nat.reduceEqDiff, Nat.reduceAdd, Nat.reduceMul, Nat.reduceSub, Nat.reduceLT, Nat.reduceLeDiff, Nat.reduceBEq, reduceCtorEq, Int.reduceLT, Int.reduceEq, Int.reduceLE, Int.reduceAdd, Int.reduceSub, Int.reduceToNat, Int.reduceNeg, h10, h3, Option.getD_some]
          refine wst_w [.int .i64 p.1, .int .i64 p.2] ot rfl rfl (by simp) (by simp) rfl fun S13 ot13 b13 ht13 => ?_
          have T13 := T12.but b13 (T11.off htn)
          have ft13 : Off Z11 S13 t [.int .i64 p.1, .int .i64 p.2] := ⟨ht13, T11.off htn t rfl, ot13⟩
          have fu13 := fu12.but b13 (by have := fu11.1; omega)
          have fw13 := fw12.but b13 (by have := fw11.1; omega)
          have fy13 := fy12.but b13 (by have := fy11.1; omega)
          have fz13 := fz12.but b13 (by have := fz11.1; omega)
          simp (disch := omega) only [go_sem, ↓reduceIte, Nat.reduceEqDiff, Nat.reduceAdd, Nat.reduceMul, Nat.reduceSub, Nat.reduceLT, Nat.reduceLeDiff, Nat.reduceBEq, reduceCtorEq, Int.reduceLT, Int.reduceEq, Int.reduceLE, Int.reduceAdd, Int.reduceSub, Int.reduceToNat, Int.reduceNeg, h10, h3, em1, Option.isSome_some, fu13.l, fy13.l, fz13.l]
          refine wJ_of (F.movetree_Tree_Took_J (d := (99, 99)) T13 (by simp; omega)) ?_; rintro _ _ ⟨rfl, rfl⟩
          have dt : decide (tookP (L ++ [⟨(99, 99), 1000001, p, key, b⟩]) (99, 99)) = true := decide_eq_true ((tookP_snoc (m := ⟨(99, 99), 1000001, p, key, b⟩) hid).2 hm)
          have epp := eqV_d p p (t := true) (by simp)
          have ekk : (key == key) = true := by rw [ba_beq]; simp
          simp (disch := omega) only [go_sem, ↓reduceIte, Nat.reduceEqDiff, Nat.reduceAdd, Nat.reduceMul, Nat.reduceSub, Nat.reduceLT, Nat.reduceLeDiff, Nat.reduceBEq, reduceCtorEq, Int.reduceLT, Int.reduceEq, Int.reduceLE, Int.reduceAdd, Int.reduceSub, Int.reduceToNat, Int.reduceNeg, h10, h3, dt, epp, ekk, ft13.l, fz13.l, fw13.l]
          refine wJ_of (F.movetree_Tree_Blocks_J T13 (by simp; omega)) ?_; rintro vb2 S14 ⟨hob2, e14⟩
          have hB2 : risen ((runS (L ++ [⟨(99, 99), 1000001, p, key, b⟩])).map Prod.fst) = B := by
            rw [← hB, runS_snoc]
            exact risen_congr lm3
          rw [hB2] at hob2
          have k8 : S3.Ext S8 := (g36.trans e7).but b8 fun j hj => by simp [blkOf] at hj; have := g36.n; omega
          have k10 : S3.Ext S10 := (k8.trans e9).but b10 fun j hj => by simp [blkOf] at hj; have := k8.n; omega
          have w10 := hob.ext dotE k10
          have w11 := w10.congr dotE r11.n fun c _ _ hv hc => r11.obj c hc fun e => by
            have h1 := (hob.blk dotE c (by rw [hv]; rfl)).1
            have h2 := T2.1 c e
            omega
          have w13 := (w11.ext dotE e12).but dotE b13 fun j hj => by have := (w11.blk dotE j hj).2; simp [blkOf]; omega
          have w14 := w13.ext dotE e14
          simp (disch := omega) only [go_sem, ↓reduceIte, Nat.reduceEqDiff, Nat.reduceAdd, Nat.reduceMul, Nat.reduceSub, Nat.reduceLT, Nat.reduceLeDiff, Nat.reduceBEq, reduceCtorEq, Int.reduceLT, Int.reduceEq, Int.reduceLE, Int.reduceAdd, Int.reduceSub, Int.reduceToNat, Int.reduceNeg, h10, h3]
          refine wJ_of (F.osierref03_Same.J (hob2.sl dotE) (w14.sl dotE) (by omega)) ?_; rintro _ _ ⟨rfl, rfl⟩
          simp (disch := omega) only [go_sem, ↓reduceIte, Nat.reduceEqDiff, Nat.reduceAdd, Nat.reduceMul, Nat.reduceSub, Nat.reduceLT, Nat.reduceLeDiff, Nat.reduceBEq, reduceCtorEq, Int.reduceLT, Int.reduceEq, Int.reduceLE, Int.reduceAdd, Int.reduceSub, Int.reduceToNat, Int.reduceNeg, h10, h3]
    · obtain ⟨A2, hA2⟩ : ∃ A2 : Int, A2 = n2 := ⟨_, rfl⟩
      rw [← hA2] at h2
      have ha2 : 0 ≤ A2 := by omega
      have s2 : ¬ A2 < 0 := by omega
      simp (disch := omega) only [go_sem, ↓reduceIte, Nat.reduceEqDiff, Nat.reduceAdd, Nat.reduceMul, Nat.reduceSub, Nat.reduceLT, Nat.reduceLeDiff, Nat.reduceBEq, reduceCtorEq, Int.reduceLT, Int.reduceEq, Int.reduceLE, Int.reduceAdd, Int.reduceSub, Int.reduceToNat, Int.reduceNeg, h1, h2, s1, s2]
      obtain ⟨k1, hk1, hk1l⟩ := tmod_nat (a := A1) (n := B.length) ha1 hBp
      obtain ⟨b0, o0, rfl, hb0, l0⟩ := hsb.dot hk1l
      have c1 : (0 : Int) ≤ (k1 : Int) ∧ (k1 : Int) < (B.length : Int) := by omega
      simp (disch := omega) only [go_sem, ↓reduceIte, Nat.reduceEqDiff, Nat.reduceAdd, Nat.reduceMul, Nat.reduceSub, Nat.reduceLT, Nat.reduceLeDiff, Nat.reduceBEq, reduceCtorEq, Int.reduceLT, Int.reduceEq, Int.reduceLE, Int.reduceAdd, Int.reduceSub, Int.reduceToNat, Int.reduceNeg, h1, h2, h10, hBz, hk1, c1, l0]
      generalize hb : B[k1] = b at *
      have hbs : (alook b (runS L)).isSome = true := (hBm b).1 (hb ▸ List.getElem_mem hk1l)
      have hbn : ¬ noneP b := by obtain ⟨x, hx, e⟩ := key_block hbs; exact e ▸ (hg x hx).2
      refine walloc_x [.int .i64 0, .int .i64 0] fun y S4 e4 oy hy hyn => ?_
      simp (disch := omega) only [go_sem, ↓reduceIte, Nat.reduceEqDiff, Nat.reduceAdd, Nat.reduceMul, Nat.reduceSub, Nat.reduceLT, Nat.reduceLeDiff, Nat.reduceBEq, reduceCtorEq, Int.reduceLT, Int.reduceEq, Int.reduceLE, Int.reduceAdd, Int.reduceSub, Int.reduceToNat, Int.reduceNeg]
      refine wst_w [.int .i64 b.1, .int .i64 b.2] oy rfl rfl (by simp) (by simp) rfl fun S5 oy5 b5 hy5 => ?_
      have T5 := (T3.ext e4).but b5 (T3.off hyn)
      have fy5 : Off Z S5 y [.int .i64 b.1, .int .i64 b.2] := ⟨hy5, T3.off hyn y rfl, oy5⟩
      have g35 : S3.Ext S5 := e4.but b5 fun j hj => by simp [blkOf] at hj; omega
      simp (disch := omega) only [go_sem, ↓reduceIte, Nat.reduceEqDiff, Nat.reduceAdd, Nat.reduceMul, Nat.reduceSub, Nat.reduceLT, Nat.reduceLeDiff, Nat.reduceBEq, reduceCtorEq, Int.reduceLT, Int.reduceEq, Int.reduceLE, Int.reduceAdd, Int.reduceSub, Int.reduceToNat, Int.reduceNeg]
      refine wJ_of F.api_Trash_J ?_; rintro _ _ ⟨rfl, rfl⟩
      simp (disch := omega) only [go_sem, ↓reduceIte, Nat.reduceEqDiff, Nat.reduceAdd, Nat.reduceMul, Nat.reduceSub, Nat.reduceLT, Nat.reduceLeDiff, Nat.reduceBEq, reduceCtorEq, Int.reduceLT, Int.reduceEq, Int.reduceLE, Int.reduceAdd, Int.reduceSub, Int.reduceToNat, Int.reduceNeg]
      refine walloc_x [.int .i64 0, .int .i64 0] fun z S5' e5 oz hzb hzn => ?_
      simp (disch := omega) only [go_sem, ↓reduceIte, Nat.reduceEqDiff, Nat.reduceAdd, Nat.reduceMul, Nat.reduceSub, Nat.reduceLT, Nat.reduceLeDiff, Nat.reduceBEq, reduceCtorEq, Int.reduceLT, Int.reduceEq, Int.reduceLE, Int.reduceAdd, Int.reduceSub, Int.reduceToNat, Int.reduceNeg]
      refine wst_w [.int .i64 0, .int .i64 (-2)] oz rfl rfl (by simp) (by simp) rfl fun S6 oz6 b6 hz6 => ?_
      have T6 := (T5.ext e5).but b6 (T5.off hzn)
      have fz6 : Off Z S6 z [.int .i64 0, .int .i64 (-2)] := ⟨hz6, T5.off hzn z rfl, oz6⟩
      have fy6 := (fy5.ext e5).but b6 (by have := fy5.1; omega)
      have g36 : S3.Ext S6 := (g35.trans e5).but b6 fun j hj => by simp [blkOf] at hj; have := g35.n; omega
      obtain ⟨k2, hk2, hk2l⟩ := tmod_nat (a := A2) (n := B.length + 1) ha2 (Nat.succ_pos _)
      replace hk2 : A2.tmod ((B.length : Int) + 1) = k2 := hk2
      have hB1 : ¬ ((B.length : Int) + 1 = 0) := by omega
      by_cases hp2 : k2 < B.length
      · have i2 : (k2 : Int) < (B.length : Int) := by omega
        have c2 : (0 : Int) ≤ (k2 : Int) ∧ (k2 : Int) < (B.length : Int) := by omega
        obtain ⟨b0', o0', hbb, -, l2⟩ := (hsb.ext dotE g36).dot hp2
        injection hbb with hbb
        injection hbb with hb1 hb2
        subst hb1 hb2
        simp (disch := omega) only [go_sem, ↓reduceIte, Nat.reduceEqDiff, Nat.reduceAdd, Nat.reduceMul, Nat.reduceSub, Nat.reduceLT, Nat.reduceLeDiff, Nat.reduceBEq, reduceCtorEq, Int.reduceLT, Int.reduceEq, Int.reduceLE, Int.reduceAdd, Int.reduceSub, Int.reduceToNat, Int.reduceNeg, h1, h2, h10, hB1, hk2, i2, c2, l2]
        generalize hpe : B[k2] = p at *
        have hp : p = trashD ∨ (alook p (runS L)).isSome = true := .inr ((hBm p).1 (hpe ▸ List.getElem_mem hp2))
        refine wst_w [.int .i64 p.1, .int .i64 p.2] fz6.2.2 rfl rfl (by simp) (by simp) rfl fun S6' oz6' b6' hz6' => ?_
        have hyz : z ≠ y := by have := fy5.1; omega
        have T6 := T6.but b6' (T5.off hzn)
        have fz6 : Off Z S6' z [.int .i64 p.1, .int .i64 p.2] := ⟨hz6', T5.off hzn z rfl, oz6'⟩
        have fy6 := fy6.but b6' hyz
        have g36 : S3.Ext S6' := g36.but b6' fun j hj => by simp [blkOf] at hj; have := g35.n; omega
        obtain ⟨lm1, lm2, lm3⟩ := last_move (L := L) (b := b) (p := p) (key := key) (i := (99, 99)) (t := 1000001) hbs hp
        by_cases q1 : p = b
        · have e1 := eqV_d p b (decide_eq_true q1)
          simp (disch := omega) only [go_sem, ↓reduceIte, Nat.reduceEqDiff, Nat.reduceAdd, Nat.reduceMul, Nat.reduceSub, Nat.reduceLT, Nat.reduceLeDiff, Nat.reduceBEq, reduceCtorEq, Int.reduceLT, Int.reduceEq, Int.reduceLE, Int.reduceAdd, Int.reduceSub, Int.reduceToNat, Int.reduceNeg, h10, h3, fz6.l, fy6.l, e1]
          have hm : ¬ takesP (runS L) ⟨(99, 99), 1000001, p, key, b⟩ := fun h => (lm1.1 h).1 q1
          refine wJ_of (F.movetree_Tree_Parent_J (d := b) T6) ?_; rintro _ _ ⟨rfl, rfl⟩
          simp (disch := omega) only [go_sem, ↓reduceIte, Nat.reduceEqDiff, Nat.reduceAdd, Nat.reduceMul, Nat.reduceSub, Nat.reduceLT, Nat.reduceLeDiff, Nat.reduceBEq, reduceCtorEq, Int.reduceLT, Int.reduceEq, Int.reduceLE, Int.reduceAdd, Int.reduceSub, Int.reduceToNat, Int.reduceNeg, h10, h3, fy6.l, fz6.l]
          refine walloc_x [.int .i64 0, .int .i64 0] fun w S7 e7 ow hw hwn => ?_
          simp (disch := omega) only [go_sem, ↓reduceIte, Nat.reduceEqDiff, Nat.reduceAdd, Nat.reduceMul, Nat.reduceSub, Nat.reduceLT, Nat.reduceLeDiff, Nat.reduceBEq, reduceCtorEq, Int.reduceLT, Int.reduceEq, Int.reduceLE, Int.reduceAdd, Int.reduceSub, Int.reduceToNat, Int.reduceNeg, h10, h3]
          refine wst_w [.int .i64 ((alook b (runS L)).getD zSpot).1.1, .int .i64 ((alook b (runS L)).getD zSpot).1.2] ow rfl rfl (by simp) (by simp) rfl fun S8 ow8 b8 hw8 => ?_
          have T8 := (T6.ext e7).but b8 (T6.off hwn)
          have fw8 : Off Z S8 w [.int .i64 ((alook b (runS L)).getD zSpot).1.1, .int .i64 ((alook b (runS L)).getD zSpot).1.2] := ⟨hw8, T6.off hwn w rfl, ow8⟩
          have fy8 := (fy6.ext e7).but b8 (by have := fy6.1; omega)
          have fz8 := (fz6.ext e7).but b8 (by have := fz6.1; omega)
          simp (disch := omega) only [go_sem, ↓reduceIte, Nat.reduceEqDiff, Nat.reduceAdd, Nat.reduceMul, Nat.reduceSub, Nat.reduceLT, Nat.reduceLeDiff, Nat.reduceBEq, reduceCtorEq, Int.reduceLT, Int.reduceEq, Int.reduceLE, Int.reduceAdd, Int.reduceSub, Int.reduceToNat, Int.reduceNeg, h10, h3, fy8.l, fz8.l]
          refine walloc_x [.int .i64 0, .int .i64 0] fun u S9 e9 ou hu hun => ?_
          simp (disch := omega) only [go_sem, ↓reduceIte, Nat.reduceEqDiff, Nat.reduceAdd, Nat.reduceMul, Nat.reduceSub, Nat.reduceLT, Nat.reduceLeDiff, Nat.reduceBEq, reduceCtorEq, Int.reduceLT, Int.reduceEq, Int.reduceLE, Int.reduceAdd, Int.reduceSub, Int.reduceToNat, Int.reduceNeg, h10, h3]
          refine wst_w [.int .i64 99, .int .i64 99] ou rfl rfl (by simp) (by simp) rfl fun S10 ou10 b10 hu10 => ?_
          have T10 := (T8.ext e9).but b10 (T8.off hun)
          have fu10 : Off Z S10 u [.int .i64 99, .int .i64 99] := ⟨hu10, T8.off hun u rfl, ou10⟩
          have fw10 := (fw8.ext e9).but b10 (by have := fw8.1; omega)
          have fy10 := (fy8.ext e9).but b10 (by have := fy8.1; omega)
          have fz10 := (fz8.ext e9).but b10 (by have := fz8.1; omega)
          simp (disch := omega) only [go_sem, ↓reduceIte, Nat.reduceEqDiff, Nat.reduceAdd, Nat.reduceMul, Nat.reduceSub, Nat.reduceLT, Nat.reduceLeDiff, Nat.reduceBEq, reduceCtorEq, Int.reduceLT, Int.reduceEq, Int.reduceLE, Int.reduceAdd, Int.reduceSub, Int.reduceToNat, Int.reduceNeg, h10, h3, fy10.l, fz10.l, fu10.l, fw10.l]
          refine wJ_of (F.movetree_Tree_Move_J (m := ⟨(99, 99), 1000001, p, key, b⟩) T10 (by omega)) ?_; rintro _ S11 ⟨rfl, Z11, T11, z11, r11⟩
          have fu11 := fu10.step r11 z11
          have fw11 := fw10.step r11 z11
          have fy11 := fy10.step r11 z11
          have fz11 := fz10.step r11 z11
          have hnn : ¬ (noneP ((99, 99) : Dot) ∨ noneP b) := fun h => h.elim (by decide) hbn
          by_cases hid : ((99, 99) : Dot) ∈ L.map Mv.id
          · have em : moveA L ⟨(99, 99), 1000001, p, key, b⟩ = (32, L) := by
              unfold moveA
              rw [if_neg hnn, if_pos hid]
            have em1 : (moveA L ⟨(99, 99), 1000001, p, key, b⟩).1 = 32 := by rw [em]
            simp (disch := omega) only [go_sem, ↓reduceIte, Nat.reduceEqDiff, Nat.reduceAdd, Nat.reduceMul, Nat.reduceSub, Nat.reduceLT, Nat.reduceLeDiff, Nat.reduceBEq, reduceCtorEq, Int.reduceLT, Int.reduceEq, Int.reduceLE, Int.reduceAdd, Int.reduceSub, Int.reduceToNat, Int.reduceNeg, h10, h3, em1]
          have em : moveA L ⟨(99, 99), 1000001, p, key, b⟩ = (0, L ++ [⟨(99, 99), 1000001, p, key, b⟩]) := by
            unfold moveA
            rw [if_neg hnn, if_neg hid, insM_last fun x hx => by have := ht x hx; show x.time < 1000001; omega]
          have em1 : (moveA L ⟨(99, 99), 1000001, p, key, b⟩).1 = 0 := by rw [em]
          rw [em] at T11
          simp only at T11
          have hlook : alook b (runS (L ++ [⟨(99, 99), 1000001, p, key, b⟩])) = if takesP (runS L) ⟨(99, 99), 1000001, p, key, b⟩ then some (p, key) else alook b (runS L) := by rw [runS_snoc]; exact lm2
          simp (disch := omega) only [go_sem, ↓reduceIte, Nat.reduceEqDiff, Nat.reduceAdd, Nat.reduceMul, Nat.reduceSub, Nat.reduceLT, Nat.reduceLeDiff, Nat.reduceBEq, reduceCtorEq, Int.reduceLT, Int.reduceEq, Int.reduceLE, Int.reduceAdd, Int.reduceSub, Int.reduceToNat, Int.reduceNeg, h10, h3, em1, fy11.l]
          refine wJ_of (F.movetree_Tree_Parent_J (d := b) T11) ?_; rintro _ _ ⟨rfl, rfl⟩
          rw [hlook]
          simp (disch := omega) only [go_sem, ↓reduceIte, Nat.reduceEqDiff, Nat.reduceAdd, Nat.reduceMul, Nat.reduceSub, Nat.reduceLT, Nat.reduceLeDiff, Nat.reduceBEq, reduceCtorEq, Int.reduceLT, Int.reduceEq, Int.reduceLE, Int.reduceAdd, Int.reduceSub, Int.reduceToNat, Int.reduceNeg, h10, h3]
          refine walloc_x [.int .i64 0, .int .i64 0] fun t S12 e12 ot ht' htn => ?_
          have T12 := T11.ext e12
          have fu12 := fu11.ext e12
          have fw12 := fw11.ext e12
          have fy12 := fy11.ext e12
          have fz12 := fz11.ext e12
          rw [if_neg hm]
          simp (disch := omega) only [go_sem, ↓reduceIte, Nat.reduceEqDiff, Nat.reduceAdd, Nat.reduceMul, Nat.reduceSub, Nat.reduceLT, Nat.reduceLeDiff, Nat.reduceBEq, reduceCtorEq, Int.reduceLT, Int.reduceEq, Int.reduceLE, Int.reduceAdd, Int.reduceSub, Int.reduceToNat, Int.reduceNeg, h10, h3]
          refine wst_w [.int .i64 ((alook b (runS L)).getD zSpot).1.1, .int .i64 ((alook b (runS L)).getD zSpot).1.2] ot rfl rfl (by simp) (by simp) rfl fun S13 ot13 b13 ht13 => ?_
          have T13 := T12.but b13 (T11.off htn)
          have ft13 : Off Z11 S13 t [.int .i64 ((alook b (runS L)).getD zSpot).1.1, .int .i64 ((alook b (runS L)).getD zSpot).1.2] := ⟨ht13, T11.off htn t rfl, ot13⟩
          have fu13 := fu12.but b13 (by have := fu11.1; omega)
          have fw13 := fw12.but b13 (by have := fw11.1; omega)
          have fy13 := fy12.but b13 (by have := fy11.1; omega)
          have fz13 := fz12.but b13 (by have := fz11.1; omega)
          simp (disch := omega) only [go_sem, ↓reduceIte, Nat.reduceEqDiff, Nat.reduceAdd, Nat.reduceMul, Nat.reduceSub, Nat.reduceLT, Nat.reduceLeDiff, Nat.reduceBEq, reduceCtorEq, Int.reduceLT, Int.reduceEq, Int.reduceLE, Int.reduceAdd, Int.reduceSub, Int.reduceToNat, Int.reduceNeg, h10, h3, em1, hbs, fu13.l, fy13.l, fz13.l]
          refine wJ_of (F.movetree_Tree_Took_J (d := (99, 99)) T13 (by simp; omega)) ?_; rintro _ _ ⟨rfl, rfl⟩
          have dt : decide (tookP (L ++ [⟨(99, 99), 1000001, p, key, b⟩]) (99, 99)) = false := decide_eq_false fun h => hm ((tookP_snoc (m := ⟨(99, 99), 1000001, p, key, b⟩) hid).1 h)
          have epp := eqV_d ((alook b (runS L)).getD zSpot).1 ((alook b (runS L)).getD zSpot).1 (t := true) (by simp)
          have ekk : (((alook b (runS L)).getD zSpot).2 == ((alook b (runS L)).getD zSpot).2) = true := by rw [ba_beq]; simp
          simp (disch := omega) only [go_sem, ↓reduceIte, Nat.reduceEqDiff, Nat.reduceAdd, Nat.reduceMul, Nat.reduceSub, Nat.reduceLT, Nat.reduceLeDiff, Nat.reduceBEq, reduceCtorEq, Int.reduceLT, Int.reduceEq, Int.reduceLE, Int.reduceAdd, Int.reduceSub, Int.reduceToNat, Int.reduceNeg, h10, h3, dt, epp, ekk, ft13.l, fz13.l, fw13.l]
          refine wJ_of (F.movetree_Tree_Blocks_J T13 (by simp; omega)) ?_; rintro vb2 S14 ⟨hob2, e14⟩
          have hB2 : risen ((runS (L ++ [⟨(99, 99), 1000001, p, key, b⟩])).map Prod.fst) = B := by
            rw [← hB, runS_snoc]
            exact risen_congr lm3
          rw [hB2] at hob2
          have k8 : S3.Ext S8 := (g36.trans e7).but b8 fun j hj => by simp [blkOf] at hj; have := g36.n; omega
          have k10 : S3.Ext S10 := (k8.trans e9).but b10 fun j hj => by simp [blkOf] at hj; have := k8.n; omega
          have w10 := hob.ext dotE k10
          have w11 := w10.congr dotE r11.n fun c _ _ hv hc => r11.obj c hc fun e => by
            have h1 := (hob.blk dotE c (by rw [hv]; rfl)).1
            have h2 := T2.1 c e
            omega
          have w13 := (w11.ext dotE e12).but dotE b13 fun j hj => by have := (w11.blk dotE j hj).2; simp [blkOf]; omega
          have w14 := w13.ext dotE e14
          simp (disch := omega) only [go_sem, ↓reduceIte, Nat.reduceEqDiff, Nat.reduceAdd, Nat.reduceMul, Nat.reduceSub, Nat.reduceLT, Nat.reduceLeDiff, Nat.reduceBEq, reduceCtorEq, Int.reduceLT, Int.reduceEq, Int.reduceLE, Int.reduceAdd, Int.reduceSub, Int.reduceToNat, Int.reduceNeg, h10, h3]
          refine wJ_of (F.osierref03_Same.J (hob2.sl dotE) (w14.sl dotE) (by omega)) ?_; rintro _ _ ⟨rfl, rfl⟩
          simp (disch := omega) only [go_sem, ↓reduceIte, Nat.reduceEqDiff, Nat.reduceAdd, Nat.reduceMul, Nat.reduceSub, Nat.reduceLT, Nat.reduceLeDiff, Nat.reduceBEq, reduceCtorEq, Int.reduceLT, Int.reduceEq, Int.reduceLE, Int.reduceAdd, Int.reduceSub, Int.reduceToNat, Int.reduceNeg, h10, h3]
        have e1 := eqV_d p b (decide_eq_false q1)
        simp (disch := omega) only [go_sem, ↓reduceIte, Nat.reduceEqDiff, Nat.reduceAdd, Nat.reduceMul, Nat.reduceSub, Nat.reduceLT, Nat.reduceLeDiff, Nat.reduceBEq, reduceCtorEq, Int.reduceLT, Int.reduceEq, Int.reduceLE, Int.reduceAdd, Int.reduceSub, Int.reduceToNat, Int.reduceNeg, h10, h3, fz6.l, fy6.l, e1]
        refine wJ_of (F.movetree_Tree_Path_T (b := p) T6 (by omega)) ?_; rintro vp Sp ⟨hop, ep⟩
        have T6 := T6.ext ep
        have fy6 := fy6.ext ep
        have fz6 := fz6.ext ep
        have g36 := g36.trans ep
        have hpl : (pathA (runS L) p).length < 4611686018427387904 := by have h1 := ((okS_run L).pth p).len; have h2 := runS_len L; omega
        simp (disch := omega) only [go_sem, ↓reduceIte, Nat.reduceEqDiff, Nat.reduceAdd, Nat.reduceMul, Nat.reduceSub, Nat.reduceLT, Nat.reduceLeDiff, Nat.reduceBEq, reduceCtorEq, Int.reduceLT, Int.reduceEq, Int.reduceLE, Int.reduceAdd, Int.reduceSub, Int.reduceToNat, Int.reduceNeg, h10, h3, fy6.l]
        refine wJ_of (F.osierref03_In_P (hop.sl dotE) hpl) ?_; rintro _ _ ⟨rfl, rfl⟩
        by_cases q2 : b ∈ pathA (runS L) p
        · have dq : decide (b ∈ pathA (runS L) p) = true := decide_eq_true q2
          simp (disch := omega) only [go_sem, ↓reduceIte, Nat.reduceEqDiff, Nat.reduceAdd, Nat.reduceMul, Nat.reduceSub, Nat.reduceLT, Nat.reduceLeDiff, Nat.reduceBEq, reduceCtorEq, Int.reduceLT, Int.reduceEq, Int.reduceLE, Int.reduceAdd, Int.reduceSub, Int.reduceToNat, Int.reduceNeg, h10, h3, fy6.l, fz6.l, dq]
          have hm : ¬ takesP (runS L) ⟨(99, 99), 1000001, p, key, b⟩ := fun h => (lm1.1 h).2 q2
          refine wJ_of (F.movetree_Tree_Parent_J (d := b) T6) ?_; rintro _ _ ⟨rfl, rfl⟩
          simp (disch := omega) only [go_sem, ↓reduceIte, Nat.reduceEqDiff, Nat.reduceAdd, Nat.reduceMul, Nat.reduceSub, Nat.reduceLT, Nat.reduceLeDiff, Nat.reduceBEq, reduceCtorEq, Int.reduceLT, Int.reduceEq, Int.reduceLE, Int.reduceAdd, Int.reduceSub, Int.reduceToNat, Int.reduceNeg, h10, h3, fy6.l, fz6.l]
          refine walloc_x [.int .i64 0, .int .i64 0] fun w S7 e7 ow hw hwn => ?_
          simp (disch := omega) only [go_sem, ↓reduceIte, Nat.reduceEqDiff, Nat.reduceAdd, Nat.reduceMul, Nat.reduceSub, Nat.reduceLT, Nat.reduceLeDiff, Nat.reduceBEq, reduceCtorEq, Int.reduceLT, Int.reduceEq, Int.reduceLE, Int.reduceAdd, Int.reduceSub, Int.reduceToNat, Int.reduceNeg, h10, h3]
          refine wst_w [.int .i64 ((alook b (runS L)).getD zSpot).1.1, .int .i64 ((alook b (runS L)).getD zSpot).1.2] ow rfl rfl (by simp) (by simp) rfl fun S8 ow8 b8 hw8 => ?_
          have T8 := (T6.ext e7).but b8 (T6.off hwn)
          have fw8 : Off Z S8 w [.int .i64 ((alook b (runS L)).getD zSpot).1.1, .int .i64 ((alook b (runS L)).getD zSpot).1.2] := ⟨hw8, T6.off hwn w rfl, ow8⟩
          have fy8 := (fy6.ext e7).but b8 (by have := fy6.1; omega)
          have fz8 := (fz6.ext e7).but b8 (by have := fz6.1; omega)
          simp (disch := omega) only [go_sem, ↓reduceIte, Nat.reduceEqDiff, Nat.reduceAdd, Nat.reduceMul, Nat.reduceSub, Nat.reduceLT, Nat.reduceLeDiff, Nat.reduceBEq, reduceCtorEq, Int.reduceLT, Int.reduceEq, Int.reduceLE, Int.reduceAdd, Int.reduceSub, Int.reduceToNat, Int.reduceNeg, h10, h3, fy8.l, fz8.l]
          refine walloc_x [.int .i64 0, .int .i64 0] fun u S9 e9 ou hu hun => ?_
          simp (disch := omega) only [go_sem, ↓reduceIte, Nat.reduceEqDiff, Nat.reduceAdd, Nat.reduceMul, Nat.reduceSub, Nat.reduceLT, Nat.reduceLeDiff, Nat.reduceBEq, reduceCtorEq, Int.reduceLT, Int.reduceEq, Int.reduceLE, Int.reduceAdd, Int.reduceSub, Int.reduceToNat, Int.reduceNeg, h10, h3]
          refine wst_w [.int .i64 99, .int .i64 99] ou rfl rfl (by simp) (by simp) rfl fun S10 ou10 b10 hu10 => ?_
          have T10 := (T8.ext e9).but b10 (T8.off hun)
          have fu10 : Off Z S10 u [.int .i64 99, .int .i64 99] := ⟨hu10, T8.off hun u rfl, ou10⟩
          have fw10 := (fw8.ext e9).but b10 (by have := fw8.1; omega)
          have fy10 := (fy8.ext e9).but b10 (by have := fy8.1; omega)
          have fz10 := (fz8.ext e9).but b10 (by have := fz8.1; omega)
          simp (disch := omega) only [go_sem, ↓reduceIte, Nat.reduceEqDiff, Nat.reduceAdd, Nat.reduceMul, Nat.reduceSub, Nat.reduceLT, Nat.reduceLeDiff, Nat.reduceBEq, reduceCtorEq, Int.reduceLT, Int.reduceEq, Int.reduceLE, Int.reduceAdd, Int.reduceSub, Int.reduceToNat, Int.reduceNeg, h10, h3, fy10.l, fz10.l, fu10.l, fw10.l]
          refine wJ_of (F.movetree_Tree_Move_J (m := ⟨(99, 99), 1000001, p, key, b⟩) T10 (by omega)) ?_; rintro _ S11 ⟨rfl, Z11, T11, z11, r11⟩
          have fu11 := fu10.step r11 z11
          have fw11 := fw10.step r11 z11
          have fy11 := fy10.step r11 z11
          have fz11 := fz10.step r11 z11
          have hnn : ¬ (noneP ((99, 99) : Dot) ∨ noneP b) := fun h => h.elim (by decide) hbn
          by_cases hid : ((99, 99) : Dot) ∈ L.map Mv.id
          · have em : moveA L ⟨(99, 99), 1000001, p, key, b⟩ = (32, L) := by
              unfold moveA
              rw [if_neg hnn, if_pos hid]
            have em1 : (moveA L ⟨(99, 99), 1000001, p, key, b⟩).1 = 32 := by rw [em]
            simp (disch := omega) only [go_sem, ↓reduceIte, Nat.reduceEqDiff, Nat.reduceAdd, Nat.reduceMul, Nat.reduceSub, Nat.reduceLT, Nat.reduceLeDiff, Nat.reduceBEq, reduceCtorEq, Int.reduceLT, Int.reduceEq, Int.reduceLE, Int.reduceAdd, Int.reduceSub, Int.reduceToNat, Int.reduceNeg, h10, h3, em1]
          have em : moveA L ⟨(99, 99), 1000001, p, key, b⟩ = (0, L ++ [⟨(99, 99), 1000001, p, key, b⟩]) := by
            unfold moveA
            rw [if_neg hnn, if_neg hid, insM_last fun x hx => by have := ht x hx; show x.time < 1000001; omega]
          have em1 : (moveA L ⟨(99, 99), 1000001, p, key, b⟩).1 = 0 := by rw [em]
          rw [em] at T11
          simp only at T11
          have hlook : alook b (runS (L ++ [⟨(99, 99), 1000001, p, key, b⟩])) = if takesP (runS L) ⟨(99, 99), 1000001, p, key, b⟩ then some (p, key) else alook b (runS L) := by rw [runS_snoc]; exact lm2
          simp (disch := omega) only [go_sem, ↓reduceIte, Nat.reduceEqDiff, Nat.reduceAdd, Nat.reduceMul, Nat.reduceSub, Nat.reduceLT, Nat.reduceLeDiff, Nat.reduceBEq, reduceCtorEq, Int.reduceLT, Int.reduceEq, Int.reduceLE, Int.reduceAdd, Int.reduceSub, Int.reduceToNat, Int.reduceNeg, h10, h3, em1, fy11.l]
          refine wJ_of (F.movetree_Tree_Parent_J (d := b) T11) ?_; rintro _ _ ⟨rfl, rfl⟩
          rw [hlook]
          simp (disch := omega) only [go_sem, ↓reduceIte, Nat.reduceEqDiff, Nat.reduceAdd, Nat.reduceMul, Nat.reduceSub, Nat.reduceLT, Nat.reduceLeDiff, Nat.reduceBEq, reduceCtorEq, Int.reduceLT, Int.reduceEq, Int.reduceLE, Int.reduceAdd, Int.reduceSub, Int.reduceToNat, Int.reduceNeg, h10, h3]
          refine walloc_x [.int .i64 0, .int .i64 0] fun t S12 e12 ot ht' htn => ?_
          have T12 := T11.ext e12
          have fu12 := fu11.ext e12
          have fw12 := fw11.ext e12
          have fy12 := fy11.ext e12
          have fz12 := fz11.ext e12
          rw [if_neg hm]
          simp (disch := omega) only [go_sem, ↓reduceIte, Nat.reduceEqDiff, Nat.reduceAdd, Nat.reduceMul, Nat.reduceSub, Nat.reduceLT, Nat.reduceLeDiff, Nat.reduceBEq, reduceCtorEq, Int.reduceLT, Int.reduceEq, Int.reduceLE, Int.reduceAdd, Int.reduceSub, Int.reduceToNat, Int.reduceNeg, h10, h3]
          refine wst_w [.int .i64 ((alook b (runS L)).getD zSpot).1.1, .int .i64 ((alook b (runS L)).getD zSpot).1.2] ot rfl rfl (by simp) (by simp) rfl fun S13 ot13 b13 ht13 => ?_
          have T13 := T12.but b13 (T11.off htn)
          have ft13 : Off Z11 S13 t [.int .i64 ((alook b (runS L)).getD zSpot).1.1, .int .i64 ((alook b (runS L)).getD zSpot).1.2] := ⟨ht13, T11.off htn t rfl, ot13⟩
          have fu13 := fu12.but b13 (by have := fu11.1; omega)
          have fw13 := fw12.but b13 (by have := fw11.1; omega)
          have fy13 := fy12.but b13 (by have := fy11.1; omega)
          have fz13 := fz12.but b13 (by have := fz11.1; omega)
          simp (disch := omega) only [go_sem, ↓reduceIte, Nat.reduceEqDiff, Nat.reduceAdd, Nat.reduceMul, Nat.reduceSub, Nat.reduceLT, Nat.reduceLeDiff, Nat.reduceBEq, reduceCtorEq, Int.reduceLT, Int.reduceEq, Int.reduceLE, Int.reduceAdd, Int.reduceSub, Int.reduceToNat, Int.reduceNeg, h10, h3, em1, hbs, fu13.l, fy13.l, fz13.l]
          refine wJ_of (F.movetree_Tree_Took_J (d := (99, 99)) T13 (by simp; omega)) ?_; rintro _ _ ⟨rfl, rfl⟩
          have dt : decide (tookP (L ++ [⟨(99, 99), 1000001, p, key, b⟩]) (99, 99)) = false := decide_eq_false fun h => hm ((tookP_snoc (m := ⟨(99, 99), 1000001, p, key, b⟩) hid).1 h)
          have epp := eqV_d ((alook b (runS L)).getD zSpot).1 ((alook b (runS L)).getD zSpot).1 (t := true) (by simp)
          have ekk : (((alook b (runS L)).getD zSpot).2 == ((alook b (runS L)).getD zSpot).2) = true := by rw [ba_beq]; simp
          simp (disch := omega) only [go_sem, ↓reduceIte, Nat.reduceEqDiff, Nat.reduceAdd, Nat.reduceMul, Nat.reduceSub, Nat.reduceLT, Nat.reduceLeDiff, Nat.reduceBEq, reduceCtorEq, Int.reduceLT, Int.reduceEq, Int.reduceLE, Int.reduceAdd, Int.reduceSub, Int.reduceToNat, Int.reduceNeg, h10, h3, dt, epp, ekk, ft13.l, fz13.l, fw13.l]
          refine wJ_of (F.movetree_Tree_Blocks_J T13 (by simp; omega)) ?_; rintro vb2 S14 ⟨hob2, e14⟩
          have hB2 : risen ((runS (L ++ [⟨(99, 99), 1000001, p, key, b⟩])).map Prod.fst) = B := by
            rw [← hB, runS_snoc]
            exact risen_congr lm3
          rw [hB2] at hob2
          have k8 : S3.Ext S8 := (g36.trans e7).but b8 fun j hj => by simp [blkOf] at hj; have := g36.n; omega
          have k10 : S3.Ext S10 := (k8.trans e9).but b10 fun j hj => by simp [blkOf] at hj; have := k8.n; omega
          have w10 := hob.ext dotE k10
          have w11 := w10.congr dotE r11.n fun c _ _ hv hc => r11.obj c hc fun e => by
            have h1 := (hob.blk dotE c (by rw [hv]; rfl)).1
            have h2 := T2.1 c e
            omega
          have w13 := (w11.ext dotE e12).but dotE b13 fun j hj => by have := (w11.blk dotE j hj).2; simp [blkOf]; omega
          have w14 := w13.ext dotE e14
          simp (disch := omega) only [go_sem, ↓reduceIte, Nat.reduceEqDiff, Nat.reduceAdd, Nat.reduceMul, Nat.reduceSub, Nat.reduceLT, Nat.reduceLeDiff, Nat.reduceBEq, reduceCtorEq, Int.reduceLT, Int.reduceEq, Int.reduceLE, Int.reduceAdd, Int.reduceSub, Int.reduceToNat, Int.reduceNeg, h10, h3]
          refine wJ_of (F.osierref03_Same.J (hob2.sl dotE) (w14.sl dotE) (by omega)) ?_; rintro _ _ ⟨rfl, rfl⟩
          simp (disch := omega) only [go_sem, ↓reduceIte, Nat.reduceEqDiff, Nat.reduceAdd, Nat.reduceMul, Nat.reduceSub, Nat.reduceLT, Nat.reduceLeDiff, Nat.reduceBEq, reduceCtorEq, Int.reduceLT, Int.reduceEq, Int.reduceLE, Int.reduceAdd, Int.reduceSub, Int.reduceToNat, Int.reduceNeg, h10, h3]
        · have dq : decide (b ∈ pathA (runS L) p) = false := decide_eq_false q2
          simp (disch := omega) only [go_sem, ↓reduceIte, Nat.reduceEqDiff, Nat.reduceAdd, Nat.reduceMul, Nat.reduceSub, Nat.reduceLT, Nat.reduceLeDiff, Nat.reduceBEq, reduceCtorEq, Int.reduceLT, Int.reduceEq, Int.reduceLE, Int.reduceAdd, Int.reduceSub, Int.reduceToNat, Int.reduceNeg, h10, h3, fy6.l, fz6.l, dq]
          have hm : takesP (runS L) ⟨(99, 99), 1000001, p, key, b⟩ := lm1.2 ⟨q1, q2⟩
          refine wJ_of (F.movetree_Tree_Parent_J (d := b) T6) ?_; rintro _ _ ⟨rfl, rfl⟩
          simp (disch := omega) only [go_sem, ↓reduceIte, Nat.reduceEqDiff, Nat.reduceAdd, Nat.reduceMul, Nat.reduceSub, Nat.reduceLT, Nat.reduceLeDiff, Nat.reduceBEq, reduceCtorEq, Int.reduceLT, Int.reduceEq, Int.reduceLE, Int.reduceAdd, Int.reduceSub, Int.reduceToNat, Int.reduceNeg, h10, h3, fy6.l, fz6.l]
          refine walloc_x [.int .i64 0, .int .i64 0] fun w S7 e7 ow hw hwn => ?_
          simp (disch := omega) only [go_sem, ↓reduceIte, Nat.reduceEqDiff, Nat.reduceAdd, Nat.reduceMul, Nat.reduceSub, Nat.reduceLT, Nat.reduceLeDiff, Nat.reduceBEq, reduceCtorEq, Int.reduceLT, Int.reduceEq, Int.reduceLE, Int.reduceAdd, Int.reduceSub, Int.reduceToNat, Int.reduceNeg, h10, h3]
          refine wst_w [.int .i64 ((alook b (runS L)).getD zSpot).1.1, .int .i64 ((alook b (runS L)).getD zSpot).1.2] ow rfl rfl (by simp) (by simp) rfl fun S8 ow8 b8 hw8 => ?_
          have T8 := (T6.ext e7).but b8 (T6.off hwn)
          have fw8 : Off Z S8 w [.int .i64 ((alook b (runS L)).getD zSpot).1.1, .int .i64 ((alook b (runS L)).getD zSpot).1.2] := ⟨hw8, T6.off hwn w rfl, ow8⟩
          have fy8 := (fy6.ext e7).but b8 (by have := fy6.1; omega)
          have fz8 := (fz6.ext e7).but b8 (by have := fz6.1; omega)
          simp (disch := omega) only [go_sem, ↓reduceIte, Nat.reduceEqDiff, Nat.reduceAdd, Nat.reduceMul, Nat.reduceSub, Nat.reduceLT, Nat.reduceLeDiff, Nat.reduceBEq, reduceCtorEq, Int.reduceLT, Int.reduceEq, Int.reduceLE, Int.reduceAdd, Int.reduceSub, Int.reduceToNat, Int.reduceNeg, h10, h3, fy8.l, fz8.l]
          refine walloc_x [.int .i64 0, .int .i64 0] fun u S9 e9 ou hu hun => ?_
          simp (disch := omega) only [go_sem, ↓reduceIte, Nat.reduceEqDiff, Nat.reduceAdd, Nat.reduceMul, Nat.reduceSub, Nat.reduceLT, Nat.reduceLeDiff, Nat.reduceBEq, reduceCtorEq, Int.reduceLT, Int.reduceEq, Int.reduceLE, Int.reduceAdd, Int.reduceSub, Int.reduceToNat, Int.reduceNeg, h10, h3]
          refine wst_w [.int .i64 99, .int .i64 99] ou rfl rfl (by simp) (by simp) rfl fun S10 ou10 b10 hu10 => ?_
          have T10 := (T8.ext e9).but b10 (T8.off hun)
          have fu10 : Off Z S10 u [.int .i64 99, .int .i64 99] := ⟨hu10, T8.off hun u rfl, ou10⟩
          have fw10 := (fw8.ext e9).but b10 (by have := fw8.1; omega)
          have fy10 := (fy8.ext e9).but b10 (by have := fy8.1; omega)
          have fz10 := (fz8.ext e9).but b10 (by have := fz8.1; omega)
          simp (disch := omega) only [go_sem, ↓reduceIte, Nat.reduceEqDiff, Nat.reduceAdd, Nat.reduceMul, Nat.reduceSub, Nat.reduceLT, Nat.reduceLeDiff, Nat.reduceBEq, reduceCtorEq, Int.reduceLT, Int.reduceEq, Int.reduceLE, Int.reduceAdd, Int.reduceSub, Int.reduceToNat, Int.reduceNeg, h10, h3, fy10.l, fz10.l, fu10.l, fw10.l]
          refine wJ_of (F.movetree_Tree_Move_J (m := ⟨(99, 99), 1000001, p, key, b⟩) T10 (by omega)) ?_; rintro _ S11 ⟨rfl, Z11, T11, z11, r11⟩
          have fu11 := fu10.step r11 z11
          have fw11 := fw10.step r11 z11
          have fy11 := fy10.step r11 z11
          have fz11 := fz10.step r11 z11
          have hnn : ¬ (noneP ((99, 99) : Dot) ∨ noneP b) := fun h => h.elim (by decide) hbn
          by_cases hid : ((99, 99) : Dot) ∈ L.map Mv.id
          · have em : moveA L ⟨(99, 99), 1000001, p, key, b⟩ = (32, L) := by
              unfold moveA
              rw [if_neg hnn, if_pos hid]
            have em1 : (moveA L ⟨(99, 99), 1000001, p, key, b⟩).1 = 32 := by rw [em]
            simp (disch := omega) only [go_sem, ↓reduceIte, Nat.reduceEqDiff, Nat.reduceAdd, Nat.reduceMul, Nat.reduceSub, Nat.reduceLT, Nat.reduceLeDiff, Nat.reduceBEq, reduceCtorEq, Int.reduceLT, Int.reduceEq, Int.reduceLE, Int.reduceAdd, Int.reduceSub, Int.reduceToNat, Int.reduceNeg, h10, h3, em1]
          have em : moveA L ⟨(99, 99), 1000001, p, key, b⟩ = (0, L ++ [⟨(99, 99), 1000001, p, key, b⟩]) := by
            unfold moveA
            rw [if_neg hnn, if_neg hid, insM_last fun x hx => by have := ht x hx; show x.time < 1000001; omega]
          have em1 : (moveA L ⟨(99, 99), 1000001, p, key, b⟩).1 = 0 := by rw [em]
          rw [em] at T11
          simp only at T11
          have hlook : alook b (runS (L ++ [⟨(99, 99), 1000001, p, key, b⟩])) = if takesP (runS L) ⟨(99, 99), 1000001, p, key, b⟩ then some (p, key) else alook b (runS L) := by rw [runS_snoc]; exact lm2
          simp (disch := omega) only [go_sem, ↓reduceIte, Nat.reduceEqDiff, Nat.reduceAdd, Nat.reduceMul, Nat.reduceSub, Nat.reduceLT, Nat.reduceLeDiff, Nat.reduceBEq, reduceCtorEq, Int.reduceLT, Int.reduceEq, Int.reduceLE, Int.reduceAdd, Int.reduceSub, Int.reduceToNat, Int.reduceNeg, h10, h3, em1, fy11.l]
          refine wJ_of (F.movetree_Tree_Parent_J (d := b) T11) ?_; rintro _ _ ⟨rfl, rfl⟩
          rw [hlook]
          simp (disch := omega) only [go_sem, ↓reduceIte, Nat.reduceEqDiff, Nat.reduceAdd, Nat.reduceMul, Nat.reduceSub, Nat.reduceLT, Nat.reduceLeDiff, Nat.reduceBEq, reduceCtorEq, Int.reduceLT, Int.reduceEq, Int.reduceLE, Int.reduceAdd, Int.reduceSub, Int.reduceToNat, Int.reduceNeg, h10, h3]
          refine walloc_x [.int .i64 0, .int .i64 0] fun t S12 e12 ot ht' htn => ?_
          have T12 := T11.ext e12
          have fu12 := fu11.ext e12
          have fw12 := fw11.ext e12
          have fy12 := fy11.ext e12
          have fz12 := fz11.ext e12
          rw [if_pos hm]
          simp (disch := omega) only [go_sem, ↓reduceIte, Nat.reduceEqDiff, Nat.reduceAdd, Nat.reduceMul, Nat.reduceSub, Nat.reduceLT, Nat.reduceLeDiff, Nat.reduceBEq, reduceCtorEq, Int.reduceLT, Int.reduceEq, Int.reduceLE, Int.reduceAdd, Int.reduceSub, Int.reduceToNat, Int.reduceNeg, h10, h3, Option.getD_some]
          refine wst_w [.int .i64 p.1, .int .i64 p.2] ot rfl rfl (by simp) (by simp) rfl fun S13 ot13 b13 ht13 => ?_
          have T13 := T12.but b13 (T11.off htn)
          have ft13 : Off Z11 S13 t [.int .i64 p.1, .int .i64 p.2] := ⟨ht13, T11.off htn t rfl, ot13⟩
          have fu13 := fu12.but b13 (by have := fu11.1; omega)
          have fw13 := fw12.but b13 (by have := fw11.1; omega)
          have fy13 := fy12.but b13 (by have := fy11.1; omega)
          have fz13 := fz12.but b13 (by have := fz11.1; omega)
          simp (disch := omega) only [go_sem, ↓reduceIte, Nat.reduceEqDiff, Nat.reduceAdd, Nat.reduceMul, Nat.reduceSub, Nat.reduceLT, Nat.reduceLeDiff, Nat.reduceBEq, reduceCtorEq, Int.reduceLT, Int.reduceEq, Int.reduceLE, Int.reduceAdd, Int.reduceSub, Int.reduceToNat, Int.reduceNeg, h10, h3, em1, Option.isSome_some, fu13.l, fy13.l, fz13.l]
          refine wJ_of (F.movetree_Tree_Took_J (d := (99, 99)) T13 (by simp; omega)) ?_; rintro _ _ ⟨rfl, rfl⟩
          have dt : decide (tookP (L ++ [⟨(99, 99), 1000001, p, key, b⟩]) (99, 99)) = true := decide_eq_true ((tookP_snoc (m := ⟨(99, 99), 1000001, p, key, b⟩) hid).2 hm)
          have epp := eqV_d p p (t := true) (by simp)
          have ekk : (key == key) = true := by rw [ba_beq]; simp
          simp (disch := omega) only [go_sem, ↓reduceIte, Nat.reduceEqDiff, Nat.reduceAdd, Nat.reduceMul, Nat.reduceSub, Nat.reduceLT, Nat.reduceLeDiff, Nat.reduceBEq, reduceCtorEq, Int.reduceLT, Int.reduceEq, Int.reduceLE, Int.reduceAdd, Int.reduceSub, Int.reduceToNat, Int.reduceNeg, h10, h3, dt, epp, ekk, ft13.l, fz13.l, fw13.l]
          refine wJ_of (F.movetree_Tree_Blocks_J T13 (by simp; omega)) ?_; rintro vb2 S14 ⟨hob2, e14⟩
          have hB2 : risen ((runS (L ++ [⟨(99, 99), 1000001, p, key, b⟩])).map Prod.fst) = B := by
            rw [← hB, runS_snoc]
            exact risen_congr lm3
          rw [hB2] at hob2
          have k8 : S3.Ext S8 := (g36.trans e7).but b8 fun j hj => by simp [blkOf] at hj; have := g36.n; omega
          have k10 : S3.Ext S10 := (k8.trans e9).but b10 fun j hj => by simp [blkOf] at hj; have := k8.n; omega
          have w10 := hob.ext dotE k10
          have w11 := w10.congr dotE r11.n fun c _ _ hv hc => r11.obj c hc fun e => by
            have h1 := (hob.blk dotE c (by rw [hv]; rfl)).1
            have h2 := T2.1 c e
            omega
          have w13 := (w11.ext dotE e12).but dotE b13 fun j hj => by have := (w11.blk dotE j hj).2; simp [blkOf]; omega
          have w14 := w13.ext dotE e14
          simp (disch := omega) only [go_sem, ↓reduceIte, Nat.reduceEqDiff, Nat.reduceAdd, Nat.reduceMul, Nat.reduceSub, Nat.reduceLT, Nat.reduceLeDiff, Nat.reduceBEq, reduceCtorEq, Int.reduceLT, Int.reduceEq, Int.reduceLE, Int.reduceAdd, Int.reduceSub, Int.reduceToNat, Int.reduceNeg, h10, h3]
          refine wJ_of (F.osierref03_Same.J (hob2.sl dotE) (w14.sl dotE) (by omega)) ?_; rintro _ _ ⟨rfl, rfl⟩
          simp (disch := omega) only [go_sem, ↓reduceIte, Nat.reduceEqDiff, Nat.reduceAdd, Nat.reduceMul, Nat.reduceSub, Nat.reduceLT, Nat.reduceLeDiff, Nat.reduceBEq, reduceCtorEq, Int.reduceLT, Int.reduceEq, Int.reduceLE, Int.reduceAdd, Int.reduceSub, Int.reduceToNat, Int.reduceNeg, h10, h3]
      · have i2 : ¬ ((k2 : Int) < (B.length : Int)) := by omega
        simp (disch := omega) only [go_sem, ↓reduceIte, Nat.reduceEqDiff, Nat.reduceAdd, Nat.reduceMul, Nat.reduceSub, Nat.reduceLT, Nat.reduceLeDiff, Nat.reduceBEq, reduceCtorEq, Int.reduceLT, Int.reduceEq, Int.reduceLE, Int.reduceAdd, Int.reduceSub, Int.reduceToNat, Int.reduceNeg, h1, h2, h10, hB1, hk2, i2]
        obtain ⟨p, hpe⟩ : ∃ p : Dot, p = (0, -2) := ⟨_, rfl⟩
        have hp : p = trashD ∨ (alook p (runS L)).isSome = true := .inl hpe
        replace fz6 : Off Z S6 z [.int .i64 p.1, .int .i64 p.2] := by rw [hpe]; exact fz6
        obtain ⟨lm1, lm2, lm3⟩ := last_move (L := L) (b := b) (p := p) (key := key) (i := (99, 99)) (t := 1000001) hbs hp
        by_cases q1 : p = b
        · have e1 := eqV_d p b (decide_eq_true q1)
          simp (disch := omega) only [go_sem, ↓reduceIte, Nat.reduceEqDiff, Nat.reduceAdd, Nat.reduceMul, Nat.reduceSub, Nat.reduceLT, Nat.reduceLeDiff, Nat.reduceBEq, reduceCtorEq, Int.reduceLT, Int.reduceEq, Int.reduceLE, Int.reduceAdd, Int.reduceSub, Int.reduceToNat, Int.reduceNeg, h10, h3, fz6.l, fy6.l, e1]
          have hm : ¬ takesP (runS L) ⟨(99, 99), 1000001, p, key, b⟩ := fun h => (lm1.1 h).1 q1
          refine wJ_of (F.movetree_Tree_Parent_J (d := b) T6) ?_; rintro _ _ ⟨rfl, rfl⟩
          simp (disch := omega) only [go_sem, ↓reduceIte, Nat.reduceEqDiff, Nat.reduceAdd, Nat.reduceMul, Nat.reduceSub, Nat.reduceLT, Nat.reduceLeDiff, Nat.reduceBEq, reduceCtorEq, Int.reduceLT, Int.reduceEq, Int.reduceLE, Int.reduceAdd, Int.reduceSub, Int.reduceToNat, Int.reduceNeg, h10, h3, fy6.l, fz6.l]
          refine walloc_x [.int .i64 0, .int .i64 0] fun w S7 e7 ow hw hwn => ?_
          simp (disch := omega) only [go_sem, ↓reduceIte, Nat.reduceEqDiff, Nat.reduceAdd, Nat.reduceMul, Nat.reduceSub, Nat.reduceLT, Nat.reduceLeDiff, Nat.reduceBEq, reduceCtorEq, Int.reduceLT, Int.reduceEq, Int.reduceLE, Int.reduceAdd, Int.reduceSub, Int.reduceToNat, Int.reduceNeg, h10, h3]
          refine wst_w [.int .i64 ((alook b (runS L)).getD zSpot).1.1, .int .i64 ((alook b (runS L)).getD zSpot).1.2] ow rfl rfl (by simp) (by simp) rfl fun S8 ow8 b8 hw8 => ?_
          have T8 := (T6.ext e7).but b8 (T6.off hwn)
          have fw8 : Off Z S8 w [.int .i64 ((alook b (runS L)).getD zSpot).1.1, .int .i64 ((alook b (runS L)).getD zSpot).1.2] := ⟨hw8, T6.off hwn w rfl, ow8⟩
          have fy8 := (fy6.ext e7).but b8 (by have := fy6.1; omega)
          have fz8 := (fz6.ext e7).but b8 (by have := fz6.1; omega)
          simp (disch := omega) only [go_sem, ↓reduceIte, Nat.reduceEqDiff, Nat.reduceAdd, Nat.reduceMul, Nat.reduceSub, Nat.reduceLT, Nat.reduceLeDiff, Nat.reduceBEq, reduceCtorEq, Int.reduceLT, Int.reduceEq, Int.reduceLE, Int.reduceAdd, Int.reduceSub, Int.reduceToNat, Int.reduceNeg, h10, h3, fy8.l, fz8.l]
          refine walloc_x [.int .i64 0, .int .i64 0] fun u S9 e9 ou hu hun => ?_
          simp (disch := omega) only [go_sem, ↓reduceIte, Nat.reduceEqDiff, Nat.reduceAdd, Nat.reduceMul, Nat.reduceSub, Nat.reduceLT, Nat.reduceLeDiff, Nat.reduceBEq, reduceCtorEq, Int.reduceLT, Int.reduceEq, Int.reduceLE, Int.reduceAdd, Int.reduceSub, Int.reduceToNat, Int.reduceNeg, h10, h3]
          refine wst_w [.int .i64 99, .int .i64 99] ou rfl rfl (by simp) (by simp) rfl fun S10 ou10 b10 hu10 => ?_
          have T10 := (T8.ext e9).but b10 (T8.off hun)
          have fu10 : Off Z S10 u [.int .i64 99, .int .i64 99] := ⟨hu10, T8.off hun u rfl, ou10⟩
          have fw10 := (fw8.ext e9).but b10 (by have := fw8.1; omega)
          have fy10 := (fy8.ext e9).but b10 (by have := fy8.1; omega)
          have fz10 := (fz8.ext e9).but b10 (by have := fz8.1; omega)
          simp (disch := omega) only [go_sem, ↓reduceIte, Nat.reduceEqDiff, Nat.reduceAdd, Nat.reduceMul, Nat.reduceSub, Nat.reduceLT, Nat.reduceLeDiff, Nat.reduceBEq, reduceCtorEq, Int.reduceLT, Int.reduceEq, Int.reduceLE, Int.reduceAdd, Int.reduceSub, Int.reduceToNat, Int.reduceNeg, h10, h3, fy10.l, fz10.l, fu10.l, fw10.l]
          refine wJ_of (F.movetree_Tree_Move_J (m := ⟨(99, 99), 1000001, p, key, b⟩) T10 (by omega)) ?_; rintro _ S11 ⟨rfl, Z11, T11, z11, r11⟩
          have fu11 := fu10.step r11 z11
          have fw11 := fw10.step r11 z11
          have fy11 := fy10.step r11 z11
          have fz11 := fz10.step r11 z11
          have hnn : ¬ (noneP ((99, 99) : Dot) ∨ noneP b) := fun h => h.elim (by decide) hbn
          by_cases hid : ((99, 99) : Dot) ∈ L.map Mv.id
          · have em : moveA L ⟨(99, 99), 1000001, p, key, b⟩ = (32, L) := by
              unfold moveA
              rw [if_neg hnn, if_pos hid]
            have em1 : (moveA L ⟨(99, 99), 1000001, p, key, b⟩).1 = 32 := by rw [em]
            simp (disch := omega) only [go_sem, ↓reduceIte, Nat.reduceEqDiff, Nat.reduceAdd, Nat.reduceMul, Nat.reduceSub, Nat.reduceLT, Nat.reduceLeDiff, Nat.reduceBEq, reduceCtorEq, Int.reduceLT, Int.reduceEq, Int.reduceLE, Int.reduceAdd, Int.reduceSub, Int.reduceToNat, Int.reduceNeg, h10, h3, em1]
          have em : moveA L ⟨(99, 99), 1000001, p, key, b⟩ = (0, L ++ [⟨(99, 99), 1000001, p, key, b⟩]) := by
            unfold moveA
            rw [if_neg hnn, if_neg hid, insM_last fun x hx => by have := ht x hx; show x.time < 1000001; omega]
          have em1 : (moveA L ⟨(99, 99), 1000001, p, key, b⟩).1 = 0 := by rw [em]
          rw [em] at T11
          simp only at T11
          have hlook : alook b (runS (L ++ [⟨(99, 99), 1000001, p, key, b⟩])) = if takesP (runS L) ⟨(99, 99), 1000001, p, key, b⟩ then some (p, key) else alook b (runS L) := by rw [runS_snoc]; exact lm2
          simp (disch := omega) only [go_sem, ↓reduceIte, Nat.reduceEqDiff, Nat.reduceAdd, Nat.reduceMul, Nat.reduceSub, Nat.reduceLT, Nat.reduceLeDiff, Nat.reduceBEq, reduceCtorEq, Int.reduceLT, Int.reduceEq, Int.reduceLE, Int.reduceAdd, Int.reduceSub, Int.reduceToNat, Int.reduceNeg, h10, h3, em1, fy11.l]
          refine wJ_of (F.movetree_Tree_Parent_J (d := b) T11) ?_; rintro _ _ ⟨rfl, rfl⟩
          rw [hlook]
          simp (disch := omega) only [go_sem, ↓reduceIte, Nat.reduceEqDiff, Nat.reduceAdd, Nat.reduceMul, Nat.reduceSub, Nat.reduceLT, Nat.reduceLeDiff, Nat.reduceBEq, reduceCtorEq, Int.reduceLT, Int.reduceEq, Int.reduceLE, Int.reduceAdd, Int.reduceSub, Int.reduceToNat, Int.reduceNeg, h10, h3]
          refine walloc_x [.int .i64 0, .int .i64 0] fun t S12 e12 ot ht' htn => ?_
          have T12 := T11.ext e12
          have fu12 := fu11.ext e12
          have fw12 := fw11.ext e12
          have fy12 := fy11.ext e12
          have fz12 := fz11.ext e12
          rw [if_neg hm]
          simp (disch := omega) only [go_sem, ↓reduceIte, Nat.reduceEqDiff, Nat.reduceAdd, Nat.reduceMul, Nat.reduceSub, Nat.reduceLT, Nat.reduceLeDiff, Nat.reduceBEq, reduceCtorEq, Int.reduceLT, Int.reduceEq, Int.reduceLE, Int.reduceAdd, Int.reduceSub, Int.reduceToNat, Int.reduceNeg, h10, h3]
          refine wst_w [.int .i64 ((alook b (runS L)).getD zSpot).1.1, .int .i64 ((alook b (runS L)).getD zSpot).1.2] ot rfl rfl (by simp) (by simp) rfl fun S13 ot13 b13 ht13 => ?_
          have T13 := T12.but b13 (T11.off htn)
          have ft13 : Off Z11 S13 t [.int .i64 ((alook b (runS L)).getD zSpot).1.1, .int .i64 ((alook b (runS L)).getD zSpot).1.2] := ⟨ht13, T11.off htn t rfl, ot13⟩
          have fu13 := fu12.but b13 (by have := fu11.1; omega)
          have fw13 := fw12.but b13 (by have := fw11.1; omega)
          have fy13 := fy12.but b13 (by have := fy11.1; omega)
          have fz13 := fz12.but b13 (by have := fz11.1; omega)
          simp (disch := omega) only [go_sem, ↓reduceIte, Nat.reduceEqDiff, Nat.reduceAdd, Nat.reduceMul, Nat.reduceSub, Nat.reduceLT, Nat.reduceLeDiff, Nat.reduceBEq, reduceCtorEq, Int.reduceLT, Int.reduceEq, Int.reduceLE, Int.reduceAdd, Int.reduceSub, Int.reduceToNat, Int.reduceNeg, h10, h3, em1, hbs, fu13.l, fy13.l, fz13.l]
          refine wJ_of (F.movetree_Tree_Took_J (d := (99, 99)) T13 (by simp; omega)) ?_; rintro _ _ ⟨rfl, rfl⟩
          have dt : decide (tookP (L ++ [⟨(99, 99), 1000001, p, key, b⟩]) (99, 99)) = false := decide_eq_false fun h => hm ((tookP_snoc (m := ⟨(99, 99), 1000001, p, key, b⟩) hid).1 h)
          have epp := eqV_d ((alook b (runS L)).getD zSpot).1 ((alook b (runS L)).getD zSpot).1 (t := true) (by simp)
          have ekk : (((alook b (runS L)).getD zSpot).2 == ((alook b (runS L)).getD zSpot).2) = true := by rw [ba_beq]; simp
          simp (disch := omega) only [go_sem, ↓reduceIte, Nat.reduceEqDiff, Nat.reduceAdd, Nat.reduceMul, Nat.reduceSub, Nat.reduceLT, Nat.reduceLeDiff, Nat.reduceBEq, reduceCtorEq, Int.reduceLT, Int.reduceEq, Int.reduceLE, Int.reduceAdd, Int.reduceSub, Int.reduceToNat, Int.reduceNeg, h10, h3, dt, epp, ekk, ft13.l, fz13.l, fw13.l]
          refine wJ_of (F.movetree_Tree_Blocks_J T13 (by simp; omega)) ?_; rintro vb2 S14 ⟨hob2, e14⟩
          have hB2 : risen ((runS (L ++ [⟨(99, 99), 1000001, p, key, b⟩])).map Prod.fst) = B := by
            rw [← hB, runS_snoc]
            exact risen_congr lm3
          rw [hB2] at hob2
          have k8 : S3.Ext S8 := (g36.trans e7).but b8 fun j hj => by simp [blkOf] at hj; have := g36.n; omega
          have k10 : S3.Ext S10 := (k8.trans e9).but b10 fun j hj => by simp [blkOf] at hj; have := k8.n; omega
          have w10 := hob.ext dotE k10
          have w11 := w10.congr dotE r11.n fun c _ _ hv hc => r11.obj c hc fun e => by
            have h1 := (hob.blk dotE c (by rw [hv]; rfl)).1
            have h2 := T2.1 c e
            omega
          have w13 := (w11.ext dotE e12).but dotE b13 fun j hj => by have := (w11.blk dotE j hj).2; simp [blkOf]; omega
          have w14 := w13.ext dotE e14
          simp (disch := omega) only [go_sem, ↓reduceIte, Nat.reduceEqDiff, Nat.reduceAdd, Nat.reduceMul, Nat.reduceSub, Nat.reduceLT, Nat.reduceLeDiff, Nat.reduceBEq, reduceCtorEq, Int.reduceLT, Int.reduceEq, Int.reduceLE, Int.reduceAdd, Int.reduceSub, Int.reduceToNat, Int.reduceNeg, h10, h3]
          refine wJ_of (F.osierref03_Same.J (hob2.sl dotE) (w14.sl dotE) (by omega)) ?_; rintro _ _ ⟨rfl, rfl⟩
          simp (disch := omega) only [go_sem, ↓reduceIte, Nat.reduceEqDiff, Nat.reduceAdd, Nat.reduceMul, Nat.reduceSub, Nat.reduceLT, Nat.reduceLeDiff, Nat.reduceBEq, reduceCtorEq, Int.reduceLT, Int.reduceEq, Int.reduceLE, Int.reduceAdd, Int.reduceSub, Int.reduceToNat, Int.reduceNeg, h10, h3]
        have e1 := eqV_d p b (decide_eq_false q1)
        simp (disch := omega) only [go_sem, ↓reduceIte, Nat.reduceEqDiff, Nat.reduceAdd, Nat.reduceMul, Nat.reduceSub, Nat.reduceLT, Nat.reduceLeDiff, Nat.reduceBEq, reduceCtorEq, Int.reduceLT, Int.reduceEq, Int.reduceLE, Int.reduceAdd, Int.reduceSub, Int.reduceToNat, Int.reduceNeg, h10, h3, fz6.l, fy6.l, e1]
        refine wJ_of (F.movetree_Tree_Path_T (b := p) T6 (by omega)) ?_; rintro vp Sp ⟨hop, ep⟩
        have T6 := T6.ext ep
        have fy6 := fy6.ext ep
        have fz6 := fz6.ext ep
        have g36 := g36.trans ep
        have hpl : (pathA (runS L) p).length < 4611686018427387904 := by have h1 := ((okS_run L).pth p).len; have h2 := runS_len L; omega
        simp (disch := omega) only [go_sem, ↓reduceIte, Nat.reduceEqDiff, Nat.reduceAdd, Nat.reduceMul, Nat.reduceSub, Nat.reduceLT, Nat.reduceLeDiff, Nat.reduceBEq, reduceCtorEq, Int.reduceLT, Int.reduceEq, Int.reduceLE, Int.reduceAdd, Int.reduceSub, Int.reduceToNat, Int.reduceNeg, h10, h3, fy6.l]
        refine wJ_of (F.osierref03_In_P (hop.sl dotE) hpl) ?_; rintro _ _ ⟨rfl, rfl⟩
        by_cases q2 : b ∈ pathA (runS L) p
        · have dq : decide (b ∈ pathA (runS L) p) = true := decide_eq_true q2
          simp (disch := omega) only [go_sem, ↓reduceIte, Nat.reduceEqDiff, Nat.reduceAdd, Nat.reduceMul, Nat.reduceSub, Nat.reduceLT, Nat.reduceLeDiff, Nat.reduceBEq, reduceCtorEq, Int.reduceLT, Int.reduceEq, Int.reduceLE, Int.reduceAdd, Int.reduceSub, Int.reduceToNat, Int.reduceNeg, h10, h3, fy6.l, fz6.l, dq]
          have hm : ¬ takesP (runS L) ⟨(99, 99), 1000001, p, key, b⟩ := fun h => (lm1.1 h).2 q2
          refine wJ_of (F.movetree_Tree_Parent_J (d := b) T6) ?_; rintro _ _ ⟨rfl, rfl⟩
          simp (disch := omega) only [go_sem, ↓reduceIte, Nat.reduceEqDiff, Nat.reduceAdd, Nat.reduceMul, Nat.reduceSub, Nat.reduceLT, Nat.reduceLeDiff, Nat.reduceBEq, reduceCtorEq, Int.reduceLT, Int.reduceEq, Int.reduceLE, Int.reduceAdd, Int.reduceSub, Int.reduceToNat, Int.reduceNeg, h10, h3, fy6.l, fz6.l]
          refine walloc_x [.int .i64 0, .int .i64 0] fun w S7 e7 ow hw hwn => ?_
          simp (disch := omega) only [go_sem, ↓reduceIte, Nat.reduceEqDiff, Nat.reduceAdd, Nat.reduceMul, Nat.reduceSub, Nat.reduceLT, Nat.reduceLeDiff, Nat.reduceBEq, reduceCtorEq, Int.reduceLT, Int.reduceEq, Int.reduceLE, Int.reduceAdd, Int.reduceSub, Int.reduceToNat, Int.reduceNeg, h10, h3]
          refine wst_w [.int .i64 ((alook b (runS L)).getD zSpot).1.1, .int .i64 ((alook b (runS L)).getD zSpot).1.2] ow rfl rfl (by simp) (by simp) rfl fun S8 ow8 b8 hw8 => ?_
          have T8 := (T6.ext e7).but b8 (T6.off hwn)
          have fw8 : Off Z S8 w [.int .i64 ((alook b (runS L)).getD zSpot).1.1, .int .i64 ((alook b (runS L)).getD zSpot).1.2] := ⟨hw8, T6.off hwn w rfl, ow8⟩
          have fy8 := (fy6.ext e7).but b8 (by have := fy6.1; omega)
          have fz8 := (fz6.ext e7).but b8 (by have := fz6.1; omega)
          simp (disch := omega) only [go_sem, ↓reduceIte, Nat.reduceEqDiff, Nat.reduceAdd, Nat.reduceMul, Nat.reduceSub, Nat.reduceLT, Nat.reduceLeDiff, Nat.reduceBEq, reduceCtorEq, Int.reduceLT, Int.reduceEq, Int.reduceLE, Int.reduceAdd, Int.reduceSub, Int.reduceToNat, Int.reduceNeg, h10, h3, fy8.l, fz8.l]
          refine walloc_x [.int .i64 0, .int .i64 0] fun u S9 e9 ou hu hun => ?_
          simp (disch := omega) only [go_sem, ↓reduceIte, Nat.reduceEqDiff, Nat.reduceAdd, Nat.reduceMul, Nat.reduceSub, Nat.reduceLT, Nat.reduceLeDiff, Nat.reduceBEq, reduceCtorEq, Int.reduceLT, Int.reduceEq, Int.reduceLE, Int.reduceAdd, Int.reduceSub, Int.reduceToNat, Int.reduceNeg, h10, h3]
          refine wst_w [.int .i64 99, .int .i64 99] ou rfl rfl (by simp) (by simp) rfl fun S10 ou10 b10 hu10 => ?_
          have T10 := (T8.ext e9).but b10 (T8.off hun)
          have fu10 : Off Z S10 u [.int .i64 99, .int .i64 99] := ⟨hu10, T8.off hun u rfl, ou10⟩
          have fw10 := (fw8.ext e9).but b10 (by have := fw8.1; omega)
          have fy10 := (fy8.ext e9).but b10 (by have := fy8.1; omega)
          have fz10 := (fz8.ext e9).but b10 (by have := fz8.1; omega)
          simp (disch := omega) only [go_sem, ↓reduceIte, Nat.reduceEqDiff, Nat.reduceAdd, Nat.reduceMul, Nat.reduceSub, Nat.reduceLT, Nat.reduceLeDiff, Nat.reduceBEq, reduceCtorEq, Int.reduceLT, Int.reduceEq, Int.reduceLE, Int.reduceAdd, Int.reduceSub, Int.reduceToNat, Int.reduceNeg, h10, h3, fy10.l, fz10.l, fu10.l, fw10.l]
          refine wJ_of (F.movetree_Tree_Move_J (m := ⟨(99, 99), 1000001, p, key, b⟩) T10 (by omega)) ?_; rintro _ S11 ⟨rfl, Z11, T11, z11, r11⟩
          have fu11 := fu10.step r11 z11
          have fw11 := fw10.step r11 z11
          have fy11 := fy10.step r11 z11
          have fz11 := fz10.step r11 z11
          have hnn : ¬ (noneP ((99, 99) : Dot) ∨ noneP b) := fun h => h.elim (by decide) hbn
          by_cases hid : ((99, 99) : Dot) ∈ L.map Mv.id
          · have em : moveA L ⟨(99, 99), 1000001, p, key, b⟩ = (32, L) := by
              unfold moveA
              rw [if_neg hnn, if_pos hid]
            have em1 : (moveA L ⟨(99, 99), 1000001, p, key, b⟩).1 = 32 := by rw [em]
            simp (disch := omega) only [go_sem, ↓reduceIte, Nat.reduceEqDiff, Nat.reduceAdd, Nat.reduceMul, Nat.reduceSub, Nat.reduceLT, Nat.reduceLeDiff, Nat.reduceBEq, reduceCtorEq, Int.reduceLT, Int.reduceEq, Int.reduceLE, Int.reduceAdd, Int.reduceSub, Int.reduceToNat, Int.reduceNeg, h10, h3, em1]
          have em : moveA L ⟨(99, 99), 1000001, p, key, b⟩ = (0, L ++ [⟨(99, 99), 1000001, p, key, b⟩]) := by
            unfold moveA
            rw [if_neg hnn, if_neg hid, insM_last fun x hx => by have := ht x hx; show x.time < 1000001; omega]
          have em1 : (moveA L ⟨(99, 99), 1000001, p, key, b⟩).1 = 0 := by rw [em]
          rw [em] at T11
          simp only at T11
          have hlook : alook b (runS (L ++ [⟨(99, 99), 1000001, p, key, b⟩])) = if takesP (runS L) ⟨(99, 99), 1000001, p, key, b⟩ then some (p, key) else alook b (runS L) := by rw [runS_snoc]; exact lm2
          simp (disch := omega) only [go_sem, ↓reduceIte, Nat.reduceEqDiff, Nat.reduceAdd, Nat.reduceMul, Nat.reduceSub, Nat.reduceLT, Nat.reduceLeDiff, Nat.reduceBEq, reduceCtorEq, Int.reduceLT, Int.reduceEq, Int.reduceLE, Int.reduceAdd, Int.reduceSub, Int.reduceToNat, Int.reduceNeg, h10, h3, em1, fy11.l]
          refine wJ_of (F.movetree_Tree_Parent_J (d := b) T11) ?_; rintro _ _ ⟨rfl, rfl⟩
          rw [hlook]
          simp (disch := omega) only [go_sem, ↓reduceIte, Nat.reduceEqDiff, Nat.reduceAdd, Nat.reduceMul, Nat.reduceSub, Nat.reduceLT, Nat.reduceLeDiff, Nat.reduceBEq, reduceCtorEq, Int.reduceLT, Int.reduceEq, Int.reduceLE, Int.reduceAdd, Int.reduceSub, Int.reduceToNat, Int.reduceNeg, h10, h3]
          refine walloc_x [.int .i64 0, .int .i64 0] fun t S12 e12 ot ht' htn => ?_
          have T12 := T11.ext e12
          have fu12 := fu11.ext e12
          have fw12 := fw11.ext e12
          have fy12 := fy11.ext e12
          have fz12 := fz11.ext e12
          rw [if_neg hm]
          simp (disch := omega) only [go_sem, ↓reduceIte, Nat.reduceEqDiff, Nat.reduceAdd, Nat.reduceMul, Nat.reduceSub, Nat.reduceLT, Nat.reduceLeDiff, Nat.reduceBEq, reduceCtorEq, Int.reduceLT, Int.reduceEq, Int.reduceLE, Int.reduceAdd, Int.reduceSub, Int.reduceToNat, Int.reduceNeg, h10, h3]
          refine wst_w [.int .i64 ((alook b (runS L)).getD zSpot).1.1, .int .i64 ((alook b (runS L)).getD zSpot).1.2] ot rfl rfl (by simp) (by simp) rfl fun S13 ot13 b13 ht13 => ?_
          have T13 := T12.but b13 (T11.off htn)
          have ft13 : Off Z11 S13 t [.int .i64 ((alook b (runS L)).getD zSpot).1.1, .int .i64 ((alook b (runS L)).getD zSpot).1.2] := ⟨ht13, T11.off htn t rfl, ot13⟩
          have fu13 := fu12.but b13 (by have := fu11.1; omega)
          have fw13 := fw12.but b13 (by have := fw11.1; omega)
          have fy13 := fy12.but b13 (by have := fy11.1; omega)
          have fz13 := fz12.but b13 (by have := fz11.1; omega)
          simp (disch := omega) only [go_sem, ↓reduceIte, Nat.reduceEqDiff, Nat.reduceAdd, Nat.reduceMul, Nat.reduceSub, Nat.reduceLT, Nat.reduceLeDiff, Nat.reduceBEq, reduceCtorEq, Int.reduceLT, Int.reduceEq, Int.reduceLE, Int.reduceAdd, Int.reduceSub, Int.reduceToNat, Int.reduceNeg, h10, h3, em1, hbs, fu13.l, fy13.l, fz13.l]
          refine wJ_of (F.movetree_Tree_Took_J (d := (99, 99)) T13 (by simp; omega)) ?_; rintro _ _ ⟨rfl, rfl⟩
          have dt : decide (tookP (L ++ [⟨(99, 99), 1000001, p, key, b⟩]) (99, 99)) = false := decide_eq_false fun h => hm ((tookP_snoc (m := ⟨(99, 99), 1000001, p, key, b⟩) hid).1 h)
          have epp := eqV_d ((alook b (runS L)).getD zSpot).1 ((alook b (runS L)).getD zSpot).1 (t := true) (by simp)
          have ekk : (((alook b (runS L)).getD zSpot).2 == ((alook b (runS L)).getD zSpot).2) = true := by rw [ba_beq]; simp
          simp (disch := omega) only [go_sem, ↓reduceIte, Nat.reduceEqDiff, Nat.reduceAdd, Nat.reduceMul, Nat.reduceSub, Nat.reduceLT, Nat.reduceLeDiff, Nat.reduceBEq, reduceCtorEq, Int.reduceLT, Int.reduceEq, Int.reduceLE, Int.reduceAdd, Int.reduceSub, Int.reduceToNat, Int.reduceNeg, h10, h3, dt, epp, ekk, ft13.l, fz13.l, fw13.l]
          refine wJ_of (F.movetree_Tree_Blocks_J T13 (by simp; omega)) ?_; rintro vb2 S14 ⟨hob2, e14⟩
          have hB2 : risen ((runS (L ++ [⟨(99, 99), 1000001, p, key, b⟩])).map Prod.fst) = B := by
            rw [← hB, runS_snoc]
            exact risen_congr lm3
          rw [hB2] at hob2
          have k8 : S3.Ext S8 := (g36.trans e7).but b8 fun j hj => by simp [blkOf] at hj; have := g36.n; omega
          have k10 : S3.Ext S10 := (k8.trans e9).but b10 fun j hj => by simp [blkOf] at hj; have := k8.n; omega
          have w10 := hob.ext dotE k10
          have w11 := w10.congr dotE r11.n fun c _ _ hv hc => r11.obj c hc fun e => by
            have h1 := (hob.blk dotE c (by rw [hv]; rfl)).1
            have h2 := T2.1 c e
            omega
          have w13 := (w11.ext dotE e12).but dotE b13 fun j hj => by have := (w11.blk dotE j hj).2; simp [blkOf]; omega
          have w14 := w13.ext dotE e14
          simp (disch := omega) only [go_sem, ↓reduceIte, Nat.reduceEqDiff, Nat.reduceAdd, Nat.reduceMul, Nat.reduceSub, Nat.reduceLT, Nat.reduceLeDiff, Nat.reduceBEq, reduceCtorEq, Int.reduceLT, Int.reduceEq, Int.reduceLE, Int.reduceAdd, Int.reduceSub, Int.reduceToNat, Int.reduceNeg, h10, h3]
          refine wJ_of (F.osierref03_Same.J (hob2.sl dotE) (w14.sl dotE) (by omega)) ?_; rintro _ _ ⟨rfl, rfl⟩
          simp (disch := omega) only [go_sem, ↓reduceIte, Nat.reduceEqDiff, Nat.reduceAdd, Nat.reduceMul, Nat.reduceSub, Nat.reduceLT, Nat.reduceLeDiff, Nat.reduceBEq, reduceCtorEq, Int.reduceLT, Int.reduceEq, Int.reduceLE, Int.reduceAdd, Int.reduceSub, Int.reduceToNat, Int.reduceNeg, h10, h3]
        · have dq : decide (b ∈ pathA (runS L) p) = false := decide_eq_false q2
          simp (disch := omega) only [go_sem, ↓reduceIte, Nat.reduceEqDiff, Nat.reduceAdd, Nat.reduceMul, Nat.reduceSub, Nat.reduceLT, Nat.reduceLeDiff, Nat.reduceBEq, reduceCtorEq, Int.reduceLT, Int.reduceEq, Int.reduceLE, Int.reduceAdd, Int.reduceSub, Int.reduceToNat, Int.reduceNeg, h10, h3, fy6.l, fz6.l, dq]
          have hm : takesP (runS L) ⟨(99, 99), 1000001, p, key, b⟩ := lm1.2 ⟨q1, q2⟩
          refine wJ_of (F.movetree_Tree_Parent_J (d := b) T6) ?_; rintro _ _ ⟨rfl, rfl⟩
          simp (disch := omega) only [go_sem, ↓reduceIte, Nat.reduceEqDiff, Nat.reduceAdd, Nat.reduceMul, Nat.reduceSub, Nat.reduceLT, Nat.reduceLeDiff, Nat.reduceBEq, reduceCtorEq, Int.reduceLT, Int.reduceEq, Int.reduceLE, Int.reduceAdd, Int.reduceSub, Int.reduceToNat, Int.reduceNeg, h10, h3, fy6.l, fz6.l]
          refine walloc_x [.int .i64 0, .int .i64 0] fun w S7 e7 ow hw hwn => ?_
          simp (disch := omega) only [go_sem, ↓reduceIte, Nat.reduceEqDiff, Nat.reduceAdd, Nat.reduceMul, Nat.reduceSub, Nat.reduceLT, Nat.reduceLeDiff, Nat.reduceBEq, reduceCtorEq, Int.reduceLT, Int.reduceEq, Int.reduceLE, Int.reduceAdd, Int.reduceSub, Int.reduceToNat, Int.reduceNeg, h10, h3]
          refine wst_w [.int .i64 ((alook b (runS L)).getD zSpot).1.1, .int .i64 ((alook b (runS L)).getD zSpot).1.2] ow rfl rfl (by simp) (by simp) rfl fun S8 ow8 b8 hw8 => ?_
          have T8 := (T6.ext e7).but b8 (T6.off hwn)
          have fw8 : Off Z S8 w [.int .i64 ((alook b (runS L)).getD zSpot).1.1, .int .i64 ((alook b (runS L)).getD zSpot).1.2] := ⟨hw8, T6.off hwn w rfl, ow8⟩
          have fy8 := (fy6.ext e7).but b8 (by have := fy6.1; omega)
          have fz8 := (fz6.ext e7).but b8 (by have := fz6.1; omega)
          simp (disch := omega) only [go_sem, ↓reduceIte, Nat.reduceEqDiff, Nat.reduceAdd, Nat.reduceMul, Nat.reduceSub, Nat.reduceLT, Nat.reduceLeDiff, Nat.reduceBEq, reduceCtorEq, Int.reduceLT, Int.reduceEq, Int.reduceLE, Int.reduceAdd, Int.reduceSub, Int.reduceToNat, Int.reduceNeg, h10, h3, fy8.l, fz8.l]
          refine walloc_x [.int .i64 0, .int .i64 0] fun u S9 e9 ou hu hun => ?_
          simp (disch := omega) only [go_sem, ↓reduceIte, Nat.reduceEqDiff, Nat.reduceAdd, Nat.reduceMul, Nat.reduceSub, Nat.reduceLT, Nat.reduceLeDiff, Nat.reduceBEq, reduceCtorEq, Int.reduceLT, Int.reduceEq, Int.reduceLE, Int.reduceAdd, Int.reduceSub, Int.reduceToNat, Int.reduceNeg, h10, h3]
          refine wst_w [.int .i64 99, .int .i64 99] ou rfl rfl (by simp) (by simp) rfl fun S10 ou10 b10 hu10 => ?_
          have T10 := (T8.ext e9).but b10 (T8.off hun)
          have fu10 : Off Z S10 u [.int .i64 99, .int .i64 99] := ⟨hu10, T8.off hun u rfl, ou10⟩
          have fw10 := (fw8.ext e9).but b10 (by have := fw8.1; omega)
          have fy10 := (fy8.ext e9).but b10 (by have := fy8.1; omega)
          have fz10 := (fz8.ext e9).but b10 (by have := fz8.1; omega)
          simp (disch := omega) only [go_sem, ↓reduceIte, Nat.reduceEqDiff, Nat.reduceAdd, Nat.reduceMul, Nat.reduceSub, Nat.reduceLT, Nat.reduceLeDiff, Nat.reduceBEq, reduceCtorEq, Int.reduceLT, Int.reduceEq, Int.reduceLE, Int.reduceAdd, Int.reduceSub, Int.reduceToNat, Int.reduceNeg, h10, h3, fy10.l, fz10.l, fu10.l, fw10.l]
          refine wJ_of (F.movetree_Tree_Move_J (m := ⟨(99, 99), 1000001, p, key, b⟩) T10 (by omega)) ?_; rintro _ S11 ⟨rfl, Z11, T11, z11, r11⟩
          have fu11 := fu10.step r11 z11
          have fw11 := fw10.step r11 z11
          have fy11 := fy10.step r11 z11
          have fz11 := fz10.step r11 z11
          have hnn : ¬ (noneP ((99, 99) : Dot) ∨ noneP b) := fun h => h.elim (by decide) hbn
          by_cases hid : ((99, 99) : Dot) ∈ L.map Mv.id
          · have em : moveA L ⟨(99, 99), 1000001, p, key, b⟩ = (32, L) := by
              unfold moveA
              rw [if_neg hnn, if_pos hid]
            have em1 : (moveA L ⟨(99, 99), 1000001, p, key, b⟩).1 = 32 := by rw [em]
            simp (disch := omega) only [go_sem, ↓reduceIte, Nat.reduceEqDiff, Nat.reduceAdd, Nat.reduceMul, Nat.reduceSub, Nat.reduceLT, Nat.reduceLeDiff, Nat.reduceBEq, reduceCtorEq, Int.reduceLT, Int.reduceEq, Int.reduceLE, Int.reduceAdd, Int.reduceSub, Int.reduceToNat, Int.reduceNeg, h10, h3, em1]
          have em : moveA L ⟨(99, 99), 1000001, p, key, b⟩ = (0, L ++ [⟨(99, 99), 1000001, p, key, b⟩]) := by
            unfold moveA
            rw [if_neg hnn, if_neg hid, insM_last fun x hx => by have := ht x hx; show x.time < 1000001; omega]
          have em1 : (moveA L ⟨(99, 99), 1000001, p, key, b⟩).1 = 0 := by rw [em]
          rw [em] at T11
          simp only at T11
          have hlook : alook b (runS (L ++ [⟨(99, 99), 1000001, p, key, b⟩])) = if takesP (runS L) ⟨(99, 99), 1000001, p, key, b⟩ then some (p, key) else alook b (runS L) := by rw [runS_snoc]; exact lm2
          simp (disch := omega) only [go_sem, ↓reduceIte, Nat.reduceEqDiff, Nat.reduceAdd, Nat.reduceMul, Nat.reduceSub, Nat.reduceLT, Nat.reduceLeDiff, Nat.reduceBEq, reduceCtorEq, Int.reduceLT, Int.reduceEq, Int.reduceLE, Int.reduceAdd, Int.reduceSub, Int.reduceToNat, Int.reduceNeg, h10, h3, em1, fy11.l]
          refine wJ_of (F.movetree_Tree_Parent_J (d := b) T11) ?_; rintro _ _ ⟨rfl, rfl⟩
          rw [hlook]
          simp (disch := omega) only [go_sem, ↓reduceIte, Nat.reduceEqDiff, Nat.reduceAdd, Nat.reduceMul, Nat.reduceSub, Nat.reduceLT, Nat.reduceLeDiff, Nat.reduceBEq, reduceCtorEq, Int.reduceLT, Int.reduceEq, Int.reduceLE, Int.reduceAdd, Int.reduceSub, Int.reduceToNat, Int.reduceNeg, h10, h3]
          refine walloc_x [.int .i64 0, .int .i64 0] fun t S12 e12 ot ht' htn => ?_
          have T12 := T11.ext e12
          have fu12 := fu11.ext e12
          have fw12 := fw11.ext e12
          have fy12 := fy11.ext e12
          have fz12 := fz11.ext e12
          rw [if_pos hm]
          simp (disch := omega) only [go_sem, ↓reduceIte, Nat.reduceEqDiff, Nat.reduceAdd, Nat.reduceMul, Nat.reduceSub, Nat.reduceLT, Nat.reduceLeDiff, Nat.reduceBEq, reduceCtorEq, Int.reduceLT, Int.reduceEq, Int.reduceLE, Int.reduceAdd, Int.reduceSub, Int.reduceToNat, Int.reduceNeg, h10, h3, Option.getD_some]
          refine wst_w [.int .i64 p.1, .int .i64 p.2] ot rfl rfl (by simp) (by simp) rfl fun S13 ot13 b13 ht13 => ?_
          have T13 := T12.but b13 (T11.off htn)
          have ft13 : Off Z11 S13 t [.int .i64 p.1, .int .i64 p.2] := ⟨ht13, T11.off htn t rfl, ot13⟩
          have fu13 := fu12.but b13 (by have := fu11.1; omega)
          have fw13 := fw12.but b13 (by have := fw11.1; omega)
          have fy13 := fy12.but b13 (by have := fy11.1; omega)
          have fz13 := fz12.but b13 (by have := fz11.1; omega)
          simp (disch := omega) only [go_sem, ↓reduceIte, Nat.reduceEqDiff, Nat.reduceAdd, Nat.reduceMul, Nat.reduceSub, Nat.reduceLT, Nat.reduceLeDiff, Nat.reduceBEq, reduceCtorEq, Int.reduceLT, Int.reduceEq, Int.reduceLE, Int.reduceAdd, Int.reduceSub, Int.reduceToNat, Int.reduceNeg, h10, h3, em1, Option.isSome_some, fu13.l, fy13.l, fz13.l]
          refine wJ_of (F.movetree_Tree_Took_J (d := (99, 99)) T13 (by simp; omega)) ?_; rintro _ _ ⟨rfl, rfl⟩
          have dt : decide (tookP (L ++ [⟨(99, 99), 1000001, p, key, b⟩]) (99, 99)) = true := decide_eq_true ((tookP_snoc (m := ⟨(99, 99), 1000001, p, key, b⟩) hid).2 hm)
          have epp := eqV_d p p (t := true) (by simp)
          have ekk : (key == key) = true := by rw [ba_beq]; simp
          simp (disch := omega) only [go_sem, ↓reduceIte, Nat.reduceEqDiff, Nat.reduceAdd, Nat.reduceMul, Nat.reduceSub, Nat.reduceLT, Nat.reduceLeDiff, Nat.reduceBEq, reduceCtorEq, Int.reduceLT, Int.reduceEq, Int.reduceLE, Int.reduceAdd, Int.reduceSub, Int.reduceToNat, Int.reduceNeg, h10, h3, dt, epp, ekk, ft13.l, fz13.l, fw13.l]
          refine wJ_of (F.movetree_Tree_Blocks_J T13 (by simp; omega)) ?_; rintro vb2 S14 ⟨hob2, e14⟩
          have hB2 : risen ((runS (L ++ [⟨(99, 99), 1000001, p, key, b⟩])).map Prod.fst) = B := by
            rw [← hB, runS_snoc]
            exact risen_congr lm3
          rw [hB2] at hob2
          have k8 : S3.Ext S8 := (g36.trans e7).but b8 fun j hj => by simp [blkOf] at hj; have := g36.n; omega
          have k10 : S3.Ext S10 := (k8.trans e9).but b10 fun j hj => by simp [blkOf] at hj; have := k8.n; omega
          have w10 := hob.ext dotE k10
          have w11 := w10.congr dotE r11.n fun c _ _ hv hc => r11.obj c hc fun e => by
            have h1 := (hob.blk dotE c (by rw [hv]; rfl)).1
            have h2 := T2.1 c e
            omega
          have w13 := (w11.ext dotE e12).but dotE b13 fun j hj => by have := (w11.blk dotE j hj).2; simp [blkOf]; omega
          have w14 := w13.ext dotE e14
          simp (disch := omega) only [go_sem, ↓reduceIte, Nat.reduceEqDiff, Nat.reduceAdd, Nat.reduceMul, Nat.reduceSub, Nat.reduceLT, Nat.reduceLeDiff, Nat.reduceBEq, reduceCtorEq, Int.reduceLT, Int.reduceEq, Int.reduceLE, Int.reduceAdd, Int.reduceSub, Int.reduceToNat, Int.reduceNeg, h10, h3]
          refine wJ_of (F.osierref03_Same.J (hob2.sl dotE) (w14.sl dotE) (by omega)) ?_; rintro _ _ ⟨rfl, rfl⟩
          simp (disch := omega) only [go_sem, ↓reduceIte, Nat.reduceEqDiff, Nat.reduceAdd, Nat.reduceMul, Nat.reduceSub, Nat.reduceLT, Nat.reduceLeDiff, Nat.reduceBEq, reduceCtorEq, Int.reduceLT, Int.reduceEq, Int.reduceLE, Int.reduceAdd, Int.reduceSub, Int.reduceToNat, Int.reduceNeg, h10, h3]
end Go.Osj
