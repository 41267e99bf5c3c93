/- The document's tree: a move comes in. -/
import Derived.Test.YtdabompehgancaaRB
set_option linter.unusedVariables false
set_option linter.unusedSimpArgs false
set_option maxHeartbeats 2000000
namespace Go.Osj
theorem srt_split {L : List Mv} {m : Mv} (h : L.Pairwise aheadM) : ∀ k, k = (L.filter fun x => decide (aheadM x m)).length → L.take k = L.filter (fun x => decide (aheadM x m)) ∧ L.drop k = L.filter (fun x => !decide (aheadM x m)) := by
  induction L with
  | nil => intro k hk; simp at hk; subst hk; simp
  | cons x r ih =>
    intro k hk
    obtain ⟨h1, h2⟩ := List.pairwise_cons.1 h
    by_cases hx : aheadM x m
    · simp only [List.filter_cons, decide_eq_true hx, if_true, List.length_cons] at hk ⊢
      subst hk
      obtain ⟨i1, i2⟩ := ih h2 _ rfl
      exact ⟨by rw [List.take_succ_cons, i1], by rw [List.drop_succ_cons, i2]; rfl⟩
    · have hn : ∀ y ∈ r, ¬ aheadM y m := fun y hy hy2 => hx (aheadM_trans (h1 y hy) hy2)
      have e1 : r.filter (fun x => decide (aheadM x m)) = [] := List.filter_eq_nil_iff.2 fun y hy => by simpa using hn y hy
      have e2 : r.filter (fun x => !decide (aheadM x m)) = r := List.filter_eq_self.2 fun y hy => by simpa using hn y hy
      simp only [List.filter_cons, decide_eq_false hx, Bool.false_eq_true, if_false, e1, List.length_nil, Bool.not_false, if_true, e2] at hk ⊢
      subst hk
      exact ⟨rfl, rfl⟩
theorem F.osierref10_Tree_Move_J {S : St} {lv sv tv : Value} {L : List Mv} {m : Mv} (hl : SlT rmE S lv L) (hs1 : ∃ b n c, sv = .slice b n c) (ht1 : ∃ b n c, tv = .slice b n c) (hS : Srt L) (hL : L.length < 5000) :
    J PR F.osierref10_Tree_Move [.agg #[lv, sv, tv], rmV m] S fun v S' => (∃ w, v = .tuple #[w, .int .i64 (moveA L m).1] ∧ ((moveA L m).1 ≠ 0 → w = .agg #[lv, sv, tv]) ∧
      ((moveA L m).1 = 0 → ∃ lv' sv' tv', w = .agg #[lv', sv', tv'] ∧ OwnT rmE S.n S' lv' (moveA L m).2 ∧ OwnT stE S.n S' sv' (doneR (moveA L m).2).1 ∧ OwnT dotE S.n S' tv' (doneR (moveA L m).2).2)) ∧ S.Ext S' := by
  obtain ⟨base, cap, rfl⟩ := hl.len rmE
  obtain ⟨sb, sn, sc, rfl⟩ := hs1
  obtain ⟨tb, tn, tc, rfl⟩ := ht1
  refine J_by PR.mixed F.osierref10_Tree_Move.ok (by simp) ?_
  simp (disch := omega) only [go_sem, ↓reduceIte, Nat.reduceEqDiff, Nat.reduceAdd, Nat.reduceMul, Nat.reduceSub, Nat.reduceLT, Nat.reduceLeDiff, Nat.reduceBEq, reduceCtorEq, Int.reduceLT, Int.reduceEq, Int.reduceLE, Int.reduceAdd, Int.reduceSub, Int.reduceToNat, Int.reduceNeg]
  refine walloc_x [.slice base L.length cap, .slice sb sn sc, .slice tb tn tc] fun x S1 e1 ox hx hxn => ?_
  simp (disch := omega) only [go_sem, ↓reduceIte, Nat.reduceEqDiff, Nat.reduceAdd, Nat.reduceMul, Nat.reduceSub, Nat.reduceLT, Nat.reduceLeDiff, Nat.reduceBEq, reduceCtorEq, Int.reduceLT, Int.reduceEq, Int.reduceLE, Int.reduceAdd, Int.reduceSub, Int.reduceToNat, Int.reduceNeg]
  refine wE_boxR (m := m) rfl fun y S2 e2 hy hyn => ?_
  simp (disch := omega) only [go_sem, ↓reduceIte, Nat.reduceEqDiff, Nat.reduceAdd, Nat.reduceMul, Nat.reduceSub, Nat.reduceLT, Nat.reduceLeDiff, Nat.reduceBEq, reduceCtorEq, Int.reduceLT, Int.reduceEq, Int.reduceLE, Int.reduceAdd, Int.reduceSub, Int.reduceToNat, Int.reduceNeg]
  refine walloc_x [nilS, nilS, nilS] fun z S3 e3 oz hz hzn => ?_
  have g3 : S.Ext S3 := (e1.trans e2).trans e3
  have hx2 : x < S2.n := Nat.lt_of_lt_of_le hx e2.n
  have ox3 := (e3.obj x hx2).trans ((e2.obj x hx).trans ox)
  have hx3 := Nat.lt_of_lt_of_le hx2 e3.n
  have hy3 := hy.ext e3
  have cx := cells3 ox3
  have cy := hy3.c
  have hzx : z ≠ x := by omega
  have hzy : z ≠ y := by have := hy.1; omega
  have hzS : S.n ≤ z := by have := e1.n; have := e2.n; omega
  have hrl := hl.ext rmE g3
  -- going back with what was there
  have same : ∀ (c : Int), (moveA L m).1 = c → c ≠ 0 → ∀ S4, St.But (ptrV z) S3 S4 → ((∃ w, Value.tuple #[.agg #[.slice base L.length cap, .slice sb sn sc, .slice tb tn tc], .int .i64 c] = .tuple #[w, .int .i64 (moveA L m).1] ∧ ((moveA L m).1 ≠ 0 → w = .agg #[.slice base L.length cap, .slice sb sn sc, .slice tb tn tc]) ∧
      ((moveA L m).1 = 0 → ∃ lv' sv' tv', w = .agg #[lv', sv', tv'] ∧ OwnT rmE S.n S4 lv' (moveA L m).2 ∧ OwnT stE S.n S4 sv' (doneR (moveA L m).2).1 ∧ OwnT dotE S.n S4 tv' (doneR (moveA L m).2).2)) ∧ S.Ext S4) := fun c hc h0 S4 b4 =>
    ⟨⟨_, by rw [hc], fun _ => rfl, fun h => absurd (hc ▸ h) h0⟩, g3.but b4 fun j hj => by simp [blkOf] at hj; omega⟩
  by_cases n1 : noneP m.id ∨ noneP m.block
  · have em : (moveA L m).1 = 1 := by unfold moveA; rw [if_pos n1]
    by_cases z1 : m.id = (0, 0)
    · have q1 := eqV_d m.id (0, 0) (decide_eq_true z1)
      simp (disch := omega) only [go_sem, ↓reduceIte, Nat.reduceEqDiff, Nat.reduceAdd, Nat.reduceMul, Nat.reduceSub, Nat.reduceLT, Nat.reduceLeDiff, Nat.reduceBEq, reduceCtorEq, Int.reduceLT, Int.reduceEq, Int.reduceLE, Int.reduceAdd, Int.reduceSub, Int.reduceToNat, Int.reduceNeg, cx, cy, q1]
      refine wst_w [.slice base L.length cap, .slice sb sn sc, .slice tb tn tc] oz rfl rfl (by simp) (by simp) rfl fun S4 oz4 b4 hz4 => ?_
      have cz4 := cells3 oz4
      simp (disch := omega) only [go_sem, ↓reduceIte, Nat.reduceEqDiff, Nat.reduceAdd, Nat.reduceMul, Nat.reduceSub, Nat.reduceLT, Nat.reduceLeDiff, Nat.reduceBEq, reduceCtorEq, Int.reduceLT, Int.reduceEq, Int.reduceLE, Int.reduceAdd, Int.reduceSub, Int.reduceToNat, Int.reduceNeg, cz4, cz4]
      exact same 1 em (by decide) S4 b4
    have q1 := eqV_d m.id (0, 0) (decide_eq_false z1)
    by_cases z2 : m.block = (0, 0)
    · have q2 := eqV_d m.block (0, 0) (decide_eq_true z2)
      simp (disch := omega) only [go_sem, ↓reduceIte, Nat.reduceEqDiff, Nat.reduceAdd, Nat.reduceMul, Nat.reduceSub, Nat.reduceLT, Nat.reduceLeDiff, Nat.reduceBEq, reduceCtorEq, Int.reduceLT, Int.reduceEq, Int.reduceLE, Int.reduceAdd, Int.reduceSub, Int.reduceToNat, Int.reduceNeg, cx, cy, q1, q2]
      refine wst_w [.slice base L.length cap, .slice sb sn sc, .slice tb tn tc] oz rfl rfl (by simp) (by simp) rfl fun S4 oz4 b4 hz4 => ?_
      have cz4 := cells3 oz4
      simp (disch := omega) only [go_sem, ↓reduceIte, Nat.reduceEqDiff, Nat.reduceAdd, Nat.reduceMul, Nat.reduceSub, Nat.reduceLT, Nat.reduceLeDiff, Nat.reduceBEq, reduceCtorEq, Int.reduceLT, Int.reduceEq, Int.reduceLE, Int.reduceAdd, Int.reduceSub, Int.reduceToNat, Int.reduceNeg, cz4, cz4]
      exact same 1 em (by decide) S4 b4
    have q2 := eqV_d m.block (0, 0) (decide_eq_false z2)
    simp (disch := omega) only [go_sem, ↓reduceIte, Nat.reduceEqDiff, Nat.reduceAdd, Nat.reduceMul, Nat.reduceSub, Nat.reduceLT, Nat.reduceLeDiff, Nat.reduceBEq, reduceCtorEq, Int.reduceLT, Int.reduceEq, Int.reduceLE, Int.reduceAdd, Int.reduceSub, Int.reduceToNat, Int.reduceNeg, cx, cy, q1, q2]
    refine wJ_of (F.osierref10_ends_J (d := m.id)) ?_; rintro _ _ ⟨rfl, rfl⟩
    by_cases a1 : alwaysP m.id
    · have d1 : decide (alwaysP m.id) = true := decide_eq_true a1
      simp (disch := omega) only [go_sem, ↓reduceIte, Nat.reduceEqDiff, Nat.reduceAdd, Nat.reduceMul, Nat.reduceSub, Nat.reduceLT, Nat.reduceLeDiff, Nat.reduceBEq, reduceCtorEq, Int.reduceLT, Int.reduceEq, Int.reduceLE, Int.reduceAdd, Int.reduceSub, Int.reduceToNat, Int.reduceNeg, cx, cy, q1, q2, d1]
      refine wst_w [.slice base L.length cap, .slice sb sn sc, .slice tb tn tc] oz rfl rfl (by simp) (by simp) rfl fun S4 oz4 b4 hz4 => ?_
      have cz4 := cells3 oz4
      simp (disch := omega) only [go_sem, ↓reduceIte, Nat.reduceEqDiff, Nat.reduceAdd, Nat.reduceMul, Nat.reduceSub, Nat.reduceLT, Nat.reduceLeDiff, Nat.reduceBEq, reduceCtorEq, Int.reduceLT, Int.reduceEq, Int.reduceLE, Int.reduceAdd, Int.reduceSub, Int.reduceToNat, Int.reduceNeg, cz4, cz4]
      exact same 1 em (by decide) S4 b4
    have d1 : decide (alwaysP m.id) = false := decide_eq_false a1
    simp (disch := omega) only [go_sem, ↓reduceIte, Nat.reduceEqDiff, Nat.reduceAdd, Nat.reduceMul, Nat.reduceSub, Nat.reduceLT, Nat.reduceLeDiff, Nat.reduceBEq, reduceCtorEq, Int.reduceLT, Int.reduceEq, Int.reduceLE, Int.reduceAdd, Int.reduceSub, Int.reduceToNat, Int.reduceNeg, cx, cy, q1, q2, d1]
    refine wJ_of (F.osierref10_ends_J (d := m.block)) ?_; rintro _ _ ⟨rfl, rfl⟩
    have a2 : alwaysP m.block := by
      rcases n1 with (h | h) | (h | h)
      · exact absurd h z1
      · exact absurd h a1
      · exact absurd h z2
      · exact h
    have d2 : decide (alwaysP m.block) = true := decide_eq_true a2
    simp (disch := omega) only [go_sem, ↓reduceIte, Nat.reduceEqDiff, Nat.reduceAdd, Nat.reduceMul, Nat.reduceSub, Nat.reduceLT, Nat.reduceLeDiff, Nat.reduceBEq, reduceCtorEq, Int.reduceLT, Int.reduceEq, Int.reduceLE, Int.reduceAdd, Int.reduceSub, Int.reduceToNat, Int.reduceNeg, cx, cy, q1, q2, d1, d2]
    refine wst_w [.slice base L.length cap, .slice sb sn sc, .slice tb tn tc] oz rfl rfl (by simp) (by simp) rfl fun S4 oz4 b4 hz4 => ?_
    have cz4 := cells3 oz4
    simp (disch := omega) only [go_sem, ↓reduceIte, Nat.reduceEqDiff, Nat.reduceAdd, Nat.reduceMul, Nat.reduceSub, Nat.reduceLT, Nat.reduceLeDiff, Nat.reduceBEq, reduceCtorEq, Int.reduceLT, Int.reduceEq, Int.reduceLE, Int.reduceAdd, Int.reduceSub, Int.reduceToNat, Int.reduceNeg, cz4, cz4]
    exact same 1 em (by decide) S4 b4
  have z1 : ¬ m.id = (0, 0) := fun h => n1 (.inl (.inl h))
  have z2 : ¬ m.block = (0, 0) := fun h => n1 (.inr (.inl h))
  have a1 : ¬ alwaysP m.id := fun h => n1 (.inl (.inr h))
  have a2 : ¬ alwaysP m.block := fun h => n1 (.inr (.inr h))
  have q1 := eqV_d m.id (0, 0) (decide_eq_false z1)
  have q2 := eqV_d m.block (0, 0) (decide_eq_false z2)
  have d1 : decide (alwaysP m.id) = false := decide_eq_false a1
  have d2 : decide (alwaysP m.block) = false := decide_eq_false a2
  simp (disch := omega) only [go_sem, ↓reduceIte, Nat.reduceEqDiff, Nat.reduceAdd, Nat.reduceMul, Nat.reduceSub, Nat.reduceLT, Nat.reduceLeDiff, Nat.reduceBEq, reduceCtorEq, Int.reduceLT, Int.reduceEq, Int.reduceLE, Int.reduceAdd, Int.reduceSub, Int.reduceToNat, Int.reduceNeg, cx, cy, q1, q2]
  refine wJ_of (F.osierref10_ends_J (d := m.id)) ?_; rintro _ _ ⟨rfl, rfl⟩
  simp (disch := omega) only [go_sem, ↓reduceIte, Nat.reduceEqDiff, Nat.reduceAdd, Nat.reduceMul, Nat.reduceSub, Nat.reduceLT, Nat.reduceLeDiff, Nat.reduceBEq, reduceCtorEq, Int.reduceLT, Int.reduceEq, Int.reduceLE, Int.reduceAdd, Int.reduceSub, Int.reduceToNat, Int.reduceNeg, cx, cy, q1, q2, d1]
  refine wJ_of (F.osierref10_ends_J (d := m.block)) ?_; rintro _ _ ⟨rfl, rfl⟩
  simp (disch := omega) only [go_sem, ↓reduceIte, Nat.reduceEqDiff, Nat.reduceAdd, Nat.reduceMul, Nat.reduceSub, Nat.reduceLT, Nat.reduceLeDiff, Nat.reduceBEq, reduceCtorEq, Int.reduceLT, Int.reduceEq, Int.reduceLE, Int.reduceAdd, Int.reduceSub, Int.reduceToNat, Int.reduceNeg, cx, cy, q1, q2, d1, d2]
  refine wC_at 0 (fun fr S4 => S4 = S3 ∧ fr 2 = ptrV x ∧ fr 3 = ptrV y ∧ fr 4 = ptrV z ∧ fr 6 = .int .i64 ((L.filter fun x => decide (aheadM x m)).length : Nat) ∧ m.id ∉ L.map Mv.id) ?_ ?_
  · refine wC_loop (fun n fr S4 => ∃ i : Nat, n = L.length - i ∧ i ≤ L.length ∧ S4 = S3 ∧ fr 2 = ptrV x ∧ fr 3 = ptrV y ∧ fr 4 = ptrV z ∧ fr 6 = .int .i64 (((L.take i).filter fun x => decide (aheadM x m)).length : Nat) ∧ fr 7 = .int .i64 (i : Nat) ∧ m.id ∉ (L.take i).map Mv.id) L.length
      ⟨0, by
        have k0 : m.id ∉ (L.take 0).map Mv.id := by simp
        simp (disch := omega) only [go_sem, ↓reduceIte, Nat.reduceEqDiff, Nat.reduceAdd, Nat.reduceMul, Nat.reduceSub, Nat.reduceLT, Nat.reduceLeDiff, Nat.reduceBEq, reduceCtorEq, Int.reduceLT, Int.reduceEq, Int.reduceLE, Int.reduceAdd, Int.reduceSub, Int.reduceToNat, Int.reduceNeg]
        repeat' first | assumption | omega | (exact St.Ext.refl _) | (exact List.Perm.refl _) | rfl | (exact .inl trivial) | (exact trivial) | refine And.intro ?_ ?_
        ⟩ ?_
    rintro n fr S4 ⟨i, rfl, hi, rfl, h2, h3, h4, h6, h7, hn⟩
    simp (disch := omega) only [go_sem, ↓reduceIte, Nat.reduceEqDiff, Nat.reduceAdd, Nat.reduceMul, Nat.reduceSub, Nat.reduceLT, Nat.reduceLeDiff, Nat.reduceBEq, reduceCtorEq, Int.reduceLT, Int.reduceEq, Int.reduceLE, Int.reduceAdd, Int.reduceSub, Int.reduceToNat, Int.reduceNeg, F.osierref10_Tree_Move.l0, h2, h3, h4, h6, h7, cx]
    refine wcond_dec (fun hlt => ?_) (fun hge => ?_)
    rotate_left
    · simp (disch := omega) only [go_sem, ↓reduceIte, Nat.reduceEqDiff, Nat.reduceAdd, Nat.reduceMul, Nat.reduceSub, Nat.reduceLT, Nat.reduceLeDiff, Nat.reduceBEq, reduceCtorEq, Int.reduceLT, Int.reduceEq, Int.reduceLE, Int.reduceAdd, Int.reduceSub, Int.reduceToNat, Int.reduceNeg, h2, h3, h4, h6]
      rw [List.take_of_length_le (by omega)] at hn h6
      simp only [List.take_of_length_le (show L.length ≤ i by omega)]
      repeat' first | assumption | omega | (exact St.Ext.refl _) | (exact List.Perm.refl _) | rfl | (exact .inl trivial) | (exact trivial) | refine And.intro ?_ ?_
    have hli : i < L.length := by omega
    have c1 : (0 : Int) ≤ (i : Int) ∧ (i : Int) < (L.length : Int) := by omega
    obtain ⟨b0, o0, rfl, hb, ⟨x1, -⟩, x6⟩ := hrl.rm hli
    have hfl : ((L.take i).filter fun x => decide (aheadM x m)).length ≤ i := Nat.le_trans (List.length_filter_le _ _) (by rw [List.length_take]; omega)
    by_cases hid : L[i].id = m.id
    · have q3 := eqV_d L[i].id m.id (decide_eq_true hid)
      have em : (moveA L m).1 = 32 := by
        unfold moveA
        rw [if_neg n1, if_pos (hid ▸ List.mem_map_of_mem (List.getElem_mem hli))]
      simp (disch := omega) only [go_sem, ↓reduceIte, Nat.reduceEqDiff, Nat.reduceAdd, Nat.reduceMul, Nat.reduceSub, Nat.reduceLT, Nat.reduceLeDiff, Nat.reduceBEq, reduceCtorEq, Int.reduceLT, Int.reduceEq, Int.reduceLE, Int.reduceAdd, Int.reduceSub, Int.reduceToNat, Int.reduceNeg, h2, h3, h4, h7, c1, cx, cy, x1, q3]
      refine wst_w [.slice (some ⟨b0, o0, none⟩) L.length cap, .slice sb sn sc, .slice tb tn tc] oz rfl rfl (by simp) (by simp) rfl fun S4 oz4 b4 hz4 => ?_
      have cz4 := cells3 oz4
      simp (disch := omega) only [go_sem, ↓reduceIte, Nat.reduceEqDiff, Nat.reduceAdd, Nat.reduceMul, Nat.reduceSub, Nat.reduceLT, Nat.reduceLeDiff, Nat.reduceBEq, reduceCtorEq, Int.reduceLT, Int.reduceEq, Int.reduceLE, Int.reduceAdd, Int.reduceSub, Int.reduceToNat, Int.reduceNeg, cz4, h4]
      exact same 32 em (by decide) S4 b4
    have q3 := eqV_d L[i].id m.id (decide_eq_false hid)
    have k1 : m.id ∉ (L.take (i + 1)).map Mv.id := by
      rw [take_snoc (List.getElem?_eq_getElem hli), List.map_append, List.mem_append]
      rintro (h | h)
      · exact hn h
      · simp at h
        exact hid h.symm
    simp (disch := omega) only [go_sem, ↓reduceIte, Nat.reduceEqDiff, Nat.reduceAdd, Nat.reduceMul, Nat.reduceSub, Nat.reduceLT, Nat.reduceLeDiff, Nat.reduceBEq, reduceCtorEq, Int.reduceLT, Int.reduceEq, Int.reduceLE, Int.reduceAdd, Int.reduceSub, Int.reduceToNat, Int.reduceNeg, h2, h3, h4, h7, c1, cx, cy, x1, x6, q3]
    refine wJ_of (F.osierref10_ahead_J (a := L[i]) (b := m)) ?_; rintro _ _ ⟨rfl, rfl⟩
    simp (disch := omega) only [go_sem, ↓reduceIte, Nat.reduceEqDiff, Nat.reduceAdd, Nat.reduceMul, Nat.reduceSub, Nat.reduceLT, Nat.reduceLeDiff, Nat.reduceBEq, reduceCtorEq, Int.reduceLT, Int.reduceEq, Int.reduceLE, Int.reduceAdd, Int.reduceSub, Int.reduceToNat, Int.reduceNeg]
    refine wcond_dec (fun ha => ?_) (fun ha => ?_)
    · simp (disch := omega) only [go_sem, ↓reduceIte, Nat.reduceEqDiff, Nat.reduceAdd, Nat.reduceMul, Nat.reduceSub, Nat.reduceLT, Nat.reduceLeDiff, Nat.reduceBEq, reduceCtorEq, Int.reduceLT, Int.reduceEq, Int.reduceLE, Int.reduceAdd, Int.reduceSub, Int.reduceToNat, Int.reduceNeg, h2, h3, h4, h6, h7]
      have k2 : Value.int .i64 ((((L.take i).filter fun x => decide (aheadM x m)).length : Int) + 1) = Value.int .i64 (((L.take (i + 1)).filter fun x => decide (aheadM x m)).length : Nat) := by
        rw [take_snoc (List.getElem?_eq_getElem hli), List.filter_append]
        simp [ha]
      refine ⟨L.length - (i + 1), by omega, i + 1, ?_⟩
      repeat' first | assumption | omega | (exact St.Ext.refl _) | (exact List.Perm.refl _) | rfl | (exact .inl trivial) | (exact trivial) | refine And.intro ?_ ?_
    · have k2 : Value.int .i64 (((L.take i).filter fun x => decide (aheadM x m)).length : Nat) = Value.int .i64 (((L.take (i + 1)).filter fun x => decide (aheadM x m)).length : Nat) := by
        rw [take_snoc (List.getElem?_eq_getElem hli), List.filter_append]
        simp [ha]
      rw [k2] at h6
      simp (disch := omega) only [go_sem, ↓reduceIte, Nat.reduceEqDiff, Nat.reduceAdd, Nat.reduceMul, Nat.reduceSub, Nat.reduceLT, Nat.reduceLeDiff, Nat.reduceBEq, reduceCtorEq, Int.reduceLT, Int.reduceEq, Int.reduceLE, Int.reduceAdd, Int.reduceSub, Int.reduceToNat, Int.reduceNeg, h2, h3, h4, h6, h7]
      refine ⟨L.length - (i + 1), by omega, i + 1, ?_⟩
      repeat' first | assumption | omega | (exact St.Ext.refl _) | (exact List.Perm.refl _) | rfl | (exact .inl trivial) | (exact trivial) | refine And.intro ?_ ?_
  rintro fr S4 ⟨rfl, h2, h3, h4, h6, hn⟩
  have em : moveA L m = (0, insM m L) := by
    unfold moveA
    rw [if_neg n1, if_neg hn]
  obtain ⟨p1, p2⟩ := srt_split (m := m) hS.rises _ rfl
  have hkl : (L.filter fun x => decide (aheadM x m)).length ≤ L.length := List.length_filter_le _ _
  have hins : insM m L = L.filter (fun x => decide (aheadM x m)) ++ m :: L.filter (fun x => !decide (aheadM x m)) := rfl
  generalize hk : (L.filter fun x => decide (aheadM x m)).length = k at *
  rw [← p1, ← p2] at hins
  obtain ⟨u1, hu1, hus1⟩ := hrl.to rmE (k := k) (q := .i64) (i := k) rfl hkl
  replace hu1 : slV 8 _ _ _ _ = _ := hu1
  simp (disch := omega) only [go_sem, ↓reduceIte, Nat.reduceEqDiff, Nat.reduceAdd, Nat.reduceMul, Nat.reduceSub, Nat.reduceLT, Nat.reduceLeDiff, Nat.reduceBEq, reduceCtorEq, Int.reduceLT, Int.reduceEq, Int.reduceLE, Int.reduceAdd, Int.reduceSub, Int.reduceToNat, Int.reduceNeg, h2, h3, h4, h6, cx, hu1]
  have hl1 : (L.take k).length = k := by rw [List.length_take]; omega
  refine wE_app rmE (B := S4.n) (bytes := 72) (xs := []) (ys := L.take k) (OwnT.nil rmE _ _) hus1 rfl rfl (Nat.le_refl _) (by simp; omega) (by simp; omega) fun v5 S5 ho5 hb5 hv5 => ?_
  have g5 : S4.Ext S5 := ⟨hb5.n, fun i hi => hb5.obj i hi (by simp [blkOf])⟩
  rw [List.nil_append] at ho5
  have cy5 := (hy3.ext g5).c
  simp (disch := omega) only [go_sem, ↓reduceIte, Nat.reduceEqDiff, Nat.reduceAdd, Nat.reduceMul, Nat.reduceSub, Nat.reduceLT, Nat.reduceLeDiff, Nat.reduceBEq, reduceCtorEq, Int.reduceLT, Int.reduceEq, Int.reduceLE, Int.reduceAdd, Int.reduceSub, Int.reduceToNat, Int.reduceNeg, h2, h3, h4, h6, cy5, rmC_len]
  refine walloc_sl (rmC m) fun u S6 e6 ou hu hun => ?_
  simp (disch := omega) only [go_sem, ↓reduceIte, Nat.reduceEqDiff, Nat.reduceAdd, Nat.reduceMul, Nat.reduceSub, Nat.reduceLT, Nat.reduceLeDiff, Nat.reduceBEq, reduceCtorEq, Int.reduceLT, Int.reduceEq, Int.reduceLE, Int.reduceAdd, Int.reduceSub, Int.reduceToNat, Int.reduceNeg]
  have hlit : SlT rmE S6 (.slice (some ⟨u, 0, none⟩) 1 1) [m] := ⟨_, 1, rfl, Nat.le_refl _, .inr rfl, fun _ => ⟨u, 0, rfl, hu, by rw [St.loadN_def, ou]; rfl⟩⟩
  refine wE_app rmE (bytes := 72) (xs := L.take k) (ys := [m]) (ho5.ext rmE e6) hlit rfl rfl (Nat.le_trans g5.n e6.n) (by simp only [List.length_singleton]; omega) (by simp only [List.length_singleton]; omega) fun v7 S7 ho7 hb7 hv7 => ?_
  have g7 : S4.Ext S7 := (g5.trans e6).but hb7 fun j hj => (ho5.blk rmE j hj).1
  have cx7 := cells3 ((g7.obj x hx3).trans ox3)
  obtain ⟨u2, hu2, hus2⟩ := (hrl.ext rmE g7).from rmE (l := k) (q := .i64) (i := k) rfl hkl
  replace hu2 : slV 8 _ _ _ _ = _ := hu2
  simp (disch := omega) only [go_sem, ↓reduceIte, Nat.reduceEqDiff, Nat.reduceAdd, Nat.reduceMul, Nat.reduceSub, Nat.reduceLT, Nat.reduceLeDiff, Nat.reduceBEq, reduceCtorEq, Int.reduceLT, Int.reduceEq, Int.reduceLE, Int.reduceAdd, Int.reduceSub, Int.reduceToNat, Int.reduceNeg, h2, h3, h4, h6, cx7, hu2]
  have hl2 : (L.drop k).length ≤ L.length := by rw [List.length_drop]; omega
  refine wE_app rmE (bytes := 72) (xs := L.take k ++ [m]) (ys := L.drop k) ho7 hus2 rfl rfl g7.n (by simp only [List.length_append, List.length_singleton]; omega) (by simp only [List.length_append, List.length_singleton]; omega) fun v8 S8 ho8 hb8 hv8 => ?_
  have g8 : S4.Ext S8 := g7.but hb8 fun j hj => (ho7.blk rmE j hj).1
  have e8 : L.take k ++ [m] ++ L.drop k = insM m L := by rw [hins]; simp
  rw [e8] at ho8
  simp (disch := omega) only [go_sem, ↓reduceIte, Nat.reduceEqDiff, Nat.reduceAdd, Nat.reduceMul, Nat.reduceSub, Nat.reduceLT, Nat.reduceLeDiff, Nat.reduceBEq, reduceCtorEq, Int.reduceLT, Int.reduceEq, Int.reduceLE, Int.reduceAdd, Int.reduceSub, Int.reduceToNat, Int.reduceNeg, h4]
  have hil := insM_len m L
  refine wJ_of (F.osierref10_Done_J (ho8.sl rmE) (by omega)) ?_; rintro _ S9 ⟨⟨sv', tv', rfl, hos, hot⟩, e9⟩
  have g9 := g8.trans e9
  have oz9 := (g9.obj z hz).trans oz
  obtain ⟨c1, k1, hq1⟩ := (ho8.sl rmE).len rmE
  obtain ⟨c2, k2, hq2⟩ := (hos.sl stE).len stE
  obtain ⟨c3, k3, hq3⟩ := (hot.sl dotE).len dotE
  simp (disch := omega) only [go_sem, ↓reduceIte, Nat.reduceEqDiff, Nat.reduceAdd, Nat.reduceMul, Nat.reduceSub, Nat.reduceLT, Nat.reduceLeDiff, Nat.reduceBEq, reduceCtorEq, Int.reduceLT, Int.reduceEq, Int.reduceLE, Int.reduceAdd, Int.reduceSub, Int.reduceToNat, Int.reduceNeg, h4]
  refine wst_w [v8, sv', tv'] oz9 rfl (by rw [hq1, hq2, hq3]; rfl) (by simp) (by simp) rfl fun S10 oz10 b10 hz10 => ?_
  have cz10 := cells3 oz10
  simp (disch := omega) only [go_sem, ↓reduceIte, Nat.reduceEqDiff, Nat.reduceAdd, Nat.reduceMul, Nat.reduceSub, Nat.reduceLT, Nat.reduceLeDiff, Nat.reduceBEq, reduceCtorEq, Int.reduceLT, Int.reduceEq, Int.reduceLE, Int.reduceAdd, Int.reduceSub, Int.reduceToNat, Int.reduceNeg, h4, cz10]
  rw [em]
  refine ⟨⟨_, rfl, fun h => absurd rfl h, fun _ => ⟨v8, sv', tv', rfl, ((ho8.ext rmE e9).but rmE b10 fun j hj => ?_).mono rmE g3.n, (hos.but stE b10 fun j hj => ?_).mono stE (Nat.le_trans g3.n g8.n), (hot.but dotE b10 fun j hj => ?_).mono dotE (Nat.le_trans g3.n g8.n)⟩⟩, (g3.trans g9).but b10 fun j hj => by simp [blkOf] at hj; omega⟩
  · have := (ho8.blk rmE j hj).1; simp [blkOf]; omega
  · have := (hos.blk stE j hj).1; have := g8.n; simp [blkOf]; omega
  · have := (hot.blk dotE j hj).1; have := g8.n; simp [blkOf]; omega
end Go.Osj
