/- The document's tree: made of moves. -/
import Derived.Test.YtdabompehgancaaRA
set_option linter.unusedVariables false
set_option linter.unusedSimpArgs false
set_option maxHeartbeats 2000000
namespace Go.Osj
theorem doneR_len (L : List Mv) : (doneR L).1.length ≤ L.length ∧ (doneR L).2.length ≤ L.length := by
  generalize hn : L.length = n
  induction n generalizing L with
  | zero =>
    obtain rfl := List.eq_nil_of_length_eq_zero hn
    simp [doneR]
  | succ n ih =>
    have hne : L ≠ [] := by rintro rfl; simp at hn
    obtain ⟨L', m, rfl⟩ : ∃ L' m, L = L' ++ [m] := ⟨L.dropLast, L.getLast hne, (List.dropLast_concat_getLast hne).symm⟩
    obtain ⟨h1, h2⟩ := ih L' (by simpa using hn)
    rw [doneR_snoc, stepR]
    split
    · simp only [putS, List.length_append, List.length_singleton]
      exact ⟨Nat.succ_le_succ (Nat.le_trans (List.length_filter_le _ _) h1), Nat.succ_le_succ h2⟩
    · omega
theorem F.osierref10_Done_J {S : St} {lv : Value} {L : List Mv} (hl : SlT rmE S lv L) (hL : L.length < 10000) : J PR F.osierref10_Done [lv] S fun v S' => (∃ sv tv, v = .agg #[lv, sv, tv] ∧ OwnT stE S.n S' sv (doneR L).1 ∧ OwnT dotE S.n S' tv (doneR L).2) ∧ S.Ext S' := by
  obtain ⟨base, cap, rfl⟩ := hl.len rmE
  refine J_by PR.mixed F.osierref10_Done.ok (by simp) ?_
  simp (disch := omega) only [go_sem, ↓reduceIte, Nat.reduceEqDiff, Nat.reduceAdd, Nat.reduceMul, Nat.reduceSub, Nat.reduceLT, Nat.reduceLeDiff, Nat.reduceBEq, reduceCtorEq, Int.reduceLT, Int.reduceEq, Int.reduceLE, Int.reduceAdd, Int.reduceSub, Int.reduceToNat, Int.reduceNeg]
  refine walloc_x [nilS, nilS, nilS] fun y S1 e1 oy hy hyn => ?_
  simp (disch := omega) only [go_sem, ↓reduceIte, Nat.reduceEqDiff, Nat.reduceAdd, Nat.reduceMul, Nat.reduceSub, Nat.reduceLT, Nat.reduceLeDiff, Nat.reduceBEq, reduceCtorEq, Int.reduceLT, Int.reduceEq, Int.reduceLE, Int.reduceAdd, Int.reduceSub, Int.reduceToNat, Int.reduceNeg]
  refine walloc_x [nilS, nilS, nilS] fun x S2 e2 ox hx hxn => ?_
  simp (disch := omega) only [go_sem, ↓reduceIte, Nat.reduceEqDiff, Nat.reduceAdd, Nat.reduceMul, Nat.reduceSub, Nat.reduceLT, Nat.reduceLeDiff, Nat.reduceBEq, reduceCtorEq, Int.reduceLT, Int.reduceEq, Int.reduceLE, Int.reduceAdd, Int.reduceSub, Int.reduceToNat, Int.reduceNeg]
  refine wst_w [.slice base L.length cap, nilS, nilS] ox rfl rfl (by simp) (by simp) rfl fun S3 ox3 b3 hx3 => ?_
  have g3 : S.Ext S3 := (e1.trans e2).but b3 fun j hj => by simp [blkOf] at hj; have := e1.n; omega
  have hxy : x ≠ y := by omega
  have hy3 : y < S3.n := Nat.lt_of_lt_of_le hy (Nat.le_trans e2.n b3.n)
  have oy3 : S3.obj y = some (.cells true 3 [nilS, nilS, nilS]) := (b3.obj y (Nat.lt_of_lt_of_le hy e2.n) (by simp [blkOf]; exact hxy)).trans ((e2.obj y hy).trans oy)
  simp (disch := omega) only [go_sem, ↓reduceIte, Nat.reduceEqDiff, Nat.reduceAdd, Nat.reduceMul, Nat.reduceSub, Nat.reduceLT, Nat.reduceLeDiff, Nat.reduceBEq, reduceCtorEq, Int.reduceLT, Int.reduceEq, Int.reduceLE, Int.reduceAdd, Int.reduceSub, Int.reduceToNat, Int.reduceNeg]
  refine wC_at 0 (fun fr S4 => ∃ sv tv : Value, fr 2 = ptrV y ∧ fr 3 = ptrV x ∧ S4.obj x = some (.cells true 3 [.slice base L.length cap, sv, tv]) ∧ OwnT stE S3.n S4 sv (doneR L).1 ∧ OwnT dotE S3.n S4 tv (doneR L).2 ∧ St.But (ptrV x) S3 S4) ?_ ?_
  · refine wC_loop (fun n fr S4 => ∃ (i : Nat) (sv tv : Value), n = L.length - i ∧ i ≤ L.length ∧ fr 0 = .slice base L.length cap ∧ fr 2 = ptrV y ∧ fr 3 = ptrV x ∧ fr 4 = .int .i64 (i : Nat) ∧ S4.obj x = some (.cells true 3 [.slice base L.length cap, sv, tv]) ∧
        OwnT stE S3.n S4 sv (doneR (L.take i)).1 ∧ OwnT dotE S3.n S4 tv (doneR (L.take i)).2 ∧ (∀ j, blkOf sv = some j → blkOf tv ≠ some j) ∧ St.But (ptrV x) S3 S4) L.length
      ⟨0, nilS, nilS, by
        have k0 : OwnT stE S3.n S3 nilS (doneR (L.take 0)).1 := OwnT.nil stE _ _
        have k1 : OwnT dotE S3.n S3 nilS (doneR (L.take 0)).2 := OwnT.nil dotE _ _
        have k2 : ∀ j, blkOf nilS = some j → blkOf nilS ≠ some j := by simp [blkOf]
        have k3 : St.But (ptrV x) S3 S3 := ⟨Nat.le_refl _, fun _ _ _ => rfl⟩
        simp (disch := omega) only [go_sem, ↓reduceIte, Nat.reduceEqDiff, Nat.reduceAdd, Nat.reduceMul, Nat.reduceSub, Nat.reduceLT, Nat.reduceLeDiff, Nat.reduceBEq, reduceCtorEq, Int.reduceLT, Int.reduceEq, Int.reduceLE, Int.reduceAdd, Int.reduceSub, Int.reduceToNat, Int.reduceNeg]
        repeat' first | assumption | omega | (exact St.Ext.refl _) | (exact List.Perm.refl _) | rfl | (exact .inl trivial) | (exact trivial) | refine And.intro ?_ ?_
        ⟩ ?_
    rintro n fr S4 ⟨i, sv, tv, rfl, hi, h0, h2, h3, h4, ox4, hos, hot, hne, b4⟩
    have g4 : S.Ext S4 := g3.but b4 fun j hj => by simp [blkOf] at hj; have := e1.n; omega
    simp (disch := omega) only [go_sem, ↓reduceIte, Nat.reduceEqDiff, Nat.reduceAdd, Nat.reduceMul, Nat.reduceSub, Nat.reduceLT, Nat.reduceLeDiff, Nat.reduceBEq, reduceCtorEq, Int.reduceLT, Int.reduceEq, Int.reduceLE, Int.reduceAdd, Int.reduceSub, Int.reduceToNat, Int.reduceNeg, F.osierref10_Done.l0, h0, h2, h3, h4]
    refine wcond_dec (fun hlt => ?_) (fun hge => ?_)
    rotate_left
    · simp (disch := omega) only [go_sem, ↓reduceIte, Nat.reduceEqDiff, Nat.reduceAdd, Nat.reduceMul, Nat.reduceSub, Nat.reduceLT, Nat.reduceLeDiff, Nat.reduceBEq, reduceCtorEq, Int.reduceLT, Int.reduceEq, Int.reduceLE, Int.reduceAdd, Int.reduceSub, Int.reduceToNat, Int.reduceNeg, h2, h3]
      rw [List.take_of_length_le (by omega)] at hos hot
      refine ⟨sv, tv, ?_⟩
      repeat' first | assumption | omega | (exact St.Ext.refl _) | (exact List.Perm.refl _) | rfl | (exact .inl trivial) | (exact trivial) | refine And.intro ?_ ?_
    have hli : i < L.length := by omega
    have c1 : (0 : Int) ≤ (i : Int) ∧ (i : Int) < (L.length : Int) := by omega
    have cx4 := cells3 ox4
    have hrl := hl.ext rmE g4
    obtain ⟨b0, o0, rfl, hb, ⟨x1, x2, x3, x4, x5⟩, x6⟩ := hrl.rm hli
    have hdl := doneR_len (L.take i)
    have hti : (L.take i).length ≤ i := by rw [List.length_take]; omega
    have hx4 : x < S4.n := Nat.lt_of_lt_of_le hx3 b4.n
    have htk : doneR (L.take (i + 1)) = stepR (doneR (L.take i)) L[i] := by rw [take_snoc (List.getElem?_eq_getElem hli), doneR_snoc]
    simp (disch := omega) only [go_sem, ↓reduceIte, Nat.reduceEqDiff, Nat.reduceAdd, Nat.reduceMul, Nat.reduceSub, Nat.reduceLT, Nat.reduceLeDiff, Nat.reduceBEq, reduceCtorEq, Int.reduceLT, Int.reduceEq, Int.reduceLE, Int.reduceAdd, Int.reduceSub, Int.reduceToNat, Int.reduceNeg, h0, h2, h3, h4, c1, cx4, x6]
    refine wJ_of (F.osierref10_Tree_takes_J (m := L[i]) (hos.sl stE) (doneR_ok _) (by omega)) ?_; rintro _ _ ⟨rfl, rfl⟩
    simp (disch := omega) only [go_sem, ↓reduceIte, Nat.reduceEqDiff, Nat.reduceAdd, Nat.reduceMul, Nat.reduceSub, Nat.reduceLT, Nat.reduceLeDiff, Nat.reduceBEq, reduceCtorEq, Int.reduceLT, Int.reduceEq, Int.reduceLE, Int.reduceAdd, Int.reduceSub, Int.reduceToNat, Int.reduceNeg]
    refine wcond_dec (fun ht => ?_) (fun ht => ?_)
    · rw [stepR, if_pos ht] at htk
      simp (disch := omega) only [go_sem, ↓reduceIte, Nat.reduceEqDiff, Nat.reduceAdd, Nat.reduceMul, Nat.reduceSub, Nat.reduceLT, Nat.reduceLeDiff, Nat.reduceBEq, reduceCtorEq, Int.reduceLT, Int.reduceEq, Int.reduceLE, Int.reduceAdd, Int.reduceSub, Int.reduceToNat, Int.reduceNeg, h0, h2, h3, h4, c1, cx4, x1]
      refine walloc_sl [.int .i64 L[i].id.1, .int .i64 L[i].id.2] fun u S5 e5 ou hu hun => ?_
      have cx5 := cells3 ((e5.obj x hx4).trans ox4)
      simp (disch := omega) only [go_sem, ↓reduceIte, Nat.reduceEqDiff, Nat.reduceAdd, Nat.reduceMul, Nat.reduceSub, Nat.reduceLT, Nat.reduceLeDiff, Nat.reduceBEq, reduceCtorEq, Int.reduceLT, Int.reduceEq, Int.reduceLE, Int.reduceAdd, Int.reduceSub, Int.reduceToNat, Int.reduceNeg, h3, cx5]
      have hlit : SlT dotE S5 (.slice (some ⟨u, 0, none⟩) 1 1) [L[i].id] := ⟨_, 1, rfl, Nat.le_refl _, .inr rfl, fun _ => ⟨u, 0, rfl, hu, by rw [St.loadN_def, ou]; rfl⟩⟩
      refine wE_app dotE (bytes := 16) (xs := (doneR (L.take i)).2) (ys := [L[i].id]) (hot.ext dotE e5) hlit rfl rfl (Nat.le_trans b4.n e5.n) (by simp only [List.length_singleton]; omega) (by simp only [List.length_singleton]; omega) fun v6 S6 ho6 hb6 hv6 => ?_
      have tvb : ∀ j, blkOf tv = some j → S3.n ≤ j ∧ j < S4.n := fun j hj => hot.blk dotE j hj
      have svb : ∀ j, blkOf sv = some j → S3.n ≤ j ∧ j < S4.n := fun j hj => hos.blk stE j hj
      have xtv : blkOf tv ≠ some x := fun h => by have := (tvb x h).1; omega
      have ox6 : S6.obj x = some (.cells true 3 [.slice (some ⟨b0, o0, none⟩) L.length cap, sv, tv]) := (hb6.obj x (Nat.lt_of_lt_of_le hx4 e5.n) xtv).trans ((e5.obj x hx4).trans ox4)
      have hos6 : OwnT stE S3.n S6 sv (doneR (L.take i)).1 := (hos.ext stE e5).but stE hb6 fun j hj => hne j hj
      have v6b : ∀ j, blkOf v6 = some j → blkOf sv ≠ some j ∧ j ≠ x := fun j hj => by
        rcases hv6 with h | ⟨b', h, hb'⟩
        · rw [h] at hj
          exact ⟨fun h' => hne j h' hj, by have := (tvb j hj).1; omega⟩
        · rw [h] at hj
          injection hj with hj
          have := e5.n
          exact ⟨fun h' => by have := (svb j h').2; omega, by omega⟩
      have b6' : St.But (ptrV x) S3 S6 := ⟨Nat.le_trans b4.n (Nat.le_trans e5.n hb6.n), fun k hk hkx => by
        have h4n : k < S4.n := Nat.lt_of_lt_of_le hk b4.n
        rw [hb6.obj k (Nat.lt_of_lt_of_le h4n e5.n) (fun e => by have := (tvb k e).1; omega), e5.obj k h4n]
        exact b4.obj k hk hkx⟩
      obtain ⟨c6, k6, hv6e⟩ := (ho6.sl dotE).len dotE
      simp (disch := omega) only [go_sem, ↓reduceIte, Nat.reduceEqDiff, Nat.reduceAdd, Nat.reduceMul, Nat.reduceSub, Nat.reduceLT, Nat.reduceLeDiff, Nat.reduceBEq, reduceCtorEq, Int.reduceLT, Int.reduceEq, Int.reduceLE, Int.reduceAdd, Int.reduceSub, Int.reduceToNat, Int.reduceNeg, h3]
      refine wst_w [.slice (some ⟨b0, o0, none⟩) L.length cap, sv, v6] ox6 (by rw [hv6e]; rfl) (by rw [hv6e]; rfl) (by simp) (by simp) (by rw [hv6e]; rfl) fun S7 ox7 hb7 hx7 => ?_
      have b7' : St.But (ptrV x) S3 S7 := ⟨Nat.le_trans b6'.n hb7.n, fun k hk hkx => (hb7.obj k (Nat.lt_of_lt_of_le hk b6'.n) hkx).trans (b6'.obj k hk hkx)⟩
      have g7 : S.Ext S7 := g3.but b7' fun j hj => by simp [blkOf] at hj; have := e1.n; omega
      have hos7 : OwnT stE S3.n S7 sv (doneR (L.take i)).1 := hos6.but stE hb7 fun j hj => by have := (svb j hj).1; simp [blkOf]; omega
      have hot7 : OwnT dotE S3.n S7 v6 ((doneR (L.take i)).2 ++ [L[i].id]) := ho6.but dotE hb7 fun j hj => by have := (v6b j hj).2; simp [blkOf]; omega
      have cx7 := cells3 ox7
      obtain ⟨b0', o0', hbb, -, ⟨y1, y2, y3, y4, y5⟩, -⟩ := (hl.ext rmE g7).rm hli
      injection hbb with hbb
      injection hbb with hb1 hb2
      subst hb1 hb2
      simp (disch := omega) only [go_sem, ↓reduceIte, Nat.reduceEqDiff, Nat.reduceAdd, Nat.reduceMul, Nat.reduceSub, Nat.reduceLT, Nat.reduceLeDiff, Nat.reduceBEq, reduceCtorEq, Int.reduceLT, Int.reduceEq, Int.reduceLE, Int.reduceAdd, Int.reduceSub, Int.reduceToNat, Int.reduceNeg, h0, h2, h3, h4, c1, cx7, y3, y4, y5]
      refine wJ_of (F.osierref10_put_J (p := (L[i].block, (L[i].parent, L[i].key))) (hos7.sl stE) (by omega)) ?_; rintro v8 S8 ⟨ho8, e8⟩
      obtain ⟨c8, k8, hv8e⟩ := (ho8.sl stE).len stE
      simp (disch := omega) only [go_sem, ↓reduceIte, Nat.reduceEqDiff, Nat.reduceAdd, Nat.reduceMul, Nat.reduceSub, Nat.reduceLT, Nat.reduceLeDiff, Nat.reduceBEq, reduceCtorEq, Int.reduceLT, Int.reduceEq, Int.reduceLE, Int.reduceAdd, Int.reduceSub, Int.reduceToNat, Int.reduceNeg, h3]
      have ox8 := (e8.obj x hx7).trans ox7
      refine wst_w [.slice (some ⟨b0, o0, none⟩) L.length cap, v8, v6] ox8 (by rw [hv8e]; rfl) (by rw [hv8e]; rfl) (by simp) (by simp) (by rw [hv8e]; rfl) fun S9 ox9 hb9 hx9 => ?_
      have b9' : St.But (ptrV x) S3 S9 := ⟨Nat.le_trans b7'.n (Nat.le_trans e8.n hb9.n), fun k hk hkx => by
        have h7n : k < S7.n := Nat.lt_of_lt_of_le hk b7'.n
        rw [hb9.obj k (Nat.lt_of_lt_of_le h7n e8.n) hkx, e8.obj k h7n]
        exact b7'.obj k hk hkx⟩
      have hos9 : OwnT stE S3.n S9 v8 (putS L[i].block (L[i].parent, L[i].key) (doneR (L.take i)).1) := (ho8.mono stE b7'.n).but stE hb9 fun j hj => by have := (ho8.blk stE j hj).1; simp [blkOf]; omega
      have hot9 : OwnT dotE S3.n S9 v6 ((doneR (L.take i)).2 ++ [L[i].id]) := (hot7.ext dotE e8).but dotE hb9 fun j hj => by have := (v6b j hj).2; simp [blkOf]; omega
      have hne9 : ∀ j, blkOf v8 = some j → blkOf v6 ≠ some j := fun j hj hj6 => by
        have h1 := (ho8.blk stE j hj).1
        have h2 := (hot7.blk dotE j hj6).2
        omega
      simp (disch := omega) only [go_sem, ↓reduceIte, Nat.reduceEqDiff, Nat.reduceAdd, Nat.reduceMul, Nat.reduceSub, Nat.reduceLT, Nat.reduceLeDiff, Nat.reduceBEq, reduceCtorEq, Int.reduceLT, Int.reduceEq, Int.reduceLE, Int.reduceAdd, Int.reduceSub, Int.reduceToNat, Int.reduceNeg, h0, h2, h3, h4]
      refine ⟨L.length - (i + 1), by omega, i + 1, v8, v6, ?_⟩
      rw [htk]
      repeat' first | assumption | omega | (exact St.Ext.refl _) | (exact List.Perm.refl _) | rfl | (exact .inl trivial) | (exact trivial) | refine And.intro ?_ ?_
    · rw [stepR, if_neg ht] at htk
      rw [← htk] at hos hot
      simp (disch := omega) only [go_sem, ↓reduceIte, Nat.reduceEqDiff, Nat.reduceAdd, Nat.reduceMul, Nat.reduceSub, Nat.reduceLT, Nat.reduceLeDiff, Nat.reduceBEq, reduceCtorEq, Int.reduceLT, Int.reduceEq, Int.reduceLE, Int.reduceAdd, Int.reduceSub, Int.reduceToNat, Int.reduceNeg, h0, h2, h3, h4]
      refine ⟨L.length - (i + 1), by omega, i + 1, sv, tv, ?_⟩
      repeat' first | assumption | omega | (exact St.Ext.refl _) | (exact List.Perm.refl _) | rfl | (exact .inl trivial) | (exact trivial) | refine And.intro ?_ ?_
  rintro fr S4 ⟨sv, tv, h2, h3, ox4, hos, hot, b4⟩
  have cx4 := cells3 ox4
  have oy4 := (b4.obj y hy3 (by simp [blkOf]; exact hxy)).trans oy3
  obtain ⟨c1, k1, hs1⟩ := (hos.sl stE).len stE
  obtain ⟨c2, k2, hs2⟩ := (hot.sl dotE).len dotE
  simp (disch := omega) only [go_sem, ↓reduceIte, Nat.reduceEqDiff, Nat.reduceAdd, Nat.reduceMul, Nat.reduceSub, Nat.reduceLT, Nat.reduceLeDiff, Nat.reduceBEq, reduceCtorEq, Int.reduceLT, Int.reduceEq, Int.reduceLE, Int.reduceAdd, Int.reduceSub, Int.reduceToNat, Int.reduceNeg, h2, h3, cx4]
  refine wst_w [.slice base L.length cap, sv, tv] oy4 rfl (by rw [hs1, hs2]; rfl) (by simp) (by simp) rfl fun S5 oy5 b5 hy5 => ?_
  have cy5 := cells3 oy5
  simp (disch := omega) only [go_sem, ↓reduceIte, Nat.reduceEqDiff, Nat.reduceAdd, Nat.reduceMul, Nat.reduceSub, Nat.reduceLT, Nat.reduceLeDiff, Nat.reduceBEq, reduceCtorEq, Int.reduceLT, Int.reduceEq, Int.reduceLE, Int.reduceAdd, Int.reduceSub, Int.reduceToNat, Int.reduceNeg, h2, cy5]
  refine ⟨⟨sv, tv, rfl, (hos.but stE b5 fun j hj => ?_).mono stE g3.n, (hot.but dotE b5 fun j hj => ?_).mono dotE g3.n⟩, (g3.but b4 fun j hj => by simp [blkOf] at hj; have := e1.n; omega).but b5 fun j hj => by simp [blkOf] at hj; omega⟩
  · have := (hos.blk stE j hj).1; simp [blkOf]; omega
  · have := (hot.blk dotE j hj).1; simp [blkOf]; omega
theorem F.osierref10_Tree_Blocks_J {S : St} {lv sv tv : Value} {sp : Sp} (hs : SlT stE S sv sp) (hL : sp.length < 10000) : J PR F.osierref10_Tree_Blocks [.agg #[lv, sv, tv]] S fun v S' => OwnT dotE S.n S' v (risen (sp.map Prod.fst)) ∧ S.Ext S' := by
  obtain ⟨base, cap, rfl⟩ := hs.len stE
  refine J_by PR.mixed F.osierref10_Tree_Blocks.ok (by simp) ?_
  simp (disch := omega) only [go_sem, ↓reduceIte, Nat.reduceEqDiff, Nat.reduceAdd, Nat.reduceMul, Nat.reduceSub, Nat.reduceLT, Nat.reduceLeDiff, Nat.reduceBEq, reduceCtorEq, Int.reduceLT, Int.reduceEq, Int.reduceLE, Int.reduceAdd, Int.reduceSub, Int.reduceToNat, Int.reduceNeg]
  refine walloc_x [lv, .slice base sp.length cap, tv] fun x S1 e1 ox hx hxn => ?_
  simp (disch := omega) only [go_sem, ↓reduceIte, Nat.reduceEqDiff, Nat.reduceAdd, Nat.reduceMul, Nat.reduceSub, Nat.reduceLT, Nat.reduceLeDiff, Nat.reduceBEq, reduceCtorEq, Int.reduceLT, Int.reduceEq, Int.reduceLE, Int.reduceAdd, Int.reduceSub, Int.reduceToNat, Int.reduceNeg]
  refine wC_loop (fun n fr S2 => ∃ (i : Nat) (v : Value), n = sp.length - i ∧ i ≤ sp.length ∧ fr 1 = ptrV x ∧ fr 3 = v ∧ fr 4 = .int .i64 (i : Nat) ∧ OwnT dotE S1.n S2 v (risen ((sp.map Prod.fst).take i)) ∧ S1.Ext S2) sp.length
    ⟨0, nilS, by
      have k0 : OwnT dotE S1.n S1 nilS (risen ((sp.map Prod.fst).take 0)) := OwnT.nil dotE _ _
      simp (disch := omega) only [go_sem, ↓reduceIte, Nat.reduceEqDiff, Nat.reduceAdd, Nat.reduceMul, Nat.reduceSub, Nat.reduceLT, Nat.reduceLeDiff, Nat.reduceBEq, reduceCtorEq, Int.reduceLT, Int.reduceEq, Int.reduceLE, Int.reduceAdd, Int.reduceSub, Int.reduceToNat, Int.reduceNeg]
      repeat' first | assumption | omega | (exact St.Ext.refl _) | (exact List.Perm.refl _) | rfl | (exact .inl trivial) | (exact trivial) | refine And.intro ?_ ?_
      ⟩ ?_
  rintro n fr S2 ⟨i, v, rfl, hi, h1, h3, h4, ho, g2⟩
  have cx := cells3 ((g2.obj x hx).trans ox)
  simp (disch := omega) only [go_sem, ↓reduceIte, Nat.reduceEqDiff, Nat.reduceAdd, Nat.reduceMul, Nat.reduceSub, Nat.reduceLT, Nat.reduceLeDiff, Nat.reduceBEq, reduceCtorEq, Int.reduceLT, Int.reduceEq, Int.reduceLE, Int.reduceAdd, Int.reduceSub, Int.reduceToNat, Int.reduceNeg, F.osierref10_Tree_Blocks.l0, h1, h3, h4, cx]
  refine wcond_dec (fun hlt => ?_) (fun hge => ?_)
  · have hli : i < sp.length := by omega
    have hli' : i < (sp.map Prod.fst).length := by simpa using hli
    have c1 : (0 : Int) ≤ (i : Int) ∧ (i : Int) < (sp.length : Int) := by omega
    obtain ⟨b0, o0, rfl, hb, ⟨x1, -⟩, -⟩ := (hs.ext stE (e1.trans g2)).stt hli
    have hrl := risen_len ((sp.map Prod.fst).take i)
    simp at hrl
    have hts := risen_take_succ hli'
    simp only [List.getElem_map] at hts
    simp (disch := omega) only [go_sem, ↓reduceIte, Nat.reduceEqDiff, Nat.reduceAdd, Nat.reduceMul, Nat.reduceSub, Nat.reduceLT, Nat.reduceLeDiff, Nat.reduceBEq, reduceCtorEq, Int.reduceLT, Int.reduceEq, Int.reduceLE, Int.reduceAdd, Int.reduceSub, Int.reduceToNat, Int.reduceNeg, h1, h3, h4, c1, cx, x1]
    refine wJ_of (F.osierref03_Put1.J (d := sp[i].1) ho g2.n (by omega)) ?_; rintro v3 S3 ⟨ho3, e3⟩
    rw [← hts] at ho3
    have g3 := g2.trans e3
    simp (disch := omega) only [go_sem, ↓reduceIte, Nat.reduceEqDiff, Nat.reduceAdd, Nat.reduceMul, Nat.reduceSub, Nat.reduceLT, Nat.reduceLeDiff, Nat.reduceBEq, reduceCtorEq, Int.reduceLT, Int.reduceEq, Int.reduceLE, Int.reduceAdd, Int.reduceSub, Int.reduceToNat, Int.reduceNeg, h1, h4]
    refine ⟨sp.length - (i + 1), by omega, i + 1, v3, ?_⟩
    repeat' first | assumption | omega | (exact St.Ext.refl _) | (exact List.Perm.refl _) | rfl | (exact .inl trivial) | (exact trivial) | refine And.intro ?_ ?_
  · simp (disch := omega) only [go_sem, ↓reduceIte, Nat.reduceEqDiff, Nat.reduceAdd, Nat.reduceMul, Nat.reduceSub, Nat.reduceLT, Nat.reduceLeDiff, Nat.reduceBEq, reduceCtorEq, Int.reduceLT, Int.reduceEq, Int.reduceLE, Int.reduceAdd, Int.reduceSub, Int.reduceToNat, Int.reduceNeg, h3]
    rw [List.take_of_length_le (by simp; omega)] at ho
    exact ⟨ho.mono dotE e1.n, e1.trans g2⟩
end Go.Osj
