/- The law TreeStories. -/
import Derived.Test.YtdabompehgancaaGH
set_option linter.unusedVariables false
set_option linter.unusedSimpArgs false
set_option maxHeartbeats 2000000
namespace Go.Osj
theorem F.osierlaw10_TreeStories.J {S : St} {l : Value} {xs : List Mk} (hl : SlT mkE S l xs) (hX : xs.length < 9223372036854775808) (hI : ∀ m ∈ xs, mkI m) :
    J PR F.osierlaw10_TreeStories [l] S fun v _ => v = .bool true := by
  refine J_by PR.mixed F.osierlaw10_TreeStories.ok (by simp) ?_
  have q1 : eqV [.i .i64, .i .i64] true (dotV (0, 0)) (dotV (0, 0)) = some true := eqV_d _ _ rfl
  have q2 : ((⟨#[]⟩ : ByteArray) == (⟨#[]⟩ : ByteArray)) = true := by rw [ba_beq]; rfl
  simp (disch := omega) only [go_sem, ↓reduceIte, Nat.reduceEqDiff, Nat.reduceAdd, Nat.reduceMul, Nat.reduceSub, Nat.reduceLT, Nat.reduceLeDiff, Nat.reduceBEq, reduceCtorEq, Int.reduceLT, Int.reduceEq, Int.reduceLE, Int.reduceAdd, Int.reduceSub, Int.reduceToNat, Int.reduceNeg]
  refine wJ_of F.osierlaw10_awake_J ?_; rintro _ _ ⟨rfl, rfl⟩
  simp (disch := omega) only [go_sem, ↓reduceIte, Nat.reduceEqDiff, Nat.reduceAdd, Nat.reduceMul, Nat.reduceSub, Nat.reduceLT, Nat.reduceLeDiff, Nat.reduceBEq, reduceCtorEq, Int.reduceLT, Int.reduceEq, Int.reduceLE, Int.reduceAdd, Int.reduceSub, Int.reduceToNat, Int.reduceNeg]
  refine wJ_of F.api_Root_J ?_; rintro _ _ ⟨rfl, rfl⟩
  simp (disch := omega) only [go_sem, ↓reduceIte, Nat.reduceEqDiff, Nat.reduceAdd, Nat.reduceMul, Nat.reduceSub, Nat.reduceLT, Nat.reduceLeDiff, Nat.reduceBEq, reduceCtorEq, Int.reduceLT, Int.reduceEq, Int.reduceLE, Int.reduceAdd, Int.reduceSub, Int.reduceToNat, Int.reduceNeg]
  refine wJ_of (F.movetree_Tree_Parent_nil (d := (0, -1))) ?_; rintro _ _ ⟨rfl, rfl⟩
  simp (disch := omega) only [go_sem, ↓reduceIte, Nat.reduceEqDiff, Nat.reduceAdd, Nat.reduceMul, Nat.reduceSub, Nat.reduceLT, Nat.reduceLeDiff, Nat.reduceBEq, reduceCtorEq, Int.reduceLT, Int.reduceEq, Int.reduceLE, Int.reduceAdd, Int.reduceSub, Int.reduceToNat, Int.reduceNeg]
  refine walloc_x [.int .i64 0, .int .i64 0] fun y S1 e1 oy hy hyn => ?_
  simp (disch := omega) only [go_sem, ↓reduceIte, Nat.reduceEqDiff, Nat.reduceAdd, Nat.reduceMul, Nat.reduceSub, Nat.reduceLT, Nat.reduceLeDiff, Nat.reduceBEq, reduceCtorEq, Int.reduceLT, Int.reduceEq, Int.reduceLE, Int.reduceAdd, Int.reduceSub, Int.reduceToNat, Int.reduceNeg]
  refine wst_w [.int .i64 0, .int .i64 0] oy rfl rfl (by simp) (by simp) rfl fun S2 oy2 b2 hy2 => ?_
  have g2 : S.Ext S2 := e1.but b2 fun j hj => by simp [blkOf] at hj; omega
  have cy := cells2 oy2
  simp (disch := omega) only [go_sem, ↓reduceIte, Nat.reduceEqDiff, Nat.reduceAdd, Nat.reduceMul, Nat.reduceSub, Nat.reduceLT, Nat.reduceLeDiff, Nat.reduceBEq, reduceCtorEq, Int.reduceLT, Int.reduceEq, Int.reduceLE, Int.reduceAdd, Int.reduceSub, Int.reduceToNat, Int.reduceNeg]
  refine wJ_of F.api_Root_J ?_; rintro _ _ ⟨rfl, rfl⟩
  simp (disch := omega) only [go_sem, ↓reduceIte, Nat.reduceEqDiff, Nat.reduceAdd, Nat.reduceMul, Nat.reduceSub, Nat.reduceLT, Nat.reduceLeDiff, Nat.reduceBEq, reduceCtorEq, Int.reduceLT, Int.reduceEq, Int.reduceLE, Int.reduceAdd, Int.reduceSub, Int.reduceToNat, Int.reduceNeg]
  refine wJ_of (F.movetree_Tree_Move_nil (i := (1, 1)) (b := (1, 1)) (p := (0, -1))) ?_; rintro _ _ ⟨rfl, rfl⟩
  simp (disch := omega) only [go_sem, ↓reduceIte, Nat.reduceEqDiff, Nat.reduceAdd, Nat.reduceMul, Nat.reduceSub, Nat.reduceLT, Nat.reduceLeDiff, Nat.reduceBEq, reduceCtorEq, Int.reduceLT, Int.reduceEq, Int.reduceLE, Int.reduceAdd, Int.reduceSub, Int.reduceToNat, Int.reduceNeg]
  refine wJ_of F.api_Root_J ?_; rintro _ _ ⟨rfl, rfl⟩
  simp (disch := omega) only [go_sem, ↓reduceIte, Nat.reduceEqDiff, Nat.reduceAdd, Nat.reduceMul, Nat.reduceSub, Nat.reduceLT, Nat.reduceLeDiff, Nat.reduceBEq, reduceCtorEq, Int.reduceLT, Int.reduceEq, Int.reduceLE, Int.reduceAdd, Int.reduceSub, Int.reduceToNat, Int.reduceNeg]
  refine wJ_of (F.movetree_Tree_There_nil (d := (0, -1))) ?_; rintro _ _ ⟨rfl, rfl⟩
  simp (disch := omega) only [go_sem, ↓reduceIte, Nat.reduceEqDiff, Nat.reduceAdd, Nat.reduceMul, Nat.reduceSub, Nat.reduceLT, Nat.reduceLeDiff, Nat.reduceBEq, reduceCtorEq, Int.reduceLT, Int.reduceEq, Int.reduceLE, Int.reduceAdd, Int.reduceSub, Int.reduceToNat, Int.reduceNeg, cy, q1, q2]
  refine wJ_of F.api_Root_J ?_; rintro _ _ ⟨rfl, rfl⟩
  simp (disch := omega) only [go_sem, ↓reduceIte, Nat.reduceEqDiff, Nat.reduceAdd, Nat.reduceMul, Nat.reduceSub, Nat.reduceLT, Nat.reduceLeDiff, Nat.reduceBEq, reduceCtorEq, Int.reduceLT, Int.reduceEq, Int.reduceLE, Int.reduceAdd, Int.reduceSub, Int.reduceToNat, Int.reduceNeg]
  refine wJ_of (F.movetree_Tree_Kids_nil (d := (0, -1))) ?_; rintro _ _ ⟨rfl, rfl⟩
  simp (disch := omega) only [go_sem, ↓reduceIte, Nat.reduceEqDiff, Nat.reduceAdd, Nat.reduceMul, Nat.reduceSub, Nat.reduceLT, Nat.reduceLeDiff, Nat.reduceBEq, reduceCtorEq, Int.reduceLT, Int.reduceEq, Int.reduceLE, Int.reduceAdd, Int.reduceSub, Int.reduceToNat, Int.reduceNeg]
  refine wJ_of F.api_Root_J ?_; rintro _ _ ⟨rfl, rfl⟩
  simp (disch := omega) only [go_sem, ↓reduceIte, Nat.reduceEqDiff, Nat.reduceAdd, Nat.reduceMul, Nat.reduceSub, Nat.reduceLT, Nat.reduceLeDiff, Nat.reduceBEq, reduceCtorEq, Int.reduceLT, Int.reduceEq, Int.reduceLE, Int.reduceAdd, Int.reduceSub, Int.reduceToNat, Int.reduceNeg]
  refine wJ_of (F.movetree_Tree_Path_nil (d := (0, -1))) ?_; rintro _ _ ⟨rfl, rfl⟩
  simp (disch := omega) only [go_sem, ↓reduceIte, Nat.reduceEqDiff, Nat.reduceAdd, Nat.reduceMul, Nat.reduceSub, Nat.reduceLT, Nat.reduceLeDiff, Nat.reduceBEq, reduceCtorEq, Int.reduceLT, Int.reduceEq, Int.reduceLE, Int.reduceAdd, Int.reduceSub, Int.reduceToNat, Int.reduceNeg, cy]
  refine wJ_of (F.movetree_Tree_Took_nil (d := (0, 0))) ?_; rintro _ _ ⟨rfl, rfl⟩
  simp (disch := omega) only [go_sem, ↓reduceIte, Nat.reduceEqDiff, Nat.reduceAdd, Nat.reduceMul, Nat.reduceSub, Nat.reduceLT, Nat.reduceLeDiff, Nat.reduceBEq, reduceCtorEq, Int.reduceLT, Int.reduceEq, Int.reduceLE, Int.reduceAdd, Int.reduceSub, Int.reduceToNat, Int.reduceNeg]
  refine wJ_of F.movetree_Tree_Blocks_nil ?_; rintro _ _ ⟨rfl, rfl⟩
  simp (disch := omega) only [go_sem, ↓reduceIte, Nat.reduceEqDiff, Nat.reduceAdd, Nat.reduceMul, Nat.reduceSub, Nat.reduceLT, Nat.reduceLeDiff, Nat.reduceBEq, reduceCtorEq, Int.reduceLT, Int.reduceEq, Int.reduceLE, Int.reduceAdd, Int.reduceSub, Int.reduceToNat, Int.reduceNeg]
  refine wJ_of (F.osierref08_Story_J (hl.ext mkE g2) hX hI) ?_; rintro vo S3 ⟨⟨ps, hps, ho, -⟩, e3⟩
  simp (disch := omega) only [go_sem, ↓reduceIte, Nat.reduceEqDiff, Nat.reduceAdd, Nat.reduceMul, Nat.reduceSub, Nat.reduceLT, Nat.reduceLeDiff, Nat.reduceBEq, reduceCtorEq, Int.reduceLT, Int.reduceEq, Int.reduceLE, Int.reduceAdd, Int.reduceSub, Int.reduceToNat, Int.reduceNeg]
  refine wJ_of F.movetree_New_J ?_; rintro _ S4 ⟨q, Z1, rfl, T4, z1, g4⟩
  have hF := taleA_F xs
  have hOk := tale_ok xs 60 (Nat.le_refl _)
  have hlen : ps.length ≤ 60 := by
    have h1 := hOk.1
    rw [List.length_take] at h1
    have h2 : ps.length = (storyA xs).length := by rw [← hps, List.length_map]
    have h3 : (storyA xs).length = ((xs.take 60).foldl stepA tale0).out.length := rfl
    omega
  have hps' : ps.map Prod.fst = (taleA xs).out := hps
  generalize taleA xs = tl at *
  have hs4 := (ho.sl opE).ext opE g4
  obtain ⟨bv, cv, hv⟩ := (ho.sl opE).len opE
  subst hv
  simp (disch := omega) only [go_sem, ↓reduceIte, Nat.reduceEqDiff, Nat.reduceAdd, Nat.reduceMul, Nat.reduceSub, Nat.reduceLT, Nat.reduceLeDiff, Nat.reduceBEq, reduceCtorEq, Int.reduceLT, Int.reduceEq, Int.reduceLE, Int.reduceAdd, Int.reduceSub, Int.reduceToNat, Int.reduceNeg]
  refine wC_at 0 (fun fr S5 => True) ?_ (fun fr S5 _ => ?_)
  rotate_left
  · simp (disch := omega) only [go_sem, ↓reduceIte, Nat.reduceEqDiff, Nat.reduceAdd, Nat.reduceMul, Nat.reduceSub, Nat.reduceLT, Nat.reduceLeDiff, Nat.reduceBEq, reduceCtorEq, Int.reduceLT, Int.reduceEq, Int.reduceLE, Int.reduceAdd, Int.reduceSub, Int.reduceToNat, Int.reduceNeg]
  refine wC_loop (fun n fr S5 => ∃ (i : Nat) (L : List Mv) (Z : Nat → Prop), n = ps.length - i ∧ i ≤ ps.length ∧ fr 8 = .slice bv ps.length cv ∧ fr 9 = ptrV q ∧ fr 10 = .int .i64 (madeN (tl.out.take i) : Nat) ∧ fr 11 = .int .i64 (i : Nat) ∧ TreeT S5 Z q L ∧ L.Perm (movesO (tl.out.take i)) ∧ (∀ j, Z j → S3.n ≤ j) ∧ S3.Ext S5) ps.length
    ⟨0, [], Z1, by
      have k0 : ([] : List Mv).Perm (movesO (tl.out.take 0)) := List.Perm.refl _
      have k1 : madeN (tl.out.take 0) = 0 := rfl
      simp (disch := omega) only [go_sem, ↓reduceIte, Nat.reduceEqDiff, Nat.reduceAdd, Nat.reduceMul, Nat.reduceSub, Nat.reduceLT, Nat.reduceLeDiff, Nat.reduceBEq, reduceCtorEq, Int.reduceLT, Int.reduceEq, Int.reduceLE, Int.reduceAdd, Int.reduceSub, Int.reduceToNat, Int.reduceNeg, k1]
      repeat' first | assumption | omega | (exact St.Ext.refl _) | (exact List.Perm.refl _) | rfl | (exact .inl trivial) | (exact trivial) | refine And.intro ?_ ?_
      ⟩ ?_
  rintro n fr S5 ⟨i, L, Z, rfl, hi, h8, h9, h10, h11, T5, hp, hz, g5⟩
  simp (disch := omega) only [go_sem, ↓reduceIte, Nat.reduceEqDiff, Nat.reduceAdd, Nat.reduceMul, Nat.reduceSub, Nat.reduceLT, Nat.reduceLeDiff, Nat.reduceBEq, reduceCtorEq, Int.reduceLT, Int.reduceEq, Int.reduceLE, Int.reduceAdd, Int.reduceSub, Int.reduceToNat, Int.reduceNeg, F.osierlaw10_TreeStories.l0, h8, h9, h10, h11]
  refine wcond_dec (fun hlt => ?_) (fun hge => ?_)
  rotate_left
  · simp (disch := omega) only [go_sem, ↓reduceIte, Nat.reduceEqDiff, Nat.reduceAdd, Nat.reduceMul, Nat.reduceSub, Nat.reduceLT, Nat.reduceLeDiff, Nat.reduceBEq, reduceCtorEq, Int.reduceLT, Int.reduceEq, Int.reduceLE, Int.reduceAdd, Int.reduceSub, Int.reduceToNat, Int.reduceNeg]
  have hlx : i < ps.length := by omega
  have c1 : (0 : Int) ≤ (i : Int) ∧ (i : Int) < (ps.length : Int) := by omega
  have hos : tl.out[i]? = some ps[i].1 := by rw [← hps', List.getElem?_map, List.getElem?_eq_getElem hlx]; rfl
  have htk := take_snoc hos
  have hM := movesO_snoc (tl.out.take i) ps[i].1
  have hN := madeN_snoc (tl.out.take i) ps[i].1
  rw [← htk] at hM hN
  have hnn := story_block hF hos
  have hids : ps[i].1.id ∉ (tl.out.take i).map OpA.id := fun hm => by
    have h1 := hF.ids
    have h2 : (tl.out.take (i + 1)).Sublist tl.out := List.take_sublist _ _
    have h3 := h1.sublist (h2.map _)
    rw [htk, List.map_append, List.nodup_append] at h3
    exact h3.2.2 _ hm ps[i].1.id (by simp) rfl
  have hnb : madeN (tl.out.take i) ≤ i := by
    unfold madeN
    exact Nat.le_trans (List.length_filter_le _ _) (by rw [List.length_take]; omega)
  have hlb : ∃ b off, bv = some ⟨b, off, none⟩ ∧ ∀ S', S3.Ext S' → (S'.loadN ⟨b, off + i * 14, none⟩ 2 = some [.int .i64 ps[i].1.id.1, .int .i64 ps[i].1.id.2] ∧ S'.cell ⟨b, off + i * 14 + 2, none⟩ = some (.int .i64 ps[i].1.time) ∧ S'.cell ⟨b, off + i * 14 + 4, none⟩ = some (.int .i64 ps[i].1.kind) ∧ S'.loadN ⟨b, off + i * 14 + 5, none⟩ 2 = some [.int .i64 ps[i].1.block.1, .int .i64 ps[i].1.block.2] ∧ S'.loadN ⟨b, off + i * 14 + 11, none⟩ 2 = some [.int .i64 ps[i].1.parent.1, .int .i64 ps[i].1.parent.2] ∧ S'.cell ⟨b, off + i * 14 + 13, none⟩ = some (.string ps[i].1.key)) := by
    obtain ⟨b, off, hb, -, -, -⟩ := (ho.sl opE).op hlx
    refine ⟨b, off, hb, fun S' e => ?_⟩
    obtain ⟨b', off', hb', -, ⟨x1, x2, -, x4, x5, x6, x7⟩, -⟩ := ((ho.sl opE).ext opE e).op hlx
    rw [hb] at hb'
    injection hb' with hb'
    injection hb' with hb1 hb2
    subst hb1 hb2
    exact ⟨x1, x2, x4, x5, x6, x7⟩
  obtain ⟨b, off, rfl, hld⟩ := hlb
  obtain ⟨x1, x2, x4, x5, x6, x7⟩ := hld S5 g5
  have hStL := story_StL hF (i + 1)
  generalize ps[i].1 = o at *
  generalize hN0 : madeN (tl.out.take i) = N at *
  have c2 : ¬ ((o.kind : Int) = 3) → True := fun _ => trivial
  by_cases hk : o.kind = 3
  rotate_left
  · rw [if_neg hk] at hM
    rw [if_neg fun h => hk h.1] at hN
    simp (disch := omega) only [go_sem, ↓reduceIte, Nat.reduceEqDiff, Nat.reduceAdd, Nat.reduceMul, Nat.reduceSub, Nat.reduceLT, Nat.reduceLeDiff, Nat.reduceBEq, reduceCtorEq, Int.reduceLT, Int.reduceEq, Int.reduceLE, Int.reduceAdd, Int.reduceSub, Int.reduceToNat, Int.reduceNeg, hk, h8, h9, h10, h11, c1, x4]
    refine ⟨ps.length - (i + 1), by omega, i + 1, L, Z, ?_⟩
    rw [hM, hN]
    repeat' first | assumption | omega | (exact St.Ext.refl _) | (exact List.Perm.refl _) | rfl | (exact .inl trivial) | (exact trivial) | refine And.intro ?_ ?_
  rw [if_pos hk] at hM
  obtain ⟨hn1, hn2⟩ := hnn hk
  have hfresh : (mvO o).id ∉ L.map Mv.id := fun hm => by
    have h1 : (mvO o).id ∈ (movesO (tl.out.take i)).map Mv.id := (hp.map Mv.id).mem_iff.1 hm
    obtain ⟨m', hm', he⟩ := List.mem_map.1 h1
    obtain ⟨o', ho', rfl⟩ := List.mem_map.1 hm'
    have he' : o'.id = o.id := he
    rw [← he'] at hids
    exact hids (List.mem_map_of_mem (List.mem_filter.1 ho').1)
  have hmA : moveA L (mvO o) = (0, insM (mvO o) L) := by
    unfold moveA
    rw [if_neg (fun h => h.elim hn1 hn2), if_neg hfresh]
  have hLl : L.length ≤ i := by
    rw [hp.length_eq]
    unfold movesO
    rw [List.length_map]
    exact Nat.le_trans (List.length_filter_le _ _) (by rw [List.length_take]; omega)
  simp (disch := omega) only [go_sem, ↓reduceIte, Nat.reduceEqDiff, Nat.reduceAdd, Nat.reduceMul, Nat.reduceSub, Nat.reduceLT, Nat.reduceLeDiff, Nat.reduceBEq, reduceCtorEq, Int.reduceLT, Int.reduceEq, Int.reduceLE, Int.reduceAdd, Int.reduceSub, Int.reduceToNat, Int.reduceNeg, hk, h8, h9, h10, h11, c1, x1, x2, x4, x5, x6, x7]
  refine wJ_of (F.movetree_Tree_Move_J (m := mvO o) T5 (by omega)) ?_; rintro _ S6 ⟨rfl, Z2, T6, z6, f6⟩
  have g6 : S3.Ext S6 := g5.frm f6 hz
  have hz6 : ∀ j, Z2 j → S3.n ≤ j := fun j hj => (z6 j hj).elim (hz j) (fun h => Nat.le_trans g5.n h)
  rw [hmA] at T6
  replace T6 : TreeT S6 Z2 q (insM (mvO o) L) := T6
  have cN : ((N + 1 : Nat) : Int) = (N : Int) + 1 := by omega
  have hp6 : (insM (mvO o) L).Perm (movesO (tl.out.take (i + 1))) := by
    rw [hM]
    refine (insM_perm _ _).trans ?_
    exact (List.perm_cons_append_cons (l₁ := movesO (tl.out.take i)) (l₂ := []) (mvO o) (by rw [List.append_nil]; exact hp))
  have hcnt : (risen ((runS (insM (mvO o) L)).map Prod.fst)).length = madeN (tl.out.take (i + 1)) := by
    rw [made_count T6.2.1 (hStL.perm hp6), count_perm hp6, madeN_moves]
  obtain ⟨y1, y2, y4, y5, y6, y7⟩ := hld S6 g6
  have eqb := eqV_dot o.block o.id
  have hL6 : (insM (mvO o) L).length ≤ i + 1 := by rw [insM_len]; omega
  by_cases hb : o.block = o.id
  · have eqt : eqV [.i .i64, .i .i64] true (dotV o.block) (dotV o.id) = some true := by rw [eqb, decide_eq_true hb]
    rw [if_pos ⟨hk, hb⟩] at hN
    simp (disch := omega) only [go_sem, ↓reduceIte, Nat.reduceEqDiff, Nat.reduceAdd, Nat.reduceMul, Nat.reduceSub, Nat.reduceLT, Nat.reduceLeDiff, Nat.reduceBEq, reduceCtorEq, Int.reduceLT, Int.reduceEq, Int.reduceLE, Int.reduceAdd, Int.reduceSub, Int.reduceToNat, Int.reduceNeg, hmA, h8, h9, h10, h11, c1, y1, y5, eqt]
    refine wJ_of (F.movetree_Tree_Blocks_J T6 (by omega)) ?_; rintro vb S7 ⟨hob, e7⟩
    obtain ⟨bb, cb, hvb⟩ := (hob.sl dotE).len dotE
    rw [hcnt, hN] at hvb
    subst hvb
    have T7 := T6.ext e7
    have g7 := g6.trans e7
    simp (disch := omega) only [go_sem, ↓reduceIte, Nat.reduceEqDiff, Nat.reduceAdd, Nat.reduceMul, Nat.reduceSub, Nat.reduceLT, Nat.reduceLeDiff, Nat.reduceBEq, reduceCtorEq, Int.reduceLT, Int.reduceEq, Int.reduceLE, Int.reduceAdd, Int.reduceSub, Int.reduceToNat, Int.reduceNeg, h8, h9, h10, h11, cN]
    refine ⟨ps.length - (i + 1), by omega, i + 1, insM (mvO o) L, Z2, ?_⟩
    rw [hN]
    repeat' first | assumption | omega | (exact St.Ext.refl _) | (exact List.Perm.refl _) | rfl | (exact .inl trivial) | (exact trivial) | refine And.intro ?_ ?_
  · have eqt : eqV [.i .i64, .i .i64] true (dotV o.block) (dotV o.id) = some false := by rw [eqb, decide_eq_false hb]
    rw [if_neg fun h => hb h.2] at hN
    simp (disch := omega) only [go_sem, ↓reduceIte, Nat.reduceEqDiff, Nat.reduceAdd, Nat.reduceMul, Nat.reduceSub, Nat.reduceLT, Nat.reduceLeDiff, Nat.reduceBEq, reduceCtorEq, Int.reduceLT, Int.reduceEq, Int.reduceLE, Int.reduceAdd, Int.reduceSub, Int.reduceToNat, Int.reduceNeg, hmA, h8, h9, h10, h11, c1, y1, y5, eqt]
    refine wJ_of (F.movetree_Tree_Blocks_J T6 (by omega)) ?_; rintro vb S7 ⟨hob, e7⟩
    obtain ⟨bb, cb, hvb⟩ := (hob.sl dotE).len dotE
    rw [hcnt, hN] at hvb
    subst hvb
    have T7 := T6.ext e7
    have g7 := g6.trans e7
    simp (disch := omega) only [go_sem, ↓reduceIte, Nat.reduceEqDiff, Nat.reduceAdd, Nat.reduceMul, Nat.reduceSub, Nat.reduceLT, Nat.reduceLeDiff, Nat.reduceBEq, reduceCtorEq, Int.reduceLT, Int.reduceEq, Int.reduceLE, Int.reduceAdd, Int.reduceSub, Int.reduceToNat, Int.reduceNeg, h8, h9, h10, h11]
    refine ⟨ps.length - (i + 1), by omega, i + 1, insM (mvO o) L, Z2, ?_⟩
    rw [hN]
    repeat' first | assumption | omega | (exact St.Ext.refl _) | (exact List.Perm.refl _) | rfl | (exact .inl trivial) | (exact trivial) | refine And.intro ?_ ?_
end Go.Osj
