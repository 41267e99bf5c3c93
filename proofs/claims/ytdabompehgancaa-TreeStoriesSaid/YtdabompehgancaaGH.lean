/- A tree that is none. -/
import Derived.Test.YtdabompehgancaaGG
set_option linter.unusedVariables false
set_option linter.unusedSimpArgs false
set_option maxHeartbeats 1000000
namespace Go.Osj
abbrev nilP : Value := .pointer none
theorem eqN_nil : eqN .ptr nilP (.pointer none) = some true := rfl
theorem F.movetree_Tree_There_nil {S : St} {d : Dot} : J PR F.movetree_Tree_There [nilP, dotV d] S fun v S' => v = .bool false ∧ S = S' := by
  refine J.back (J_by PR.mixed F.movetree_Tree_There.ok (by simp) ?_)
  simp (disch := omega) only [go_sem, ↓reduceIte, Nat.reduceEqDiff, Nat.reduceAdd, Nat.reduceMul, Nat.reduceSub, Nat.reduceLT, Nat.reduceLeDiff, Nat.reduceBEq, reduceCtorEq, Int.reduceLT, Int.reduceEq, Int.reduceLE, Int.reduceAdd, Int.reduceSub, Int.reduceToNat, Int.reduceNeg]
  refine wfresh_of fun x hx => ?_
  have he := (St.Ext.refl S).put hx (.cells true 2 [.int .i64 d.1, .int .i64 d.2])
  simp (disch := omega) only [go_sem, ↓reduceIte, Nat.reduceEqDiff, Nat.reduceAdd, Nat.reduceMul, Nat.reduceSub, Nat.reduceLT, Nat.reduceLeDiff, Nat.reduceBEq, reduceCtorEq, Int.reduceLT, Int.reduceEq, Int.reduceLE, Int.reduceAdd, Int.reduceSub, Int.reduceToNat, Int.reduceNeg, eqN_nil]
  exact he
theorem F.movetree_Tree_Parent_nil {S : St} {d : Dot} : J PR F.movetree_Tree_Parent [nilP, dotV d] S fun v S' => v = .tuple #[dotV (0, 0), .string ⟨#[]⟩, .bool false] ∧ S = S' := by
  refine J.back (J_by PR.mixed F.movetree_Tree_Parent.ok (by simp) ?_)
  simp (disch := omega) only [go_sem, ↓reduceIte, Nat.reduceEqDiff, Nat.reduceAdd, Nat.reduceMul, Nat.reduceSub, Nat.reduceLT, Nat.reduceLeDiff, Nat.reduceBEq, reduceCtorEq, Int.reduceLT, Int.reduceEq, Int.reduceLE, Int.reduceAdd, Int.reduceSub, Int.reduceToNat, Int.reduceNeg]
  refine walloc_x [.int .i64 d.1, .int .i64 d.2] fun x S1 he1 ox hx hxn => ?_
  simp (disch := omega) only [go_sem, ↓reduceIte, Nat.reduceEqDiff, Nat.reduceAdd, Nat.reduceMul, Nat.reduceSub, Nat.reduceLT, Nat.reduceLeDiff, Nat.reduceBEq, reduceCtorEq, Int.reduceLT, Int.reduceEq, Int.reduceLE, Int.reduceAdd, Int.reduceSub, Int.reduceToNat, Int.reduceNeg]
  refine walloc_x [.int .i64 0, .int .i64 0] fun y S2 he2 oy hy hyn => ?_
  have cx := cells2 ((he2.obj x hx).trans ox)
  simp (disch := omega) only [go_sem, ↓reduceIte, Nat.reduceEqDiff, Nat.reduceAdd, Nat.reduceMul, Nat.reduceSub, Nat.reduceLT, Nat.reduceLeDiff, Nat.reduceBEq, reduceCtorEq, Int.reduceLT, Int.reduceEq, Int.reduceLE, Int.reduceAdd, Int.reduceSub, Int.reduceToNat, Int.reduceNeg, cx]
  refine wJ_of (F.movetree_Tree_There_nil (d := d)) ?_; rintro _ _ ⟨rfl, rfl⟩
  simp (disch := omega) only [go_sem, ↓reduceIte, Nat.reduceEqDiff, Nat.reduceAdd, Nat.reduceMul, Nat.reduceSub, Nat.reduceLT, Nat.reduceLeDiff, Nat.reduceBEq, reduceCtorEq, Int.reduceLT, Int.reduceEq, Int.reduceLE, Int.reduceAdd, Int.reduceSub, Int.reduceToNat, Int.reduceNeg]
  refine wst_w [.int .i64 0, .int .i64 0] oy rfl rfl (by simp) (by simp) rfl fun S3 oy3 b3 hy3 => ?_
  have cy := cells2 oy3
  simp (disch := omega) only [go_sem, ↓reduceIte, Nat.reduceEqDiff, Nat.reduceAdd, Nat.reduceMul, Nat.reduceSub, Nat.reduceLT, Nat.reduceLeDiff, Nat.reduceBEq, reduceCtorEq, Int.reduceLT, Int.reduceEq, Int.reduceLE, Int.reduceAdd, Int.reduceSub, Int.reduceToNat, Int.reduceNeg, cy]
  exact (he1.trans he2).but b3 fun j hj => by simp [blkOf] at hj; have := he1.n; omega
theorem F.movetree_Tree_Took_nil {S : St} {d : Dot} : J PR F.movetree_Tree_Took [nilP, dotV d] S fun v S' => v = .bool false ∧ S = S' := by
  refine J.back (J_by PR.mixed F.movetree_Tree_Took.ok (by simp) ?_)
  simp (disch := omega) only [go_sem, ↓reduceIte, Nat.reduceEqDiff, Nat.reduceAdd, Nat.reduceMul, Nat.reduceSub, Nat.reduceLT, Nat.reduceLeDiff, Nat.reduceBEq, reduceCtorEq, Int.reduceLT, Int.reduceEq, Int.reduceLE, Int.reduceAdd, Int.reduceSub, Int.reduceToNat, Int.reduceNeg]
  refine wfresh_of fun x hx => ?_
  have he := (St.Ext.refl S).put hx (.cells true 2 [.int .i64 d.1, .int .i64 d.2])
  simp (disch := omega) only [go_sem, ↓reduceIte, Nat.reduceEqDiff, Nat.reduceAdd, Nat.reduceMul, Nat.reduceSub, Nat.reduceLT, Nat.reduceLeDiff, Nat.reduceBEq, reduceCtorEq, Int.reduceLT, Int.reduceEq, Int.reduceLE, Int.reduceAdd, Int.reduceSub, Int.reduceToNat, Int.reduceNeg, eqN_nil]
  exact he
theorem F.movetree_Tree_Blocks_nil {S : St} : J PR F.movetree_Tree_Blocks [nilP] S fun v S' => v = nilS ∧ S = S' := by
  refine J_by PR.mixed F.movetree_Tree_Blocks.ok (by simp) ?_
  simp (disch := omega) only [go_sem, ↓reduceIte, Nat.reduceEqDiff, Nat.reduceAdd, Nat.reduceMul, Nat.reduceSub, Nat.reduceLT, Nat.reduceLeDiff, Nat.reduceBEq, reduceCtorEq, Int.reduceLT, Int.reduceEq, Int.reduceLE, Int.reduceAdd, Int.reduceSub, Int.reduceToNat, Int.reduceNeg, eqN_nil]
theorem F.movetree_Tree_Path_nil {S : St} {d : Dot} : J PR F.movetree_Tree_Path [nilP, dotV d] S fun v S' => v = nilS ∧ S = S' := by
  refine J.back (J_by PR.mixed F.movetree_Tree_Path.ok (by simp) ?_)
  simp (disch := omega) only [go_sem, ↓reduceIte, Nat.reduceEqDiff, Nat.reduceAdd, Nat.reduceMul, Nat.reduceSub, Nat.reduceLT, Nat.reduceLeDiff, Nat.reduceBEq, reduceCtorEq, Int.reduceLT, Int.reduceEq, Int.reduceLE, Int.reduceAdd, Int.reduceSub, Int.reduceToNat, Int.reduceNeg]
  refine walloc_x [.int .i64 d.1, .int .i64 d.2] fun x S1 he1 ox hx hxn => ?_
  have cx := cells2 ox
  simp (disch := omega) only [go_sem, ↓reduceIte, Nat.reduceEqDiff, Nat.reduceAdd, Nat.reduceMul, Nat.reduceSub, Nat.reduceLT, Nat.reduceLeDiff, Nat.reduceBEq, reduceCtorEq, Int.reduceLT, Int.reduceEq, Int.reduceLE, Int.reduceAdd, Int.reduceSub, Int.reduceToNat, Int.reduceNeg]
  refine wC_unroll ?_
  simp (disch := omega) only [go_sem, ↓reduceIte, Nat.reduceEqDiff, Nat.reduceAdd, Nat.reduceMul, Nat.reduceSub, Nat.reduceLT, Nat.reduceLeDiff, Nat.reduceBEq, reduceCtorEq, Int.reduceLT, Int.reduceEq, Int.reduceLE, Int.reduceAdd, Int.reduceSub, Int.reduceToNat, Int.reduceNeg, F.movetree_Tree_Path.l0, cx]
  refine wJ_of (F.movetree_Tree_There_nil (d := d)) ?_; rintro _ _ ⟨rfl, rfl⟩
  simp (disch := omega) only [go_sem, ↓reduceIte, Nat.reduceEqDiff, Nat.reduceAdd, Nat.reduceMul, Nat.reduceSub, Nat.reduceLT, Nat.reduceLeDiff, Nat.reduceBEq, reduceCtorEq, Int.reduceLT, Int.reduceEq, Int.reduceLE, Int.reduceAdd, Int.reduceSub, Int.reduceToNat, Int.reduceNeg]
  exact he1
theorem F.movetree_Tree_Move_nil {S : St} {i : Dot} {t : Int} {b p : Dot} {k : ByteArray} : J PR F.movetree_Tree_Move [nilP, dotV i, .int .i64 t, dotV b, dotV p, .string k] S fun v S' => v = .int .i64 1 ∧ S = S' := by
  refine J.back (J_by PR.mixed F.movetree_Tree_Move.ok (by simp) ?_)
  simp (disch := omega) only [go_sem, ↓reduceIte, Nat.reduceEqDiff, Nat.reduceAdd, Nat.reduceMul, Nat.reduceSub, Nat.reduceLT, Nat.reduceLeDiff, Nat.reduceBEq, reduceCtorEq, Int.reduceLT, Int.reduceEq, Int.reduceLE, Int.reduceAdd, Int.reduceSub, Int.reduceToNat, Int.reduceNeg]
  refine walloc_x [.int .i64 i.1, .int .i64 i.2] fun x S1 e1 ox hx hxn => ?_
  simp (disch := omega) only [go_sem, ↓reduceIte, Nat.reduceEqDiff, Nat.reduceAdd, Nat.reduceMul, Nat.reduceSub, Nat.reduceLT, Nat.reduceLeDiff, Nat.reduceBEq, reduceCtorEq, Int.reduceLT, Int.reduceEq, Int.reduceLE, Int.reduceAdd, Int.reduceSub, Int.reduceToNat, Int.reduceNeg]
  refine walloc_x [.int .i64 b.1, .int .i64 b.2] fun y S2 e2 oy hy hyn => ?_
  simp (disch := omega) only [go_sem, ↓reduceIte, Nat.reduceEqDiff, Nat.reduceAdd, Nat.reduceMul, Nat.reduceSub, Nat.reduceLT, Nat.reduceLeDiff, Nat.reduceBEq, reduceCtorEq, Int.reduceLT, Int.reduceEq, Int.reduceLE, Int.reduceAdd, Int.reduceSub, Int.reduceToNat, Int.reduceNeg]
  refine walloc_x [.int .i64 p.1, .int .i64 p.2] fun z S3 e3 oz hz hzn => ?_
  simp (disch := omega) only [go_sem, ↓reduceIte, Nat.reduceEqDiff, Nat.reduceAdd, Nat.reduceMul, Nat.reduceSub, Nat.reduceLT, Nat.reduceLeDiff, Nat.reduceBEq, reduceCtorEq, Int.reduceLT, Int.reduceEq, Int.reduceLE, Int.reduceAdd, Int.reduceSub, Int.reduceToNat, Int.reduceNeg, eqN_nil]
  exact (e1.trans e2).trans e3
theorem F.slices_insertionSortCmpFunc_n0 {S : St} {f : Value} : J PR F.slices_insertionSortCmpFunc_api_Dot [.slice none 0 0, .int .i64 0, .int .i64 0, f] S fun _ S' => S' = S := by
  refine J_by PR.mixed F.slices_insertionSortCmpFunc_api_Dot.ok (by simp) ?_
  simp (disch := omega) only [go_sem, ↓reduceIte, Nat.reduceEqDiff, Nat.reduceAdd, Nat.reduceMul, Nat.reduceSub, Nat.reduceLT, Nat.reduceLeDiff, Nat.reduceBEq, reduceCtorEq, Int.reduceLT, Int.reduceEq, Int.reduceLE, Int.reduceAdd, Int.reduceSub, Int.reduceToNat, Int.reduceNeg]
  refine wC_unroll ?_
  simp (disch := omega) only [go_sem, ↓reduceIte, Nat.reduceEqDiff, Nat.reduceAdd, Nat.reduceMul, Nat.reduceSub, Nat.reduceLT, Nat.reduceLeDiff, Nat.reduceBEq, reduceCtorEq, Int.reduceLT, Int.reduceEq, Int.reduceLE, Int.reduceAdd, Int.reduceSub, Int.reduceToNat, Int.reduceNeg, F.slices_insertionSortCmpFunc_api_Dot.l1]
theorem F.slices_stableCmpFunc_n0 {S : St} {f : Value} : J PR F.slices_stableCmpFunc_api_Dot [.slice none 0 0, .int .i64 0, f] S fun _ S' => S' = S := by
  refine J_by PR.mixed F.slices_stableCmpFunc_api_Dot.ok (by simp) ?_
  simp (disch := omega) only [go_sem, ↓reduceIte, Nat.reduceEqDiff, Nat.reduceAdd, Nat.reduceMul, Nat.reduceSub, Nat.reduceLT, Nat.reduceLeDiff, Nat.reduceBEq, reduceCtorEq, Int.reduceLT, Int.reduceEq, Int.reduceLE, Int.reduceAdd, Int.reduceSub, Int.reduceToNat, Int.reduceNeg]
  refine wC_unroll ?_
  simp (disch := omega) only [go_sem, ↓reduceIte, Nat.reduceEqDiff, Nat.reduceAdd, Nat.reduceMul, Nat.reduceSub, Nat.reduceLT, Nat.reduceLeDiff, Nat.reduceBEq, reduceCtorEq, Int.reduceLT, Int.reduceEq, Int.reduceLE, Int.reduceAdd, Int.reduceSub, Int.reduceToNat, Int.reduceNeg, F.slices_stableCmpFunc_api_Dot.l0]
  refine wJ_of F.slices_insertionSortCmpFunc_n0 ?_; rintro _ _ rfl
  simp (disch := omega) only [go_sem, ↓reduceIte, Nat.reduceEqDiff, Nat.reduceAdd, Nat.reduceMul, Nat.reduceSub, Nat.reduceLT, Nat.reduceLeDiff, Nat.reduceBEq, reduceCtorEq, Int.reduceLT, Int.reduceEq, Int.reduceLE, Int.reduceAdd, Int.reduceSub, Int.reduceToNat, Int.reduceNeg]
  refine wC_unroll ?_
  simp (disch := omega) only [go_sem, ↓reduceIte, Nat.reduceEqDiff, Nat.reduceAdd, Nat.reduceMul, Nat.reduceSub, Nat.reduceLT, Nat.reduceLeDiff, Nat.reduceBEq, reduceCtorEq, Int.reduceLT, Int.reduceEq, Int.reduceLE, Int.reduceAdd, Int.reduceSub, Int.reduceToNat, Int.reduceNeg, F.slices_stableCmpFunc_api_Dot.l2]
theorem F.slices_SortStableFunc_n0 {S : St} {f : Value} : J PR F.slices_SortStableFunc_s_api_Dot_api_Dot [.slice none 0 0, f] S fun _ S' => S' = S := by
  refine J_by PR.mixed F.slices_SortStableFunc_s_api_Dot_api_Dot.ok (by simp) ?_
  simp (disch := omega) only [go_sem, ↓reduceIte, Nat.reduceEqDiff, Nat.reduceAdd, Nat.reduceMul, Nat.reduceSub, Nat.reduceLT, Nat.reduceLeDiff, Nat.reduceBEq, reduceCtorEq, Int.reduceLT, Int.reduceEq, Int.reduceLE, Int.reduceAdd, Int.reduceSub, Int.reduceToNat, Int.reduceNeg]
  refine wJ_of F.slices_stableCmpFunc_n0 ?_; rintro _ _ rfl
  simp (disch := omega) only [go_sem, ↓reduceIte, Nat.reduceEqDiff, Nat.reduceAdd, Nat.reduceMul, Nat.reduceSub, Nat.reduceLT, Nat.reduceLeDiff, Nat.reduceBEq, reduceCtorEq, Int.reduceLT, Int.reduceEq, Int.reduceLE, Int.reduceAdd, Int.reduceSub, Int.reduceToNat, Int.reduceNeg]
theorem F.movetree_Tree_Kids_nil {S : St} {d : Dot} : J PR F.movetree_Tree_Kids [nilP, dotV d] S fun v S' => v = nilS ∧ S = S' := by
  refine J.back (J_by PR.mixed F.movetree_Tree_Kids.ok (by simp) ?_)
  simp (disch := omega) only [go_sem, ↓reduceIte, Nat.reduceEqDiff, Nat.reduceAdd, Nat.reduceMul, Nat.reduceSub, Nat.reduceLT, Nat.reduceLeDiff, Nat.reduceBEq, reduceCtorEq, Int.reduceLT, Int.reduceEq, Int.reduceLE, Int.reduceAdd, Int.reduceSub, Int.reduceToNat, Int.reduceNeg]
  refine walloc_x [nilP] fun x S1 e1 ox hx hxn => ?_
  simp (disch := omega) only [go_sem, ↓reduceIte, Nat.reduceEqDiff, Nat.reduceAdd, Nat.reduceMul, Nat.reduceSub, Nat.reduceLT, Nat.reduceLeDiff, Nat.reduceBEq, reduceCtorEq, Int.reduceLT, Int.reduceEq, Int.reduceLE, Int.reduceAdd, Int.reduceSub, Int.reduceToNat, Int.reduceNeg]
  refine walloc_x [.int .i64 d.1, .int .i64 d.2] fun y S2 e2 oy hy hyn => ?_
  have cx : S2.cell ⟨x, 0, none⟩ = some nilP := by rw [St.cell_def, e2.obj x hx, ox]; rfl
  simp (disch := omega) only [go_sem, ↓reduceIte, Nat.reduceEqDiff, Nat.reduceAdd, Nat.reduceMul, Nat.reduceSub, Nat.reduceLT, Nat.reduceLeDiff, Nat.reduceBEq, reduceCtorEq, Int.reduceLT, Int.reduceEq, Int.reduceLE, Int.reduceAdd, Int.reduceSub, Int.reduceToNat, Int.reduceNeg, cx]
  refine wJ_of F.movetree_Tree_Blocks_nil ?_; rintro _ _ ⟨rfl, rfl⟩
  simp (disch := omega) only [go_sem, ↓reduceIte, Nat.reduceEqDiff, Nat.reduceAdd, Nat.reduceMul, Nat.reduceSub, Nat.reduceLT, Nat.reduceLeDiff, Nat.reduceBEq, reduceCtorEq, Int.reduceLT, Int.reduceEq, Int.reduceLE, Int.reduceAdd, Int.reduceSub, Int.reduceToNat, Int.reduceNeg]
  refine wC_unroll ?_
  simp (disch := omega) only [go_sem, ↓reduceIte, Nat.reduceEqDiff, Nat.reduceAdd, Nat.reduceMul, Nat.reduceSub, Nat.reduceLT, Nat.reduceLeDiff, Nat.reduceBEq, reduceCtorEq, Int.reduceLT, Int.reduceEq, Int.reduceLE, Int.reduceAdd, Int.reduceSub, Int.reduceToNat, Int.reduceNeg, F.movetree_Tree_Kids.l0]
  refine wJ_of F.slices_SortStableFunc_n0 ?_; rintro _ _ rfl
  simp (disch := omega) only [go_sem, ↓reduceIte, Nat.reduceEqDiff, Nat.reduceAdd, Nat.reduceMul, Nat.reduceSub, Nat.reduceLT, Nat.reduceLeDiff, Nat.reduceBEq, reduceCtorEq, Int.reduceLT, Int.reduceEq, Int.reduceLE, Int.reduceAdd, Int.reduceSub, Int.reduceToNat, Int.reduceNeg]
  exact e1.trans e2
end Go.Osj
