/- The laws of chapter 10: awake. -/
import Derived.Test.YtdabompehgancaaY
set_option linter.unusedVariables false
set_option linter.unusedSimpArgs false
set_option maxHeartbeats 1000000
set_option maxRecDepth 10000
namespace Go.Osj
theorem St.Ext.frm {Z : Nat → Prop} {S S1 S2 : St} (h : S.Ext S1) (f : St.Frm Z S1 S2) (hz : ∀ i, Z i → S.n ≤ i) : S.Ext S2 :=
  ⟨Nat.le_trans h.n f.n, fun i hi => (f.obj i (Nat.lt_of_lt_of_le hi h.n) fun e => by have := hz i e; omega).trans (h.obj i hi)⟩
theorem F.movetree_Tree_Path_T {S : St} {Z : Nat → Prop} {q : Nat} {L : List Mv} {b : Dot} (h : TreeT S Z q L) (hL : L.length < 80000) : J PR F.movetree_Tree_Path [ptrV q, dotV b] S fun v S' => OwnT dotE S.n S' v (pathA (runS L) b) ∧ S.Ext S' := by
  obtain ⟨-, -, sb, kb, kn, lv, T, -⟩ := h
  have hp := (okS_run L).pth b
  exact F.movetree_Tree_Path_J T.spT hp (by have := hp.len; have := runS_len L; omega)
theorem F.movetree_Tree_There_T {S : St} {Z : Nat → Prop} {q : Nat} {L : List Mv} {b : Dot} (h : TreeT S Z q L) : J PR F.movetree_Tree_There [ptrV q, dotV b] S fun v S' => v = .bool (alook b (runS L)).isSome ∧ S = S' := by
  obtain ⟨-, -, sb, kb, kn, lv, T, -⟩ := h
  exact F.movetree_Tree_There_J T.spT
/-- a block beside a tree -/
def Off (Z : Nat → Prop) (S : St) (a : Nat) (cs : List Value) : Prop := a < S.n ∧ ¬ Z a ∧ S.obj a = some (.cells true 2 cs)
theorem Off.step {Z Z' : Nat → Prop} {S S' : St} {a : Nat} {cs : List Value} (h : Off Z S a cs) (f : St.Frm Z S S') (hz : ∀ i, Z' i → Z i ∨ S.n ≤ i) : Off Z' S' a cs :=
  ⟨Nat.lt_of_lt_of_le h.1 f.n, fun e => (hz a e).elim h.2.1 (by have := h.1; omega), (f.obj a h.1 h.2.1).trans h.2.2⟩
theorem Off.ext {Z : Nat → Prop} {S S' : St} {a : Nat} {cs : List Value} (h : Off Z S a cs) (e : S.Ext S') : Off Z S' a cs := ⟨Nat.lt_of_lt_of_le h.1 e.n, h.2.1, (e.obj a h.1).trans h.2.2⟩
theorem Off.but {Z : Nat → Prop} {S S' : St} {a b : Nat} {cs : List Value} (h : Off Z S a cs) (e : St.But (ptrV b) S S') (hb : b ≠ a) : Off Z S' a cs := ⟨Nat.lt_of_lt_of_le h.1 e.n, h.2.1, (e.obj a h.1 (by simp [blkOf]; exact hb)).trans h.2.2⟩
theorem Off.l {Z : Nat → Prop} {S : St} {a : Nat} {x y : Value} (h : Off Z S a [x, y]) : S.loadN ⟨a, 0, none⟩ 2 = some [x, y] := cells2 h.2.2
theorem TreeT.off {S : St} {Z : Nat → Prop} {q a : Nat} {L : List Mv} (T : TreeT S Z q L) (ha : S.n ≤ a) : ∀ j, blkOf (ptrV a) = some j → ¬ Z j := fun j hj hz => by
  have := T.1 j hz
  simp [blkOf] at hj
  omega
def aw1 : Mv := ⟨(1, 1), 1, (0, -1), ⟨#[110]⟩, (1, 1)⟩
def aw2 : Mv := ⟨(1, 2), 2, (1, 1), ⟨#[110]⟩, (1, 2)⟩
def aw3 : Mv := ⟨(1, 3), 3, (1, 2), ⟨#[110]⟩, (1, 1)⟩
def aw4 : Mv := ⟨(2, 1), 2, (0, -2), ⟨#[110]⟩, (1, 2)⟩
theorem aw_1 : moveA [] aw1 = (0, [aw1]) := rfl
theorem aw_2 : moveA [aw1] aw2 = (0, [aw1, aw2]) := rfl
theorem aw_3 : moveA [aw1, aw2] aw3 = (0, [aw1, aw2, aw3]) := rfl
theorem aw_4 : moveA [aw1, aw2, aw3] aw4 = (0, [aw1, aw2, aw4, aw3]) := rfl
theorem aw_t3 : ¬ tookP [aw1, aw2, aw3] (1, 3) := by decide +kernel
theorem aw_t4 : tookP [aw1, aw2, aw4, aw3] (1, 3) := by decide +kernel
theorem aw_p : pathA (runS [aw1, aw2, aw4, aw3]) (1, 1) = [(1, 2), (0, -2)] := by decide +kernel
theorem aw_a : (alook (1, 1) (runS [aw1, aw2, aw4, aw3])).isSome = true := by decide +kernel
theorem F.osierlaw10_awake_J {S : St} : J PR F.osierlaw10_awake [] S fun v S' => v = .bool true ∧ S = S' := by
  refine J.back (J_by PR.mixed F.osierlaw10_awake.ok (by simp) ?_)
  simp (disch := omega) only [go_sem, ↓reduceIte, Nat.reduceEqDiff, Nat.reduceAdd, Nat.reduceMul, Nat.reduceSub, Nat.reduceLT, Nat.reduceLeDiff, Nat.reduceBEq, reduceCtorEq, Int.reduceLT, Int.reduceEq, Int.reduceLE, Int.reduceAdd, Int.reduceSub, Int.reduceToNat, Int.reduceNeg]
  refine wJ_of F.movetree_New_J ?_; rintro _ S1 ⟨q, Z1, rfl, T1, z1, g1⟩
  simp (disch := omega) only [go_sem, ↓reduceIte, Nat.reduceEqDiff, Nat.reduceAdd, Nat.reduceMul, Nat.reduceSub, Nat.reduceLT, Nat.reduceLeDiff, Nat.reduceBEq, reduceCtorEq, Int.reduceLT, Int.reduceEq, Int.reduceLE, Int.reduceAdd, Int.reduceSub, Int.reduceToNat, Int.reduceNeg]
  refine walloc_x [.int .i64 0, .int .i64 0] fun a S2 e2 oa ha hna => ?_
  simp (disch := omega) only [go_sem, ↓reduceIte, Nat.reduceEqDiff, Nat.reduceAdd, Nat.reduceMul, Nat.reduceSub, Nat.reduceLT, Nat.reduceLeDiff, Nat.reduceBEq, reduceCtorEq, Int.reduceLT, Int.reduceEq, Int.reduceLE, Int.reduceAdd, Int.reduceSub, Int.reduceToNat, Int.reduceNeg]
  refine wst_w [.int .i64 1, .int .i64 1] oa rfl rfl (by simp) (by simp) rfl fun S3 oa' b3 ha' => ?_
  have T3 := (T1.ext e2).but b3 (T1.off hna)
  have g3 : S.Ext S3 := (g1.trans e2).but b3 fun j hj => by simp [blkOf] at hj; have := g1.n; omega
  have fa3 : Off Z1 S3 a [.int .i64 1, .int .i64 1] := ⟨ha', T1.off hna a rfl, oa'⟩
  simp (disch := omega) only [go_sem, ↓reduceIte, Nat.reduceEqDiff, Nat.reduceAdd, Nat.reduceMul, Nat.reduceSub, Nat.reduceLT, Nat.reduceLeDiff, Nat.reduceBEq, reduceCtorEq, Int.reduceLT, Int.reduceEq, Int.reduceLE, Int.reduceAdd, Int.reduceSub, Int.reduceToNat, Int.reduceNeg]
  refine walloc_x [.int .i64 0, .int .i64 0] fun b S4 e4 ob hb hnb => ?_
  simp (disch := omega) only [go_sem, ↓reduceIte, Nat.reduceEqDiff, Nat.reduceAdd, Nat.reduceMul, Nat.reduceSub, Nat.reduceLT, Nat.reduceLeDiff, Nat.reduceBEq, reduceCtorEq, Int.reduceLT, Int.reduceEq, Int.reduceLE, Int.reduceAdd, Int.reduceSub, Int.reduceToNat, Int.reduceNeg]
  refine wst_w [.int .i64 1, .int .i64 2] ob rfl rfl (by simp) (by simp) rfl fun S5 ob' b5 hb' => ?_
  have T5 := (T3.ext e4).but b5 (T3.off hnb)
  have g5 : S.Ext S5 := (g3.trans e4).but b5 fun j hj => by simp [blkOf] at hj; have := g3.n; omega
  have fb5 : Off Z1 S5 b [.int .i64 1, .int .i64 2] := ⟨hb', T3.off hnb b rfl, ob'⟩
  have fa5 := (fa3.ext e4).but b5 (by have := fa3.1; omega)
  simp (disch := omega) only [go_sem, ↓reduceIte, Nat.reduceEqDiff, Nat.reduceAdd, Nat.reduceMul, Nat.reduceSub, Nat.reduceLT, Nat.reduceLeDiff, Nat.reduceBEq, reduceCtorEq, Int.reduceLT, Int.reduceEq, Int.reduceLE, Int.reduceAdd, Int.reduceSub, Int.reduceToNat, Int.reduceNeg]
  refine walloc_x [.int .i64 0, .int .i64 0] fun c S6 e6 oc hc hnc => ?_
  simp (disch := omega) only [go_sem, ↓reduceIte, Nat.reduceEqDiff, Nat.reduceAdd, Nat.reduceMul, Nat.reduceSub, Nat.reduceLT, Nat.reduceLeDiff, Nat.reduceBEq, reduceCtorEq, Int.reduceLT, Int.reduceEq, Int.reduceLE, Int.reduceAdd, Int.reduceSub, Int.reduceToNat, Int.reduceNeg]
  refine wst_w [.int .i64 1, .int .i64 3] oc rfl rfl (by simp) (by simp) rfl fun S7 oc' b7 hc' => ?_
  have T7 := (T5.ext e6).but b7 (T5.off hnc)
  have g7 : S.Ext S7 := (g5.trans e6).but b7 fun j hj => by simp [blkOf] at hj; have := g5.n; omega
  have fc7 : Off Z1 S7 c [.int .i64 1, .int .i64 3] := ⟨hc', T5.off hnc c rfl, oc'⟩
  have fa7 := (fa5.ext e6).but b7 (by have := fa5.1; omega)
  have fb7 := (fb5.ext e6).but b7 (by have := fb5.1; omega)
  simp (disch := omega) only [go_sem, ↓reduceIte, Nat.reduceEqDiff, Nat.reduceAdd, Nat.reduceMul, Nat.reduceSub, Nat.reduceLT, Nat.reduceLeDiff, Nat.reduceBEq, reduceCtorEq, Int.reduceLT, Int.reduceEq, Int.reduceLE, Int.reduceAdd, Int.reduceSub, Int.reduceToNat, Int.reduceNeg]
  refine walloc_x [.int .i64 0, .int .i64 0] fun d S8 e8 od hd hnd => ?_
  simp (disch := omega) only [go_sem, ↓reduceIte, Nat.reduceEqDiff, Nat.reduceAdd, Nat.reduceMul, Nat.reduceSub, Nat.reduceLT, Nat.reduceLeDiff, Nat.reduceBEq, reduceCtorEq, Int.reduceLT, Int.reduceEq, Int.reduceLE, Int.reduceAdd, Int.reduceSub, Int.reduceToNat, Int.reduceNeg]
  refine wst_w [.int .i64 2, .int .i64 1] od rfl rfl (by simp) (by simp) rfl fun S9 od' b9 hd' => ?_
  have T9 := (T7.ext e8).but b9 (T7.off hnd)
  have g9 : S.Ext S9 := (g7.trans e8).but b9 fun j hj => by simp [blkOf] at hj; have := g7.n; omega
  have fd9 : Off Z1 S9 d [.int .i64 2, .int .i64 1] := ⟨hd', T7.off hnd d rfl, od'⟩
  have fa9 := (fa7.ext e8).but b9 (by have := fa7.1; omega)
  have fb9 := (fb7.ext e8).but b9 (by have := fb7.1; omega)
  have fc9 := (fc7.ext e8).but b9 (by have := fc7.1; omega)
  simp (disch := omega) only [go_sem, ↓reduceIte, Nat.reduceEqDiff, Nat.reduceAdd, Nat.reduceMul, Nat.reduceSub, Nat.reduceLT, Nat.reduceLeDiff, Nat.reduceBEq, reduceCtorEq, Int.reduceLT, Int.reduceEq, Int.reduceLE, Int.reduceAdd, Int.reduceSub, Int.reduceToNat, Int.reduceNeg]
  have y1 : ∀ i, Z1 i → S.n ≤ i := z1
  simp (disch := omega) only [go_sem, ↓reduceIte, Nat.reduceEqDiff, Nat.reduceAdd, Nat.reduceMul, Nat.reduceSub, Nat.reduceLT, Nat.reduceLeDiff, Nat.reduceBEq, reduceCtorEq, Int.reduceLT, Int.reduceEq, Int.reduceLE, Int.reduceAdd, Int.reduceSub, Int.reduceToNat, Int.reduceNeg, fa9.l, fb9.l, fc9.l, fd9.l]
  refine wJ_of F.api_Root_J ?_; rintro _ _ ⟨rfl, rfl⟩
  simp (disch := omega) only [go_sem, ↓reduceIte, Nat.reduceEqDiff, Nat.reduceAdd, Nat.reduceMul, Nat.reduceSub, Nat.reduceLT, Nat.reduceLeDiff, Nat.reduceBEq, reduceCtorEq, Int.reduceLT, Int.reduceEq, Int.reduceLE, Int.reduceAdd, Int.reduceSub, Int.reduceToNat, Int.reduceNeg, fa9.l, fb9.l, fc9.l, fd9.l]
  refine wJ_of (F.movetree_Tree_Move_J (m := aw1) T9 (by simp)) ?_; rintro _ S10 ⟨rfl, Z2, T10, z2, r10⟩
  rw [aw_1] at T10 ⊢
  have g10 : S.Ext S10 := g9.frm r10 y1
  have y2 : ∀ i, Z2 i → S.n ≤ i := fun i hi => (z2 i hi).elim (y1 i) (fun h => Nat.le_trans g9.n h)
  have fa10 := fa9.step r10 z2
  have fb10 := fb9.step r10 z2
  have fc10 := fc9.step r10 z2
  have fd10 := fd9.step r10 z2
  simp (disch := omega) only [go_sem, ↓reduceIte, Nat.reduceEqDiff, Nat.reduceAdd, Nat.reduceMul, Nat.reduceSub, Nat.reduceLT, Nat.reduceLeDiff, Nat.reduceBEq, reduceCtorEq, Int.reduceLT, Int.reduceEq, Int.reduceLE, Int.reduceAdd, Int.reduceSub, Int.reduceToNat, Int.reduceNeg, fa10.l, fb10.l, fc10.l, fd10.l]
  refine wJ_of (F.movetree_Tree_Move_J (m := aw2) T10 (by simp)) ?_; rintro _ S11 ⟨rfl, Z3, T11, z3, r11⟩
  rw [aw_2] at T11 ⊢
  have g11 : S.Ext S11 := g10.frm r11 y2
  have y3 : ∀ i, Z3 i → S.n ≤ i := fun i hi => (z3 i hi).elim (y2 i) (fun h => Nat.le_trans g10.n h)
  have fa11 := fa10.step r11 z3
  have fb11 := fb10.step r11 z3
  have fc11 := fc10.step r11 z3
  have fd11 := fd10.step r11 z3
  simp (disch := omega) only [go_sem, ↓reduceIte, Nat.reduceEqDiff, Nat.reduceAdd, Nat.reduceMul, Nat.reduceSub, Nat.reduceLT, Nat.reduceLeDiff, Nat.reduceBEq, reduceCtorEq, Int.reduceLT, Int.reduceEq, Int.reduceLE, Int.reduceAdd, Int.reduceSub, Int.reduceToNat, Int.reduceNeg, fa11.l, fb11.l, fc11.l, fd11.l]
  refine wJ_of (F.movetree_Tree_Move_J (m := aw3) T11 (by simp)) ?_; rintro _ S12 ⟨rfl, Z4, T12, z4, r12⟩
  rw [aw_3] at T12 ⊢
  have g12 : S.Ext S12 := g11.frm r12 y3
  have y4 : ∀ i, Z4 i → S.n ≤ i := fun i hi => (z4 i hi).elim (y3 i) (fun h => Nat.le_trans g11.n h)
  have fa12 := fa11.step r12 z4
  have fb12 := fb11.step r12 z4
  have fc12 := fc11.step r12 z4
  have fd12 := fd11.step r12 z4
  simp (disch := omega) only [go_sem, ↓reduceIte, Nat.reduceEqDiff, Nat.reduceAdd, Nat.reduceMul, Nat.reduceSub, Nat.reduceLT, Nat.reduceLeDiff, Nat.reduceBEq, reduceCtorEq, Int.reduceLT, Int.reduceEq, Int.reduceLE, Int.reduceAdd, Int.reduceSub, Int.reduceToNat, Int.reduceNeg, fa12.l, fb12.l, fc12.l, fd12.l]
  refine wJ_of (F.movetree_Tree_Took_J (d := (1, 3)) T12 (by simp)) ?_; rintro _ _ ⟨rfl, rfl⟩
  simp (disch := omega) only [go_sem, ↓reduceIte, Nat.reduceEqDiff, Nat.reduceAdd, Nat.reduceMul, Nat.reduceSub, Nat.reduceLT, Nat.reduceLeDiff, Nat.reduceBEq, reduceCtorEq, Int.reduceLT, Int.reduceEq, Int.reduceLE, Int.reduceAdd, Int.reduceSub, Int.reduceToNat, Int.reduceNeg, fa12.l, fb12.l, fc12.l, fd12.l]
  refine wJ_of F.api_Trash_J ?_; rintro _ _ ⟨rfl, rfl⟩
  simp (disch := omega) only [go_sem, ↓reduceIte, Nat.reduceEqDiff, Nat.reduceAdd, Nat.reduceMul, Nat.reduceSub, Nat.reduceLT, Nat.reduceLeDiff, Nat.reduceBEq, reduceCtorEq, Int.reduceLT, Int.reduceEq, Int.reduceLE, Int.reduceAdd, Int.reduceSub, Int.reduceToNat, Int.reduceNeg, fa12.l, fb12.l, fc12.l, fd12.l]
  refine wJ_of (F.movetree_Tree_Move_J (m := aw4) T12 (by simp)) ?_; rintro _ S13 ⟨rfl, Z5, T13, z5, r13⟩
  rw [aw_4] at T13 ⊢
  have g13 : S.Ext S13 := g12.frm r13 y4
  have y5 : ∀ i, Z5 i → S.n ≤ i := fun i hi => (z5 i hi).elim (y4 i) (fun h => Nat.le_trans g12.n h)
  have fa13 := fa12.step r13 z5
  have fb13 := fb12.step r13 z5
  have fc13 := fc12.step r13 z5
  have fd13 := fd12.step r13 z5
  simp (disch := omega) only [go_sem, ↓reduceIte, Nat.reduceEqDiff, Nat.reduceAdd, Nat.reduceMul, Nat.reduceSub, Nat.reduceLT, Nat.reduceLeDiff, Nat.reduceBEq, reduceCtorEq, Int.reduceLT, Int.reduceEq, Int.reduceLE, Int.reduceAdd, Int.reduceSub, Int.reduceToNat, Int.reduceNeg, fa13.l, fb13.l, fc13.l, fd13.l]
  refine wJ_of (F.movetree_Tree_Path_T (b := (1, 1)) T13 (by simp)) ?_; rintro vp S14 ⟨hop, e14⟩
  rw [aw_p] at hop
  have T14 := T13.ext e14
  have g14 := g13.trans e14
  have fa14 := fa13.ext e14
  have fb14 := fb13.ext e14
  have fc14 := fc13.ext e14
  have fd14 := fd13.ext e14
  obtain ⟨bp, kp, hv⟩ := (hop.sl dotE).len dotE
  subst hv
  have hso := hop.sl dotE
  obtain ⟨bb, oo, rfl, hbb, l0, -⟩ := hso.at dotE (i := 0) (x := ((1, 2) : Dot)) rfl
  obtain ⟨bb', oo', hbo, -, l1, -⟩ := hso.at dotE (i := 1) (x := ((0, -2) : Dot)) rfl
  injection hbo with hbo
  injection hbo with hb1 hb2
  subst hb1 hb2
  replace l0 : S14.loadN ⟨bb, oo + 0, none⟩ 2 = some [.int .i64 1, .int .i64 2] := l0
  rw [Nat.add_zero] at l0
  replace l1 : S14.loadN ⟨bb, oo + 2, none⟩ 2 = some [.int .i64 0, .int .i64 (-2)] := l1
  have d3 : decide (tookP [aw1, aw2, aw3] (1, 3)) = false := decide_eq_false aw_t3
  have d4 : decide (tookP [aw1, aw2, aw4, aw3] (1, 3)) = true := decide_eq_true aw_t4
  simp (disch := omega) only [go_sem, ↓reduceIte, Nat.reduceEqDiff, Nat.reduceAdd, Nat.reduceMul, Nat.reduceSub, Nat.reduceLT, Nat.reduceLeDiff, Nat.reduceBEq, reduceCtorEq, Int.reduceLT, Int.reduceEq, Int.reduceLE, Int.reduceAdd, Int.reduceSub, Int.reduceToNat, Int.reduceNeg, fa14.l, fb14.l, fc14.l, fd14.l, d3]
  refine wJ_of (F.movetree_Tree_Took_J (d := (1, 3)) T14 (by simp)) ?_; rintro _ _ ⟨rfl, rfl⟩
  simp (disch := omega) only [go_sem, ↓reduceIte, Nat.reduceEqDiff, Nat.reduceAdd, Nat.reduceMul, Nat.reduceSub, Nat.reduceLT, Nat.reduceLeDiff, Nat.reduceBEq, reduceCtorEq, Int.reduceLT, Int.reduceEq, Int.reduceLE, Int.reduceAdd, Int.reduceSub, Int.reduceToNat, Int.reduceNeg, fa14.l, fb14.l, fc14.l, fd14.l, d4]
  have q1 := eqV_d (1, 2) (1, 2) (t := true) rfl
  have i01 : (0 : Int) ≤ 0 ∧ (0 : Int) < ((2 : Nat) : Int) := by decide
  have i11 : (0 : Int) ≤ 1 ∧ (1 : Int) < ((2 : Nat) : Int) := by decide
  simp (disch := omega) only [go_sem, ↓reduceIte, Nat.reduceEqDiff, Nat.reduceAdd, Nat.reduceMul, Nat.reduceSub, Nat.reduceLT, Nat.reduceLeDiff, Nat.reduceBEq, reduceCtorEq, Int.reduceLT, Int.reduceEq, Int.reduceLE, Int.reduceAdd, Int.reduceSub, Int.reduceToNat, Int.reduceNeg, l0, l1, q1, fb14.l, i01, i11]
  refine wJ_of F.api_Trash_J ?_; rintro _ _ ⟨rfl, rfl⟩
  have q2 := eqV_d (0, -2) (0, -2) (t := true) rfl
  simp (disch := omega) only [go_sem, ↓reduceIte, Nat.reduceEqDiff, Nat.reduceAdd, Nat.reduceMul, Nat.reduceSub, Nat.reduceLT, Nat.reduceLeDiff, Nat.reduceBEq, reduceCtorEq, Int.reduceLT, Int.reduceEq, Int.reduceLE, Int.reduceAdd, Int.reduceSub, Int.reduceToNat, Int.reduceNeg, q2, fa14.l, l0, l1]
  refine wJ_of (F.movetree_Tree_There_T (b := (1, 1)) T14) ?_; rintro _ _ ⟨rfl, rfl⟩
  have d5 : (alook (1, 1) (runS [aw1, aw2, aw4, aw3])).isSome = true := aw_a
  simp (disch := omega) only [go_sem, ↓reduceIte, Nat.reduceEqDiff, Nat.reduceAdd, Nat.reduceMul, Nat.reduceSub, Nat.reduceLT, Nat.reduceLeDiff, Nat.reduceBEq, reduceCtorEq, Int.reduceLT, Int.reduceEq, Int.reduceLE, Int.reduceAdd, Int.reduceSub, Int.reduceToNat, Int.reduceNeg, d5]
  exact g14
end Go.Osj
