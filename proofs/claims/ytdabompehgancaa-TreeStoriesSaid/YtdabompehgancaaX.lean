/- Trees of blocks: a move comes in. -/
import Derived.Test.YtdabompehgancaaU
set_option linter.unusedVariables false
set_option linter.unusedSimpArgs false
set_option maxHeartbeats 1000000
namespace Go.Osj
theorem F.movetree_later_J {S : St} {a b : Mv} : J PR F.movetree_later [mvV a, mvV b] S fun v S' => v = .bool (decide (aheadM b a)) ∧ S = S' := by
  refine J.back (J_by PR.mixed F.movetree_later.ok (by simp) ?_)
  simp (disch := omega) only [go_sem, ↓reduceIte, Nat.reduceEqDiff, Nat.reduceAdd, Nat.reduceMul, Nat.reduceSub, Nat.reduceLT, Nat.reduceLeDiff, Nat.reduceBEq, reduceCtorEq, Int.reduceLT, Int.reduceEq, Int.reduceLE, Int.reduceAdd, Int.reduceSub, Int.reduceToNat, Int.reduceNeg]
  refine wE_boxM (m := a) rfl fun x S1 he1 hx hxn => ?_
  simp (disch := omega) only [go_sem, ↓reduceIte, Nat.reduceEqDiff, Nat.reduceAdd, Nat.reduceMul, Nat.reduceSub, Nat.reduceLT, Nat.reduceLeDiff, Nat.reduceBEq, reduceCtorEq, Int.reduceLT, Int.reduceEq, Int.reduceLE, Int.reduceAdd, Int.reduceSub, Int.reduceToNat, Int.reduceNeg]
  refine wE_boxM (m := b) rfl fun y S2 he2 hy hyn => ?_
  have cx := (hx.ext he2).c
  have cy := hy.c
  simp (disch := omega) only [go_sem, ↓reduceIte, Nat.reduceEqDiff, Nat.reduceAdd, Nat.reduceMul, Nat.reduceSub, Nat.reduceLT, Nat.reduceLeDiff, Nat.reduceBEq, reduceCtorEq, Int.reduceLT, Int.reduceEq, Int.reduceLE, Int.reduceAdd, Int.reduceSub, Int.reduceToNat, Int.reduceNeg, cx, cy]
  unfold aheadM
  refine wcond_ndec (fun h => ?_) (fun h => ?_)
  · simp (disch := omega) only [go_sem, ↓reduceIte, Nat.reduceEqDiff, Nat.reduceAdd, Nat.reduceMul, Nat.reduceSub, Nat.reduceLT, Nat.reduceLeDiff, Nat.reduceBEq, reduceCtorEq, Int.reduceLT, Int.reduceEq, Int.reduceLE, Int.reduceAdd, Int.reduceSub, Int.reduceToNat, Int.reduceNeg, cx, cy]
    exact ⟨vb_dec ⟨fun g => .inl g, fun g => g.elim id fun g => absurd g.1.symm h⟩, he1.trans he2⟩
  · simp (disch := omega) only [go_sem, ↓reduceIte, Nat.reduceEqDiff, Nat.reduceAdd, Nat.reduceMul, Nat.reduceSub, Nat.reduceLT, Nat.reduceLeDiff, Nat.reduceBEq, reduceCtorEq, Int.reduceLT, Int.reduceEq, Int.reduceLE, Int.reduceAdd, Int.reduceSub, Int.reduceToNat, Int.reduceNeg, cx, cy]
    refine wJ_of F.dots_Less_P ?_; rintro _ _ ⟨rfl, rfl⟩
    simp (disch := omega) only [go_sem, ↓reduceIte, Nat.reduceEqDiff, Nat.reduceAdd, Nat.reduceMul, Nat.reduceSub, Nat.reduceLT, Nat.reduceLeDiff, Nat.reduceBEq, reduceCtorEq, Int.reduceLT, Int.reduceEq, Int.reduceLE, Int.reduceAdd, Int.reduceSub, Int.reduceToNat, Int.reduceNeg]
    exact ⟨vb_dec ⟨fun g => .inr ⟨h.symm, g⟩, fun g => g.elim (fun g => by omega) fun g => g.2⟩, he1.trans he2⟩
theorem TrR.set_known {S S' : St} {Z : Nat → Prop} {q sb kb : Nat} {kn kn' : List (Dot × Bool)} {lv : Value} {L : List Mv} (T : TrR S Z q sb kb kn lv L) (hm : MapT dotKE boolV true S' kb kn') (hb : St.But (.map (some kb)) S S') : TrR S' Z q sb kb kn' lv L :=
  have hk : ∀ i, i ≠ kb → blkOf (.map (some kb)) ≠ some i := fun i hi e => hi (by simp [blkOf] at e; exact e.symm)
  { T with
    ob := (hb.obj q T.lt (hk q (Ne.symm T.qk))).trans T.ob
    lt := Nat.lt_of_lt_of_le T.lt hb.n
    log := T.log.but enE hb fun j hj => hk j (T.ne j hj).2.2.1
    sp := T.sp.congr dotKE spV hb.n (hb.obj sb T.sp.1 (hk sb (Ne.symm T.sk)))
    known := hm }
theorem TrR.last {S : St} {Z : Nat → Prop} {q sb kb : Nat} {kn : List (Dot × Bool)} {base : Option Addr} {n c : Nat} {L : List Mv} {m : Mv} (T : TrR S Z q sb kb kn (.slice base n c) (L ++ [m])) :
    ∃ b off, base = some ⟨b, off, none⟩ ∧ S.loadN ⟨b, off + L.length * 13, none⟩ 8 = some (mvC m) := by
  have hs := T.log.sl enE
  have hx : (runL (L ++ [m]))[L.length]? = some (doE (runS L) m) := by
    rw [runL_snoc, List.getElem?_append_right (by rw [runL_len]; exact Nat.le_refl _), runL_len]
    simp
  obtain ⟨b, off, h1, h2, h3, -⟩ := hs.at enE hx
  refine ⟨b, off, h1, ?_⟩
  have := St.loadN_sub h3 (k := 0) (m := 8) (by decide)
  exact this
/-- just a tree's own blocks -/
def Zof (q sb kb : Nat) (lv : Value) : Nat → Prop := fun i => i = q ∨ i = sb ∨ i = kb ∨ blkOf lv = some i
theorem TrR.own {S : St} {Z : Nat → Prop} {q sb kb : Nat} {kn : List (Dot × Bool)} {lv : Value} {L : List Mv} (T : TrR S Z q sb kb kn lv L) : TrR S (Zof q sb kb lv) q sb kb kn lv L :=
  { T with ne := fun j hj => let ⟨a, b, c, _⟩ := T.ne j hj; ⟨a, b, c, .inr (.inr (.inr hj))⟩, fq := .inl rfl, fs := .inr (.inl rfl), fk := .inr (.inr (.inl rfl)) }
theorem TrR.own_lt {S : St} {Z : Nat → Prop} {q sb kb : Nat} {kn : List (Dot × Bool)} {lv : Value} {L : List Mv} (T : TrR S Z q sb kb kn lv L) : ∀ i, Zof q sb kb lv i → i < S.n := by
  rintro i (rfl | rfl | rfl | h)
  · exact T.lt
  · exact T.sp.1
  · exact T.known.1
  · exact T.lgt i h
theorem TrR.own_in {S : St} {Z : Nat → Prop} {q sb kb : Nat} {kn : List (Dot × Bool)} {lv : Value} {L : List Mv} (T : TrR S Z q sb kb kn lv L) : ∀ i, Zof q sb kb lv i → Z i := by
  rintro i (rfl | rfl | rfl | h)
  · exact T.fq
  · exact T.fs
  · exact T.fk
  · exact (T.ne i h).2.2.2
/-- a tree: these moves, in their order -/
def TreeT (S : St) (Z : Nat → Prop) (q : Nat) (L : List Mv) : Prop :=
  (∀ i, Z i → i < S.n) ∧ Srt L ∧ ∃ sb kb kn lv, TrR S Z q sb kb kn lv L ∧ (∀ d, d ∈ kn.map Prod.fst ↔ d ∈ L.map Mv.id) ∧ ∀ p ∈ kn, p.2 = true
theorem TreeT.keep {S S' : St} {Z : Nat → Prop} {q : Nat} {L : List Mv} (h : TreeT S Z q L) (hn : S.n ≤ S'.n) (ho : ∀ i, i < S.n → Z i → S'.obj i = S.obj i) : TreeT S' Z q L := by
  obtain ⟨h1, h2, sb, kb, kn, lv, T, h3⟩ := h
  exact ⟨fun i hi => Nat.lt_of_lt_of_le (h1 i hi) hn, h2, sb, kb, kn, lv, T.keep hn ho, h3⟩
theorem TreeT.ext {S S' : St} {Z : Nat → Prop} {q : Nat} {L : List Mv} (h : TreeT S Z q L) (he : S.Ext S') : TreeT S' Z q L := h.keep he.n fun i hi _ => he.obj i hi
theorem TreeT.but {S S' : St} {Z : Nat → Prop} {q : Nat} {L : List Mv} {u : Value} (h : TreeT S Z q L) (hb : St.But u S S') (hu : ∀ j, blkOf u = some j → ¬ Z j) : TreeT S' Z q L := h.keep hb.n fun i hi hz => hb.obj i hi fun e => hu i e hz
theorem TreeT.lt {S : St} {Z : Nat → Prop} {q : Nat} {L : List Mv} (h : TreeT S Z q L) : q < S.n ∧ Z q := let ⟨_, _, _, _, _, _, T, _⟩ := h; ⟨T.lt, T.fq⟩
/-- what a move tells, and the moves behind it -/
def moveA (L : List Mv) (m : Mv) : Int × List Mv := if noneP m.id ∨ noneP m.block then (1, L) else if m.id ∈ L.map Mv.id then (32, L) else (0, insM m L)
theorem F.movetree_Tree_Move_J {S : St} {Z : Nat → Prop} {q : Nat} {L : List Mv} {m : Mv} (h : TreeT S Z q L) (hL : L.length < 80000) :
    J PR F.movetree_Tree_Move [ptrV q, dotV m.id, .int .i64 m.time, dotV m.block, dotV m.parent, .string m.key] S
      fun v S' => v = .int .i64 (moveA L m).1 ∧ ∃ Z', TreeT S' Z' q (moveA L m).2 ∧ (∀ i, Z' i → Z i ∨ S.n ≤ i) ∧ St.Frm Z S S' := by
  obtain ⟨hZ, hS, sb, kb, kn, lv, T, hk1, hk2⟩ := h
  refine J_by PR.mixed F.movetree_Tree_Move.ok (by simp) ?_
  simp (disch := omega) only [go_sem, ↓reduceIte, Nat.reduceEqDiff, Nat.reduceAdd, Nat.reduceMul, Nat.reduceSub, Nat.reduceLT, Nat.reduceLeDiff, Nat.reduceBEq, reduceCtorEq, Int.reduceLT, Int.reduceEq, Int.reduceLE, Int.reduceAdd, Int.reduceSub, Int.reduceToNat, Int.reduceNeg]
  refine wfresh_of fun x hx => ?_
  have e1 := (St.Ext.refl S).put hx (.cells true 2 [.int .i64 m.id.1, .int .i64 m.id.2])
  simp (disch := omega) only [go_sem, ↓reduceIte, Nat.reduceEqDiff, Nat.reduceAdd, Nat.reduceMul, Nat.reduceSub, Nat.reduceLT, Nat.reduceLeDiff, Nat.reduceBEq, reduceCtorEq, Int.reduceLT, Int.reduceEq, Int.reduceLE, Int.reduceAdd, Int.reduceSub, Int.reduceToNat, Int.reduceNeg]
  refine wfresh_of fun y hy => ?_
  have e2 := e1.put hy (.cells true 2 [.int .i64 m.block.1, .int .i64 m.block.2])
  simp (disch := omega) only [go_sem, ↓reduceIte, Nat.reduceEqDiff, Nat.reduceAdd, Nat.reduceMul, Nat.reduceSub, Nat.reduceLT, Nat.reduceLeDiff, Nat.reduceBEq, reduceCtorEq, Int.reduceLT, Int.reduceEq, Int.reduceLE, Int.reduceAdd, Int.reduceSub, Int.reduceToNat, Int.reduceNeg]
  refine wfresh_of fun z hz => ?_
  have e3 := e2.put hz (.cells true 2 [.int .i64 m.parent.1, .int .i64 m.parent.2])
  have cx : (((S.put x (.cells true 2 [.int .i64 m.id.1, .int .i64 m.id.2])).put y (.cells true 2 [.int .i64 m.block.1, .int .i64 m.block.2])).put z (.cells true 2 [.int .i64 m.parent.1, .int .i64 m.parent.2])).obj x = some (.cells true 2 [.int .i64 m.id.1, .int .i64 m.id.2]) := by
    rw [St.put_other _ _ _ (by omega), St.put_other _ _ _ (by omega), St.put_same]
  have cy : (((S.put x (.cells true 2 [.int .i64 m.id.1, .int .i64 m.id.2])).put y (.cells true 2 [.int .i64 m.block.1, .int .i64 m.block.2])).put z (.cells true 2 [.int .i64 m.parent.1, .int .i64 m.parent.2])).obj y = some (.cells true 2 [.int .i64 m.block.1, .int .i64 m.block.2]) := by
    rw [St.put_other _ _ _ (by omega), St.put_same]
  have cz : (((S.put x (.cells true 2 [.int .i64 m.id.1, .int .i64 m.id.2])).put y (.cells true 2 [.int .i64 m.block.1, .int .i64 m.block.2])).put z (.cells true 2 [.int .i64 m.parent.1, .int .i64 m.parent.2])).obj z = some (.cells true 2 [.int .i64 m.parent.1, .int .i64 m.parent.2]) := St.put_same _ _ _
  have hxn : x < (((S.put x (.cells true 2 [.int .i64 m.id.1, .int .i64 m.id.2])).put y (.cells true 2 [.int .i64 m.block.1, .int .i64 m.block.2])).put z (.cells true 2 [.int .i64 m.parent.1, .int .i64 m.parent.2])).n := by simp only [St.put_n]; omega
  have hyn : y < (((S.put x (.cells true 2 [.int .i64 m.id.1, .int .i64 m.id.2])).put y (.cells true 2 [.int .i64 m.block.1, .int .i64 m.block.2])).put z (.cells true 2 [.int .i64 m.parent.1, .int .i64 m.parent.2])).n := by simp only [St.put_n]; omega
  have hzn : z < (((S.put x (.cells true 2 [.int .i64 m.id.1, .int .i64 m.id.2])).put y (.cells true 2 [.int .i64 m.block.1, .int .i64 m.block.2])).put z (.cells true 2 [.int .i64 m.parent.1, .int .i64 m.parent.2])).n := by simp only [St.put_n]; omega
  have cells3 : ∀ {S' : St} {i : Nat} {a b : Int}, S'.obj i = some (.cells true 2 [.int .i64 a, .int .i64 b]) → S'.loadN ⟨i, 0, none⟩ 2 = some [.int .i64 a, .int .i64 b] := fun h => by rw [St.loadN_def, h]; rfl
  simp (disch := omega) only [go_sem, ↓reduceIte, Nat.reduceEqDiff, Nat.reduceAdd, Nat.reduceMul, Nat.reduceSub, Nat.reduceLT, Nat.reduceLeDiff, Nat.reduceBEq, reduceCtorEq, Int.reduceLT, Int.reduceEq, Int.reduceLE, Int.reduceAdd, Int.reduceSub, Int.reduceToNat, Int.reduceNeg, eqN, Option.isNone_none]
  generalize ((S.put x (.cells true 2 [.int .i64 m.id.1, .int .i64 m.id.2])).put y (.cells true 2 [.int .i64 m.block.1, .int .i64 m.block.2])).put z (.cells true 2 [.int .i64 m.parent.1, .int .i64 m.parent.2]) = S1 at *
  have lx := cells3 cx
  have ly := cells3 cy
  have lz := cells3 cz
  have T1 := T.ext e3
  have t1 := T1.c0
  unfold moveA
  have fr1 : St.Frm Z S S1 := (St.Frm.refl Z S).ext e3
  refine wJ_of F.movetree_none_J ?_; rintro _ _ ⟨rfl, rfl⟩
  by_cases n1 : noneP m.id
  · have d1 : decide (noneP m.id) = true := decide_eq_true n1
    rw [if_pos (.inl n1)]
    simp (disch := omega) only [go_sem, ↓reduceIte, Nat.reduceEqDiff, Nat.reduceAdd, Nat.reduceMul, Nat.reduceSub, Nat.reduceLT, Nat.reduceLeDiff, Nat.reduceBEq, reduceCtorEq, Int.reduceLT, Int.reduceEq, Int.reduceLE, Int.reduceAdd, Int.reduceSub, Int.reduceToNat, Int.reduceNeg, d1]
    exact ⟨Z, ⟨fun i hi => Nat.lt_of_lt_of_le (hZ i hi) fr1.n, hS, sb, kb, kn, lv, T1, hk1, hk2⟩, fun i hi => .inl hi, fr1⟩
  have d1 : decide (noneP m.id) = false := decide_eq_false n1
  simp (disch := omega) only [go_sem, ↓reduceIte, Nat.reduceEqDiff, Nat.reduceAdd, Nat.reduceMul, Nat.reduceSub, Nat.reduceLT, Nat.reduceLeDiff, Nat.reduceBEq, reduceCtorEq, Int.reduceLT, Int.reduceEq, Int.reduceLE, Int.reduceAdd, Int.reduceSub, Int.reduceToNat, Int.reduceNeg, d1, ly]
  refine wJ_of F.movetree_none_J ?_; rintro _ _ ⟨rfl, rfl⟩
  by_cases n2 : noneP m.block
  · have d2 : decide (noneP m.block) = true := decide_eq_true n2
    rw [if_pos (.inr n2)]
    simp (disch := omega) only [go_sem, ↓reduceIte, Nat.reduceEqDiff, Nat.reduceAdd, Nat.reduceMul, Nat.reduceSub, Nat.reduceLT, Nat.reduceLeDiff, Nat.reduceBEq, reduceCtorEq, Int.reduceLT, Int.reduceEq, Int.reduceLE, Int.reduceAdd, Int.reduceSub, Int.reduceToNat, Int.reduceNeg, d2]
    exact ⟨Z, ⟨fun i hi => Nat.lt_of_lt_of_le (hZ i hi) fr1.n, hS, sb, kb, kn, lv, T1, hk1, hk2⟩, fun i hi => .inl hi, fr1⟩
  have d2 : decide (noneP m.block) = false := decide_eq_false n2
  rw [if_neg (fun h => h.elim n1 n2)]
  have kf : lookV S1 [.i .i64, .i .i64] true (.bool false) false (.map (some kb)) (dotV m.id) = some (.bool (decide (m.id ∈ L.map Mv.id))) := by
    refine Eq.trans (T1.known.lookV dotKE boolV (.bool false) false m.id) ?_
    simp only [Bool.false_eq_true, if_false]
    cases ha : alook m.id kn with
    | none =>
      have : m.id ∉ L.map Mv.id := fun h => alook_none.1 ha ((hk1 _).2 h)
      simp [this]
    | some t =>
      have h1 := hk2 _ (alook_mem ha)
      have h2 : m.id ∈ L.map Mv.id := (hk1 _).1 (alook_isSome.1 (by rw [ha]; rfl))
      simp only at h1
      subst h1
      simp [h2]
  simp (disch := omega) only [go_sem, ↓reduceIte, Nat.reduceEqDiff, Nat.reduceAdd, Nat.reduceMul, Nat.reduceSub, Nat.reduceLT, Nat.reduceLeDiff, Nat.reduceBEq, reduceCtorEq, Int.reduceLT, Int.reduceEq, Int.reduceLE, Int.reduceAdd, Int.reduceSub, Int.reduceToNat, Int.reduceNeg, d2, t1, lx, kf]
  refine wcond_dec (fun h2 => ?_) (fun h2 => ?_)
  · rw [if_pos h2]
    simp (disch := omega) only [go_sem, ↓reduceIte, Nat.reduceEqDiff, Nat.reduceAdd, Nat.reduceMul, Nat.reduceSub, Nat.reduceLT, Nat.reduceLeDiff, Nat.reduceBEq, reduceCtorEq, Int.reduceLT, Int.reduceEq, Int.reduceLE, Int.reduceAdd, Int.reduceSub, Int.reduceToNat, Int.reduceNeg]
    exact ⟨Z, ⟨fun i hi => Nat.lt_of_lt_of_le (hZ i hi) fr1.n, hS, sb, kb, kn, lv, T1, hk1, hk2⟩, fun i hi => .inl hi, fr1⟩
  rw [if_neg h2]
  simp (disch := omega) only [go_sem, ↓reduceIte, Nat.reduceEqDiff, Nat.reduceAdd, Nat.reduceMul, Nat.reduceSub, Nat.reduceLT, Nat.reduceLeDiff, Nat.reduceBEq, reduceCtorEq, Int.reduceLT, Int.reduceEq, Int.reduceLE, Int.reduceAdd, Int.reduceSub, Int.reduceToNat, Int.reduceNeg, t1, lx]
  refine wE_mset dotKE boolV (k := m.id) (v := true) T1.known rfl rfl rfl fun S2 hm2 hb2 => ?_
  have T2 := T1.set_known hm2 hb2
  have hkb : ∀ i, S.n ≤ i → blkOf (.map (some kb)) ≠ some i := fun i hi e => by simp [blkOf] at e; have := T.known.1; omega
  have fr2 : St.Frm Z S S2 := fr1.but hb2 fun j hj => .inl (by simp [blkOf] at hj; subst hj; exact T.fk)
  have lx2 := cells3 ((hb2.obj x hxn (hkb x hx)).trans cx)
  have ly2 := cells3 ((hb2.obj y hyn (hkb y (by omega))).trans cy)
  have lz2 := cells3 ((hb2.obj z hzn (hkb z (by omega))).trans cz)
  simp (disch := omega) only [go_sem, ↓reduceIte, Nat.reduceEqDiff, Nat.reduceAdd, Nat.reduceMul, Nat.reduceSub, Nat.reduceLT, Nat.reduceLeDiff, Nat.reduceBEq, reduceCtorEq, Int.reduceLT, Int.reduceEq, Int.reduceLE, Int.reduceAdd, Int.reduceSub, Int.reduceToNat, Int.reduceNeg, lx2, ly2, lz2]
  refine walloc_M fun w S3 he3 hw3 hwn => ?_
  simp (disch := omega) only [go_sem, ↓reduceIte, Nat.reduceEqDiff, Nat.reduceAdd, Nat.reduceMul, Nat.reduceSub, Nat.reduceLT, Nat.reduceLeDiff, Nat.reduceBEq, reduceCtorEq, Int.reduceLT, Int.reduceEq, Int.reduceLE, Int.reduceAdd, Int.reduceSub, Int.reduceToNat, Int.reduceNeg]
  refine wst_w (mvC m) hw3.2 rfl rfl (by simp) (by decide) rfl fun S4 ow4 hb4 hw4 => ?_
  have hwS : S.n ≤ w := by have := fr2.n; omega
  have hwZ : ∀ j, blkOf (ptrV w) = some j → ¬ Z j := fun j hj hz => by have := hZ j hz; simp [blkOf] at hj; omega
  have T4 := (T2.ext he3).but hb4 hwZ
  have fr4 : St.Frm Z S S4 := (fr2.ext he3).but hb4 fun j hj => .inr (by simp [blkOf] at hj; omega)
  simp (disch := omega) only [go_sem, ↓reduceIte, Nat.reduceEqDiff, Nat.reduceAdd, Nat.reduceMul, Nat.reduceSub, Nat.reduceLT, Nat.reduceLeDiff, Nat.reduceBEq, reduceCtorEq, Int.reduceLT, Int.reduceEq, Int.reduceLE, Int.reduceAdd, Int.reduceSub, Int.reduceToNat, Int.reduceNeg]
  refine wC_at 0 (fun fr S5 => ∃ (L0 A : List Mv) (lv5 v : Value), L = L0 ++ A.reverse ∧ (∀ a ∈ A, aheadM m a) ∧ (∀ a ∈ L0.getLast?, ¬ aheadM m a) ∧ fr 0 = ptrV q ∧ fr 13 = ptrV w ∧ fr 14 = v ∧ TrR S5 Z q sb kb (aset m.id true kn) lv5 L0 ∧
      OwnT mvE S.n S5 v A ∧ (∀ j, blkOf v = some j → j ≠ w) ∧ mvB S5 w m ∧ St.Frm Z S S5) ?_ ?_
  · refine wC_loop (fun n fr S5 => ∃ (L0 A : List Mv) (lv5 v : Value), n = L0.length ∧ L = L0 ++ A.reverse ∧ (∀ a ∈ A, aheadM m a) ∧ fr 0 = ptrV q ∧ fr 13 = ptrV w ∧ fr 14 = v ∧ TrR S5 Z q sb kb (aset m.id true kn) lv5 L0 ∧
      OwnT mvE S.n S5 v A ∧ (∀ j, blkOf v = some j → j ≠ w) ∧ mvB S5 w m ∧ St.Frm Z S S5) L.length
      ⟨L, [], lv, nilS, by simp (disch := omega) only [go_sem, ↓reduceIte, Nat.reduceEqDiff, Nat.reduceAdd, Nat.reduceMul, Nat.reduceSub, Nat.reduceLT, Nat.reduceLeDiff, Nat.reduceBEq, reduceCtorEq, Int.reduceLT, Int.reduceEq, Int.reduceLE, Int.reduceAdd, Int.reduceSub, Int.reduceToNat, Int.reduceNeg]; exact ⟨by simp, T4, OwnT.nil mvE _ _, by simp [blkOf], ⟨hw4, ow4⟩, fr4⟩⟩ ?_
    rintro n fr S5 ⟨L0, A, lv5, v, rfl, hLA, hA, g0, g13, g14, T5, ho5, hnw, hw5, fr5⟩
    have t5 := T5.c0
    have cw := hw5.c
    obtain ⟨b5, k5, hlv⟩ := (T5.log.sl enE).len enE
    subst hlv
    rw [runL_len] at t5
    simp (disch := omega) only [go_sem, ↓reduceIte, Nat.reduceEqDiff, Nat.reduceAdd, Nat.reduceMul, Nat.reduceSub, Nat.reduceLT, Nat.reduceLeDiff, Nat.reduceBEq, reduceCtorEq, Int.reduceLT, Int.reduceEq, Int.reduceLE, Int.reduceAdd, Int.reduceSub, Int.reduceToNat, Int.reduceNeg, F.movetree_Tree_Move.l0, g0, g13, g14, t5, cw]
    refine wguard_dec (fun hp => ?_) (fun hp => ?_)
    · have hne : L0 ≠ [] := by rintro rfl; simp at hp
      obtain ⟨L1, e, rfl⟩ : ∃ L1 e, L0 = L1 ++ [e] := ⟨L0.dropLast, L0.getLast hne, (List.dropLast_concat_getLast hne).symm⟩
      obtain ⟨b6, o6, rfl, hl6⟩ := T5.last
      have el : (L1 ++ [e]).length = L1.length + 1 := by simp
      have hlen := congrArg List.length hLA
      simp only [List.length_append, List.length_reverse, List.length_singleton] at hlen
      rw [el] at t5
      have i1 : ((L1.length + 1 : Nat) : Int) - 1 = (L1.length : Int) := by omega
      have i2 : (0 : Int) ≤ (L1.length : Int) ∧ (L1.length : Int) < ((L1.length + 1 : Nat) : Int) := by omega
      have i3 : (0 : Int) < ((L1.length + 1 : Nat) : Int) := by omega
      simp (disch := omega) only [go_sem, ↓reduceIte, Nat.reduceEqDiff, Nat.reduceAdd, Nat.reduceMul, Nat.reduceSub, Nat.reduceLT, Nat.reduceLeDiff, Nat.reduceBEq, reduceCtorEq, Int.reduceLT, Int.reduceEq, Int.reduceLE, Int.reduceAdd, Int.reduceSub, Int.reduceToNat, Int.reduceNeg, g0, g13, t5, cw, el, i1, i2, i3, hl6]
      refine wJ_of F.movetree_later_J ?_; rintro _ _ ⟨rfl, rfl⟩
      simp (disch := omega) only [go_sem, ↓reduceIte, Nat.reduceEqDiff, Nat.reduceAdd, Nat.reduceMul, Nat.reduceSub, Nat.reduceLT, Nat.reduceLeDiff, Nat.reduceBEq, reduceCtorEq, Int.reduceLT, Int.reduceEq, Int.reduceLE, Int.reduceAdd, Int.reduceSub, Int.reduceToNat, Int.reduceNeg]
      refine wcond_dec (fun ha => ?_) (fun ha => ?_)
      · simp (disch := omega) only [go_sem, ↓reduceIte, Nat.reduceEqDiff, Nat.reduceAdd, Nat.reduceMul, Nat.reduceSub, Nat.reduceLT, Nat.reduceLeDiff, Nat.reduceBEq, reduceCtorEq, Int.reduceLT, Int.reduceEq, Int.reduceLE, Int.reduceAdd, Int.reduceSub, Int.reduceToNat, Int.reduceNeg, g0]
        refine wJ_of (F.movetree_Tree_undo_J T5 (fun i hi => Nat.lt_of_lt_of_le (hZ i hi) fr5.n) (by omega)) ?_; rintro _ S6 ⟨rfl, ⟨lv6, T6⟩, fr56⟩
        simp (disch := omega) only [go_sem, ↓reduceIte, Nat.reduceEqDiff, Nat.reduceAdd, Nat.reduceMul, Nat.reduceSub, Nat.reduceLT, Nat.reduceLeDiff, Nat.reduceBEq, reduceCtorEq, Int.reduceLT, Int.reduceEq, Int.reduceLE, Int.reduceAdd, Int.reduceSub, Int.reduceToNat, Int.reduceNeg, mvC_len]
        refine wfresh_of fun u hu => ?_
        simp (disch := omega) only [go_sem, ↓reduceIte, Nat.reduceEqDiff, Nat.reduceAdd, Nat.reduceMul, Nat.reduceSub, Nat.reduceLT, Nat.reduceLeDiff, Nat.reduceBEq, reduceCtorEq, Int.reduceLT, Int.reduceEq, Int.reduceLE, Int.reduceAdd, Int.reduceSub, Int.reduceToNat, Int.reduceNeg, g14]
        have e7 := (St.Ext.refl S6).put hu (.cells true 8 (mvC e))
        have ho6 : OwnT mvE S.n S6 v A := ho5.congr mvE fr56.n fun b l c hv hb => fr56.obj b hb fun hz => by
          have h1 := hZ b hz
          have h2 := (ho5.blk mvE b (by rw [hv]; rfl)).1
          omega
        have hw6 : mvB S6 w m := ⟨Nat.lt_of_lt_of_le hw5.1 fr56.n, (fr56.obj w hw5.1 fun hz => by have := hZ w hz; omega).trans hw5.2⟩
        refine wE_app mvE (bytes := 72) (xs := A) (ys := [e]) (ho6.ext mvE e7) (SlT.lit mvE (xs := [e])) rfl rfl (by have h1 := fr5.n; have h2 := fr56.n; have h3 := e7.n; exact Nat.le_trans h1 (Nat.le_trans h2 h3)) (by simp; omega) (by simp; omega) fun v8 S8 ho8 hb8 hv8 => ?_
        simp (disch := omega) only [go_sem, ↓reduceIte, Nat.reduceEqDiff, Nat.reduceAdd, Nat.reduceMul, Nat.reduceSub, Nat.reduceLT, Nat.reduceLeDiff, Nat.reduceBEq, reduceCtorEq, Int.reduceLT, Int.reduceEq, Int.reduceLE, Int.reduceAdd, Int.reduceSub, Int.reduceToNat, Int.reduceNeg, g0, g13]
        have hAm : ∀ a ∈ A ++ [e], aheadM m a := fun a h => by
          rcases List.mem_append.1 h with h | h
          · exact hA a h
          · obtain rfl : a = e := by simpa using h
            exact ha
        have hvb : ∀ j, blkOf v = some j → S.n ≤ j ∧ j < S6.n := fun j hj => ho6.blk mvE j hj
        have nz : ∀ j, Z j → blkOf v ≠ some j := fun j hz hj => by have := hZ j hz; have := (hvb j hj).1; omega
        refine ⟨L1.length, by omega, L1, A ++ [e], lv6, v8, rfl, by rw [hLA]; simp, hAm, rfl, (T6.ext e7).keep hb8.n (fun i hi hz => hb8.obj i hi (nz i hz)), ho8, fun j hj => ?_, ?_, ?_⟩
        · rcases hv8 with hv | ⟨b', hv, hb'⟩
          · rw [hv] at hj; exact hnw j hj
          · rw [hv] at hj
            injection hj with hj
            subst hj
            intro h
            subst h
            exact absurd (Nat.lt_of_lt_of_le hw6.1 (Nat.le_trans e7.n hb')) (Nat.lt_irrefl _)
        · exact (hw6.ext e7).ne hb8 fun hj => hnw w hj rfl
        · exact ((fr5.trans fr56 fun i hi => .inl hi).ext e7).but hb8 fun j hj => .inr (hvb j hj).1
      · simp (disch := omega) only [go_sem, ↓reduceIte, Nat.reduceEqDiff, Nat.reduceAdd, Nat.reduceMul, Nat.reduceSub, Nat.reduceLT, Nat.reduceLeDiff, Nat.reduceBEq, reduceCtorEq, Int.reduceLT, Int.reduceEq, Int.reduceLE, Int.reduceAdd, Int.reduceSub, Int.reduceToNat, Int.reduceNeg]
        refine ⟨L1 ++ [e], A, _, v, hLA, hA, ?_, g0, g13, g14, T5, ho5, hnw, hw5, fr5⟩
        intro a h
        obtain rfl : e = a := by simpa using h
        exact ha
    · have hL0 : L0 = [] := List.eq_nil_of_length_eq_zero (by omega)
      subst hL0
      simp (disch := omega) only [go_sem, ↓reduceIte, Nat.reduceEqDiff, Nat.reduceAdd, Nat.reduceMul, Nat.reduceSub, Nat.reduceLT, Nat.reduceLeDiff, Nat.reduceBEq, reduceCtorEq, Int.reduceLT, Int.reduceEq, Int.reduceLE, Int.reduceAdd, Int.reduceSub, Int.reduceToNat, Int.reduceNeg]
      exact ⟨[], A, _, v, hLA, hA, by simp, g0, g13, g14, T5, ho5, hnw, hw5, fr5⟩
  rintro fr S5 ⟨L0, A, lv5, v, hLA, hA, hlast, g0, g13, g14, T5, ho5, hnw, hw5, fr5⟩
  have cw := hw5.c
  have hlen := congrArg List.length hLA
  simp only [List.length_append, List.length_reverse] at hlen
  simp (disch := omega) only [go_sem, ↓reduceIte, Nat.reduceEqDiff, Nat.reduceAdd, Nat.reduceMul, Nat.reduceSub, Nat.reduceLT, Nat.reduceLeDiff, Nat.reduceBEq, reduceCtorEq, Int.reduceLT, Int.reduceEq, Int.reduceLE, Int.reduceAdd, Int.reduceSub, Int.reduceToNat, Int.reduceNeg, g0, g13, cw]
  refine wJ_of (F.movetree_Tree_do_J T5.own T5.own_lt (by omega)) ?_; rintro _ S6 ⟨⟨lv6, T6⟩, fr56⟩
  have hvb : ∀ j, blkOf v = some j → S.n ≤ j ∧ j < S5.n := fun j hj => ho5.blk mvE j hj
  have hZ5 : ∀ i, Zof q sb kb lv5 i → Z i := T5.own_in
  have next : ∀ {S7 S8 : St} {lv7 lv8 : Value} {M M' : List Mv}, TrR S7 (Zof q sb kb lv7) q sb kb (aset m.id true kn) lv7 M → TrR S8 (grown (Zof q sb kb lv7) S7.n) q sb kb (aset m.id true kn) lv8 M' → St.Frm (Zof q sb kb lv7) S7 S8 →
      (∀ i, Zof q sb kb lv7 i → Z i ∨ S.n ≤ i) → (∀ j, blkOf v = some j → ¬ Zof q sb kb lv7 j) → OwnT mvE S.n S7 v A → St.Frm Z S S7 →
      TrR S8 (Zof q sb kb lv8) q sb kb (aset m.id true kn) lv8 M' ∧ (∀ i, Zof q sb kb lv8 i → Z i ∨ S.n ≤ i) ∧ (∀ j, blkOf v = some j → ¬ Zof q sb kb lv8 j) ∧ OwnT mvE S.n S8 v A ∧ St.Frm Z S S8 := by
    intro S7 S8 lv7 lv8 M M' T7 T8 f78 hz7 hn7 ho7 f7
    refine ⟨T8.own, fun i hi => ?_, fun j hj hz => ?_, ?_, f7.trans f78 hz7⟩
    · rcases T8.own_in i hi with h | h
      · exact hz7 i h
      · exact .inr (Nat.le_trans f7.n h)
    · rcases T8.own_in j hz with h | h
      · exact hn7 j hj h
      · have := (ho7.blk mvE j hj).2
        omega
    · exact ho7.congr mvE f78.n fun b l c hv hb => f78.obj b hb (hn7 b (by rw [hv]; rfl))
  obtain ⟨U6, z6, n6, o6, f6⟩ := next T5.own T6 fr56 (fun i hi => .inl (hZ5 i hi)) (fun j hj hz => by have := hZ j (hZ5 j hz); have := (hvb j hj).1; omega) ho5 fr5
  obtain ⟨bv, kv, hv⟩ := (ho5.sl mvE).len mvE
  subst hv
  simp (disch := omega) only [go_sem, ↓reduceIte, Nat.reduceEqDiff, Nat.reduceAdd, Nat.reduceMul, Nat.reduceSub, Nat.reduceLT, Nat.reduceLeDiff, Nat.reduceBEq, reduceCtorEq, Int.reduceLT, Int.reduceEq, Int.reduceLE, Int.reduceAdd, Int.reduceSub, Int.reduceToNat, Int.reduceNeg, g14]
  refine wC_loop (fun n fr S7 => ∃ (k : Nat) (lv7 : Value), n = k ∧ k ≤ A.length ∧ fr 0 = ptrV q ∧ fr 14 = .slice bv A.length kv ∧ fr 15 = .int .i64 ((k : Int) - 1) ∧ TrR S7 (Zof q sb kb lv7) q sb kb (aset m.id true kn) lv7 (L0 ++ m :: (A.drop k).reverse) ∧
      (∀ i, Zof q sb kb lv7 i → Z i ∨ S.n ≤ i) ∧ (∀ j, blkOf (.slice bv A.length kv) = some j → ¬ Zof q sb kb lv7 j) ∧ OwnT mvE S.n S7 (.slice bv A.length kv) A ∧ St.Frm Z S S7) A.length
      ⟨A.length, lv6, by simp (disch := omega) only [go_sem, ↓reduceIte, Nat.reduceEqDiff, Nat.reduceAdd, Nat.reduceMul, Nat.reduceSub, Nat.reduceLT, Nat.reduceLeDiff, Nat.reduceBEq, reduceCtorEq, Int.reduceLT, Int.reduceEq, Int.reduceLE, Int.reduceAdd, Int.reduceSub, Int.reduceToNat, Int.reduceNeg]; exact ⟨Nat.le_refl _, g0, g14, by simpa using U6, z6, n6, o6, f6⟩⟩ ?_
  rintro n fr S7 ⟨k, lv7, rfl, hk, h0, h14, h15, T7, z7, n7, o7, f7⟩
  simp (disch := omega) only [go_sem, ↓reduceIte, Nat.reduceEqDiff, Nat.reduceAdd, Nat.reduceMul, Nat.reduceSub, Nat.reduceLT, Nat.reduceLeDiff, Nat.reduceBEq, reduceCtorEq, Int.reduceLT, Int.reduceEq, Int.reduceLE, Int.reduceAdd, Int.reduceSub, Int.reduceToNat, Int.reduceNeg, F.movetree_Tree_Move.l1, h0, h14, h15]
  refine wcond_dec (fun hp => ?_) (fun hp => ?_)
  · obtain ⟨k, rfl⟩ : ∃ j, n = j + 1 := ⟨n - 1, by omega⟩
    have hlk : k < A.length := by omega
    have i1 : ((k + 1 : Nat) : Int) - 1 = (k : Int) := by omega
    have i2 : (0 : Int) ≤ (k : Int) ∧ (k : Int) < (A.length : Int) := by omega
    obtain ⟨b8, o8, rfl, hb8, hl8, -⟩ := (o7.sl mvE).at mvE (i := k) (x := A[k]) (by simp [hlk])
    replace hl8 : S7.loadN ⟨b8, o8 + k * 8, none⟩ 8 = some (mvC A[k]) := hl8
    simp (disch := omega) only [go_sem, ↓reduceIte, Nat.reduceEqDiff, Nat.reduceAdd, Nat.reduceMul, Nat.reduceSub, Nat.reduceLT, Nat.reduceLeDiff, Nat.reduceBEq, reduceCtorEq, Int.reduceLT, Int.reduceEq, Int.reduceLE, Int.reduceAdd, Int.reduceSub, Int.reduceToNat, Int.reduceNeg, h0, h14, h15, i1, i2, hl8]
    refine wJ_of (F.movetree_Tree_do_J T7 T7.own_lt ?_) ?_
    · simp only [List.length_append, List.length_cons, List.length_reverse, List.length_drop]
      omega
    rintro _ S8 ⟨⟨lv8, T8⟩, fr78⟩
    obtain ⟨U8, z8, n8, o8', f8⟩ := next T7 T8 fr78 z7 n7 o7 f7
    simp (disch := omega) only [go_sem, ↓reduceIte, Nat.reduceEqDiff, Nat.reduceAdd, Nat.reduceMul, Nat.reduceSub, Nat.reduceLT, Nat.reduceLeDiff, Nat.reduceBEq, reduceCtorEq, Int.reduceLT, Int.reduceEq, Int.reduceLE, Int.reduceAdd, Int.reduceSub, Int.reduceToNat, Int.reduceNeg, h0, h14, h15, i1]
    refine ⟨k, by omega, k, lv8, rfl, by omega, rfl, ?_, z8, n8, o8', f8⟩
    have e : L0 ++ m :: (A.drop k).reverse = L0 ++ m :: (A.drop (k + 1)).reverse ++ [A[k]] := by
      rw [List.drop_eq_getElem_cons hlk]
      simp
    rw [e]
    exact U8
  · simp (disch := omega) only [go_sem, ↓reduceIte, Nat.reduceEqDiff, Nat.reduceAdd, Nat.reduceMul, Nat.reduceSub, Nat.reduceLT, Nat.reduceLeDiff, Nat.reduceBEq, reduceCtorEq, Int.reduceLT, Int.reduceEq, Int.reduceLE, Int.reduceAdd, Int.reduceSub, Int.reduceToNat, Int.reduceNeg]
    have hk0 : n = 0 := by omega
    subst hk0
    have hcut : insM m L = L0 ++ m :: A.reverse := by
      rw [hLA]
      refine Srt.cut (hLA ▸ hS) (hLA ▸ h2) (fun x hx => hA x (by simpa using hx)) hlast
    rw [List.drop_zero, ← hcut] at T7
    refine ⟨Zof q sb kb lv7, ⟨T7.own_lt, hS.ins h2, sb, kb, _, lv7, T7, fun d => ?_, fun p hp => ?_⟩, z7, f7⟩
    · rw [(aset_keys T.known.2.1).2 d, hk1, ((insM_perm m L).map Mv.id).mem_iff]
      simp
    · have hn := (aset_keys (k := m.id) (v := true) T.known.2.1).1
      have := mem_alook hn (x := p.1) (v := p.2) hp
      rw [alook_aset] at this
      split at this
      · injection this with this; exact this.symm
      · exact hk2 p (alook_mem this)
end Go.Osj
