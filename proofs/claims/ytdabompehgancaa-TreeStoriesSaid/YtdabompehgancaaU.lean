/- Trees of blocks: moves done, undone. -/
import Derived.Test.YtdabompehgancaaT
set_option linter.unusedVariables false
set_option linter.unusedSimpArgs false
set_option maxHeartbeats 1000000
namespace Go.Osj
/-- an entry in a block -/
def enB (S : St) (x : Nat) (e : En) : Prop := x < S.n ∧ S.obj x = some (.cells true 13 (enC e))
theorem enB.ext {S S' : St} {x : Nat} {m : En} (h : enB S x m) (he : S.Ext S') : enB S' x m := ⟨Nat.lt_of_lt_of_le h.1 he.n, (he.obj x h.1).trans h.2⟩
theorem enB.ne {S S' : St} {x : Nat} {m : En} {u : Value} (h : enB S x m) (hb : St.But u S S') (hu : blkOf u ≠ some x) : enB S' x m := ⟨Nat.lt_of_lt_of_le h.1 hb.n, (hb.obj x h.1 hu).trans h.2⟩
theorem enB.c {S : St} {x : Nat} {e : En} (h : enB S x e) :
    (S.cell ⟨x, 8, none⟩ = some (.bool e.took) ∧ S.cell ⟨x, 9, none⟩ = some (.bool e.there)) ∧
    (S.loadN ⟨x, 0, none⟩ 2 = some [.int .i64 e.mv.id.1, .int .i64 e.mv.id.2] ∧ S.loadN ⟨x, 6, none⟩ 2 = some [.int .i64 e.mv.block.1, .int .i64 e.mv.block.2] ∧ S.loadN ⟨x, 10, none⟩ 3 = some [.int .i64 e.old.1.1, .int .i64 e.old.1.2, .string e.old.2]) ∧
    S.loadN ⟨x, 0, none⟩ 8 = some (mvC e.mv) ∧ S.loadN ⟨x, 0, none⟩ 13 = some (enC e) := by
  simp only [St.cell_def, St.loadN_def, h.2]
  simp [enC, mvC]
theorem wst_en {S : St} {w off n : Nat} {e : En} {v : Value} {k : KV} (e' : En) (h : enB S w e) (h1 : v.cells.size = n) (h2 : oneC v.cells.toList = true) (h3 : off + n ≤ 13) (hw : wrote (enC e) off v.cells.toList = enC e')
    (hk : ∀ S', enB S' w e' → St.But (ptrV w) S S' → k.run undef S') : @wst (.pointer (some ⟨w, off, none⟩)) v n S k :=
  wst_w _ h.2 h1 h2 (by show off ≤ 13; omega) h3 hw fun S' h1 h2 h3 => hk S' ⟨h3, h1⟩ h2
theorem enC_len (e : En) : (enC e).length = 13 := rfl
def ez : En := ⟨⟨(0, 0), 0, (0, 0), ⟨#[]⟩, (0, 0)⟩, false, false, ((0, 0), ⟨#[]⟩)⟩
theorem walloc_E {S : St} {k : KV} (hk : ∀ x S1, S.Ext S1 → enB S1 x ez → S.n ≤ x → k.run (ptrV x) S1) :
    @wfresh S.n ⟨fun b => k.run (.pointer (some ⟨b, 0, none⟩)) (S.put b (.cells true (enC ez).length (enC ez)))⟩ :=
  wfresh_of fun b hb => hk b _ ((St.Ext.refl S).put hb _) ⟨St.lt_put_self _ _ _, St.put_same _ _ _⟩ hb
/-- nothing outside Z has changed -/
structure St.Frm (Z : Nat → Prop) (S S' : St) : Prop where
  n : S.n ≤ S'.n
  obj : ∀ i, i < S.n → ¬ Z i → S'.obj i = S.obj i
theorem St.Frm.refl (Z : Nat → Prop) (S : St) : St.Frm Z S S := ⟨Nat.le_refl _, fun _ _ _ => rfl⟩
theorem St.Frm.ext {Z : Nat → Prop} {S S1 S2 : St} (h : St.Frm Z S S1) (he : S1.Ext S2) : St.Frm Z S S2 := ⟨Nat.le_trans h.n he.n, fun i hi hn => (he.obj i (Nat.lt_of_lt_of_le hi h.n)).trans (h.obj i hi hn)⟩
theorem St.Frm.but {Z : Nat → Prop} {S S1 S2 : St} {u : Value} (h : St.Frm Z S S1) (hb : St.But u S1 S2) (hu : ∀ j, blkOf u = some j → Z j ∨ S.n ≤ j) : St.Frm Z S S2 :=
  ⟨Nat.le_trans h.n hb.n, fun i hi hn => (hb.obj i (Nat.lt_of_lt_of_le hi h.n) fun e => (hu i e).elim hn (by omega)).trans (h.obj i hi hn)⟩
theorem St.Frm.trans {Z Z' : Nat → Prop} {S S1 S2 : St} (h : St.Frm Z S S1) (h2 : St.Frm Z' S1 S2) (hF : ∀ i, Z' i → Z i ∨ S.n ≤ i) : St.Frm Z S S2 :=
  ⟨Nat.le_trans h.n h2.n, fun i hi hn => (h2.obj i (Nat.lt_of_lt_of_le hi h.n) fun e => (hF i e).elim hn (by omega)).trans (h.obj i hi hn)⟩
/-- a footprint, grown -/
def grown (Z : Nat → Prop) (n : Nat) : Nat → Prop := fun i => Z i ∨ n ≤ i
/-- a tree in memory: these moves, done one by one -/
structure TrR (S : St) (Z : Nat → Prop) (q sb kb : Nat) (kn : List (Dot × Bool)) (lv : Value) (L : List Mv) : Prop where
  ob : S.obj q = some (.cells true 3 [lv, .map (some sb), .map (some kb)])
  lt : q < S.n
  log : OwnT enE 0 S lv (runL L)
  sp : MapT dotKE spV true S sb (runS L)
  known : MapT dotKE boolV true S kb kn
  qs : sb ≠ q
  qk : kb ≠ q
  sk : kb ≠ sb
  ne : ∀ j, blkOf lv = some j → j ≠ q ∧ j ≠ sb ∧ j ≠ kb ∧ Z j
  fq : Z q
  fs : Z sb
  fk : Z kb
namespace TrR
variable {S S' : St} {Z : Nat → Prop} {q sb kb : Nat} {kn : List (Dot × Bool)} {lv : Value} {L : List Mv}
theorem spT (T : TrR S Z q sb kb kn lv L) : SpT S q sb (runS L) := ⟨⟨_, _, _, _, T.ob⟩, T.lt, _, T.sp⟩
theorem lgt (T : TrR S Z q sb kb kn lv L) : ∀ j, blkOf lv = some j → j < S.n := fun j hj => (T.log.blk enE j hj).2
theorem keep (T : TrR S Z q sb kb kn lv L) (hn : S.n ≤ S'.n) (ho : ∀ i, i < S.n → Z i → S'.obj i = S.obj i) : TrR S' Z q sb kb kn lv L where
  ob := (ho q T.lt T.fq).trans T.ob
  lt := Nat.lt_of_lt_of_le T.lt hn
  log := T.log.congr enE hn fun b l c hv hb => ho b hb (T.ne b (by rw [hv]; rfl)).2.2.2
  sp := T.sp.congr dotKE spV hn (ho sb T.sp.1 T.fs)
  known := T.known.congr dotKE boolV hn (ho kb T.known.1 T.fk)
  qs := T.qs
  qk := T.qk
  sk := T.sk
  ne := T.ne
  fq := T.fq
  fs := T.fs
  fk := T.fk
theorem ext (T : TrR S Z q sb kb kn lv L) (he : S.Ext S') : TrR S' Z q sb kb kn lv L := T.keep he.n fun i hi _ => he.obj i hi
theorem but {u : Value} (T : TrR S Z q sb kb kn lv L) (hb : St.But u S S') (hu : ∀ j, blkOf u = some j → ¬ Z j) : TrR S' Z q sb kb kn lv L := T.keep hb.n fun i hi hF => hb.obj i hi fun e => hu i e hF
theorem wide (T : TrR S Z q sb kb kn lv L) {Z' : Nat → Prop} (h : ∀ i, Z i → Z' i) : TrR S Z' q sb kb kn lv L :=
  { T with ne := fun j hj => let ⟨a, b, c, d⟩ := T.ne j hj; ⟨a, b, c, h j d⟩, fq := h _ T.fq, fs := h _ T.fs, fk := h _ T.fk }
theorem c0 (T : TrR S Z q sb kb kn lv L) : S.cell ⟨q, 0, none⟩ = some lv ∧ S.cell ⟨q, 1, none⟩ = some (.map (some sb)) ∧ S.cell ⟨q, 2, none⟩ = some (.map (some kb)) := by
  simp only [St.cell_def, T.ob]
  simp
end TrR
theorem runS_len (L : List Mv) : (runS L).length ≤ L.length := by
  have aux : ∀ (sp : Sp) (m : Mv), (doS sp m).length ≤ sp.length + 1 := by
    intro sp m
    unfold doS
    split
    · have : ∀ (sp : Sp) (k : Dot) (v : Spot), (aset k v sp).length ≤ sp.length + 1 := by
        intro sp k v
        induction sp with
        | nil => simp [aset]
        | cons p r ih => unfold aset; split <;> simp <;> omega
      exact this _ _ _
    · omega
  have : ∀ (L : List Mv) (sp : Sp), (runSF sp L).length ≤ sp.length + L.length := by
    intro L
    induction L with
    | nil => intro sp; simp [runSF]
    | cons m L ih =>
      intro sp
      have h1 := ih (doS sp m)
      have h2 := aux sp m
      have e : runSF sp (m :: L) = runSF (doS sp m) L := rfl
      rw [e, List.length_cons]
      omega
  simpa using this L []
theorem F.movetree_Tree_do_J {S : St} {Z : Nat → Prop} {q sb kb : Nat} {kn : List (Dot × Bool)} {lv : Value} {L : List Mv} {m : Mv} (T : TrR S Z q sb kb kn lv L) (hF : ∀ i, Z i → i < S.n) (hL : L.length < 90000) :
    J PR F.movetree_Tree_do [ptrV q, mvV m] S fun _ S' => (∃ lv', TrR S' (grown Z S.n) q sb kb kn lv' (L ++ [m])) ∧ St.Frm Z S S' := by
  refine J_by PR.mixed F.movetree_Tree_do.ok (by simp) ?_
  simp (disch := omega) only [go_sem, ↓reduceIte, Nat.reduceEqDiff, Nat.reduceAdd, Nat.reduceMul, Nat.reduceSub, Nat.reduceLT, Nat.reduceLeDiff, Nat.reduceBEq, reduceCtorEq, Int.reduceLT, Int.reduceEq, Int.reduceLE, Int.reduceAdd, Int.reduceSub, Int.reduceToNat, Int.reduceNeg]
  refine wE_boxM (m := m) rfl fun x S1 he1 hx hxn => ?_
  have T1 := T.ext he1
  have c1 := hx.c
  simp (disch := omega) only [go_sem, ↓reduceIte, Nat.reduceEqDiff, Nat.reduceAdd, Nat.reduceMul, Nat.reduceSub, Nat.reduceLT, Nat.reduceLeDiff, Nat.reduceBEq, reduceCtorEq, Int.reduceLT, Int.reduceEq, Int.reduceLE, Int.reduceAdd, Int.reduceSub, Int.reduceToNat, Int.reduceNeg, c1, mvC_len]
  refine walloc_E fun y S2 he2 hy hyn => ?_
  have T2 := T1.ext he2
  have hx2 := hx.ext he2
  have c2 := hx2.c
  simp (disch := omega) only [go_sem, ↓reduceIte, Nat.reduceEqDiff, Nat.reduceAdd, Nat.reduceMul, Nat.reduceSub, Nat.reduceLT, Nat.reduceLeDiff, Nat.reduceBEq, reduceCtorEq, Int.reduceLT, Int.reduceEq, Int.reduceLE, Int.reduceAdd, Int.reduceSub, Int.reduceToNat, Int.reduceNeg, c2]
  refine wst_en ⟨m, false, false, zSpot⟩ hy rfl rfl (by decide) rfl fun S3 hy3 hb3 => ?_
  have hyF : ∀ j, blkOf (ptrV y) = some j → ¬ Z j := fun j hj hf => by have := hF j hf; have := he1.n; simp [blkOf] at hj; omega
  have hxy : y ≠ x := by have := hx.1; omega
  have T3 := T2.but hb3 hyF
  have hx3 := hx2.ne hb3 (by simp [blkOf]; exact hxy)
  have c3 := hx3.c
  have t3 := T3.c0
  have f3 := T3.spT.f
  simp (disch := omega) only [go_sem, ↓reduceIte, Nat.reduceEqDiff, Nat.reduceAdd, Nat.reduceMul, Nat.reduceSub, Nat.reduceLT, Nat.reduceLeDiff, Nat.reduceBEq, reduceCtorEq, Int.reduceLT, Int.reduceEq, Int.reduceLE, Int.reduceAdd, Int.reduceSub, Int.reduceToNat, Int.reduceNeg, c3, t3, f3]
  refine wst_en ⟨m, false, false, (alook m.block (runS L)).getD zSpot⟩ hy3 rfl rfl (by decide) rfl fun S4 hy4 hb4 => ?_
  have T4 := T3.but hb4 hyF
  have hx4 := hx3.ne hb4 (by simp [blkOf]; exact hxy)
  have c4 := hx4.c
  have t4 := T4.c0
  have f4 := T4.spT.f
  simp (disch := omega) only [go_sem, ↓reduceIte, Nat.reduceEqDiff, Nat.reduceAdd, Nat.reduceMul, Nat.reduceSub, Nat.reduceLT, Nat.reduceLeDiff, Nat.reduceBEq, reduceCtorEq, Int.reduceLT, Int.reduceEq, Int.reduceLE, Int.reduceAdd, Int.reduceSub, Int.reduceToNat, Int.reduceNeg, c4, t4, f4]
  refine wst_en ⟨m, false, (alook m.block (runS L)).isSome, (alook m.block (runS L)).getD zSpot⟩ hy4 rfl rfl (by decide) rfl fun S5 hy5 hb5 => ?_
  have T5 := T4.but hb5 hyF
  have hx5 := hx4.ne hb5 (by simp [blkOf]; exact hxy)
  have c5 := hx5.c
  simp (disch := omega) only [go_sem, ↓reduceIte, Nat.reduceEqDiff, Nat.reduceAdd, Nat.reduceMul, Nat.reduceSub, Nat.reduceLT, Nat.reduceLeDiff, Nat.reduceBEq, reduceCtorEq, Int.reduceLT, Int.reduceEq, Int.reduceLE, Int.reduceAdd, Int.reduceSub, Int.reduceToNat, Int.reduceNeg, c5]
  refine wJ_of (F.movetree_Tree_may_J T5.spT (okS_run L) (Nat.lt_of_le_of_lt (runS_len L) (by omega))) ?_; rintro _ _ ⟨rfl, rfl⟩
  simp (disch := omega) only [go_sem, ↓reduceIte, Nat.reduceEqDiff, Nat.reduceAdd, Nat.reduceMul, Nat.reduceSub, Nat.reduceLT, Nat.reduceLeDiff, Nat.reduceBEq, reduceCtorEq, Int.reduceLT, Int.reduceEq, Int.reduceLE, Int.reduceAdd, Int.reduceSub, Int.reduceToNat, Int.reduceNeg]
  refine wst_en (doE (runS L) m) hy5 rfl rfl (by decide) rfl fun S6 hy6 hb6 => ?_
  have T6 := T5.but hb6 hyF
  have hx6 := hx5.ne hb6 (by simp [blkOf]; exact hxy)
  have c6 := hx6.c
  have t6 := T6.c0
  have cy6 := hy6.c
  have fr6 : St.Frm Z S S6 := (((((St.Frm.refl Z S).ext (he1.trans he2)).but hb3 fun j hj => by simp [blkOf] at hj; have := he1.n; omega).but hb4 fun j hj => by simp [blkOf] at hj; have := he1.n; omega).but hb5 fun j hj => by simp [blkOf] at hj; have := he1.n; omega).but hb6 fun j hj => by simp [blkOf] at hj; have := he1.n; omega
  by_cases ht : takesP (runS L) m
  · have ht1 : (doE (runS L) m).took = true := decide_eq_true ht
    simp (disch := omega) only [go_sem, ↓reduceIte, Nat.reduceEqDiff, Nat.reduceAdd, Nat.reduceMul, Nat.reduceSub, Nat.reduceLT, Nat.reduceLeDiff, Nat.reduceBEq, reduceCtorEq, Int.reduceLT, Int.reduceEq, Int.reduceLE, Int.reduceAdd, Int.reduceSub, Int.reduceToNat, Int.reduceNeg, c6, t6, cy6, ht1]
    refine wE_mset dotKE spV (k := m.block) (v := (m.parent, m.key)) T6.sp rfl rfl rfl fun S7 hs7 hb7 => ?_
    have hbs : ∀ j, blkOf (.map (some sb)) = some j → j = sb := fun j hj => by simp [blkOf] at hj; exact hj.symm
    have ob7 : S7.obj q = some (.cells true 3 [lv, .map (some sb), .map (some kb)]) := (hb7.obj q T6.lt fun e => T.qs (hbs q e).symm).trans T6.ob
    have log7 : OwnT enE 0 S7 lv (runL L) := T6.log.but enE hb7 fun j hj e => (T.ne j hj).2.1 (hbs j e)
    have kn7 : MapT dotKE boolV true S7 kb kn := T6.known.congr dotKE boolV hb7.n (hb7.obj kb T6.known.1 fun e => T.sk (hbs kb e))
    have hy7 : enB S7 y (doE (runS L) m) := hy6.ne hb7 fun e => by have := hbs y e; have := hF sb T.fs; have := he1.n; omega
    have fr7 : St.Frm Z S S7 := fr6.but hb7 fun j hj => .inl (hbs j hj ▸ T.fs)
    replace hs7 : MapT dotKE spV true S7 sb (doS (runS L) m) := by rw [doS, if_pos ht]; exact hs7
    have hys : y < S7.n := hy7.1
    have cy7 := hy7.c
    have cq7 : S7.cell ⟨q, 0, none⟩ = some lv := by rw [St.cell_def, ob7]; rfl
    have cs7 : S7.cell ⟨q, 1, none⟩ = some (.map (some sb)) := by rw [St.cell_def, ob7]; rfl
    simp (disch := omega) only [go_sem, ↓reduceIte, Nat.reduceEqDiff, Nat.reduceAdd, Nat.reduceMul, Nat.reduceSub, Nat.reduceLT, Nat.reduceLeDiff, Nat.reduceBEq, reduceCtorEq, Int.reduceLT, Int.reduceEq, Int.reduceLE, Int.reduceAdd, Int.reduceSub, Int.reduceToNat, Int.reduceNeg, cy7, cq7, enC_len]
    refine wfresh_of fun z hz => ?_
    have e8 := (St.Ext.refl S7).put hz (.cells true 13 (enC (doE (runS L) m)))
    have cq8 : (S7.put z (.cells true 13 (enC (doE (runS L) m)))).cell ⟨q, 0, none⟩ = some lv := by rw [e8.cell (by have := T.lt; have := fr7.n; omega)]; exact cq7
    simp (disch := omega) only [go_sem, ↓reduceIte, Nat.reduceEqDiff, Nat.reduceAdd, Nat.reduceMul, Nat.reduceSub, Nat.reduceLT, Nat.reduceLeDiff, Nat.reduceBEq, reduceCtorEq, Int.reduceLT, Int.reduceEq, Int.reduceLE, Int.reduceAdd, Int.reduceSub, Int.reduceToNat, Int.reduceNeg, cq8, List.append_nil, enC_len]
    refine wE_app enE (B := 0) (bytes := 112) (xs := runL L) (ys := [doE (runS L) m]) (log7.ext enE e8) (SlT.lit enE (xs := [doE (runS L) m])) rfl rfl (Nat.zero_le _) (by rw [runL_len]; simp; omega) (by rw [runL_len]; simp; omega) fun v9 S9 ho9 hb9 hv9 => ?_
    have ob9 : S9.obj q = some (.cells true 3 [lv, .map (some sb), .map (some kb)]) := by
      rw [hb9.obj q (by have := T.lt; have := fr7.n; have := e8.n; omega) (fun e => (T.ne q e).1 rfl), e8.obj q (by have := T.lt; have := fr7.n; omega)]
      exact ob7
    obtain ⟨b9, k9, hv⟩ := (ho9.sl enE).len enE
    simp (disch := omega) only [go_sem, ↓reduceIte, Nat.reduceEqDiff, Nat.reduceAdd, Nat.reduceMul, Nat.reduceSub, Nat.reduceLT, Nat.reduceLeDiff, Nat.reduceBEq, reduceCtorEq, Int.reduceLT, Int.reduceEq, Int.reduceLE, Int.reduceAdd, Int.reduceSub, Int.reduceToNat, Int.reduceNeg]
    refine wst_w [v9, .map (some sb), .map (some kb)] ob9 (by rw [hv]; rfl) (by rw [hv]; rfl) (by simp) (by simp) (by rw [hv]; rfl) fun S10 ob10 hb10 hq10 => ?_
    simp (disch := omega) only [go_sem, ↓reduceIte, Nat.reduceEqDiff, Nat.reduceAdd, Nat.reduceMul, Nat.reduceSub, Nat.reduceLT, Nat.reduceLeDiff, Nat.reduceBEq, reduceCtorEq, Int.reduceLT, Int.reduceEq, Int.reduceLE, Int.reduceAdd, Int.reduceSub, Int.reduceToNat, Int.reduceNeg]
    have fr8 := fr7.ext e8
    have fr9 : St.Frm Z S S9 := fr8.but hb9 fun j hj => .inl (T.ne j hj).2.2.2
    have fr10 : St.Frm Z S S10 := fr9.but hb10 fun j hj => by simp [blkOf] at hj; subst hj; exact .inl T.fq
    have hsb : sb < S7.n := hs7.1
    have hkb : kb < S7.n := kn7.1
    have nz : ∀ i, i < S7.n → i ≠ z := fun i hi e => by omega
    refine ⟨⟨v9, ob10, hq10, ?_, ?_, ?_, T.qs, T.qk, T.sk, fun j hj => ?_, .inl T.fq, .inl T.fs, .inl T.fk⟩, fr10⟩
    · rw [runL_snoc]
      refine ho9.but enE hb10 fun j hj e => ?_
      simp [blkOf] at e
      subst e
      rcases hv9 with h | ⟨b', h, hb'⟩
      · rw [h] at hj; exact (T.ne q hj).1 rfl
      · rw [h] at hj
        injection hj with hj
        have := T.lt; have := fr8.n
        omega
    · rw [runS_snoc]
      refine hs7.congr dotKE spV (Nat.le_trans e8.n (Nat.le_trans hb9.n hb10.n)) ?_
      rw [hb10.obj sb (by have := e8.n; have := hb9.n; omega) (by simp [blkOf]; exact Ne.symm T.qs), hb9.obj sb (by have := e8.n; omega) (fun e => (T.ne sb e).2.1 rfl), e8.obj sb hsb]
    · refine kn7.congr dotKE boolV (Nat.le_trans e8.n (Nat.le_trans hb9.n hb10.n)) ?_
      rw [hb10.obj kb (by have := e8.n; have := hb9.n; omega) (by simp [blkOf]; exact Ne.symm T.qk), hb9.obj kb (by have := e8.n; omega) (fun e => (T.ne kb e).2.2.1 rfl), e8.obj kb hkb]
    · rcases hv9 with h | ⟨b', h, hb'⟩
      · rw [h] at hj
        obtain ⟨g1, g2, g3, g4⟩ := T.ne j hj
        exact ⟨g1, g2, g3, .inl g4⟩
      · rw [h] at hj
        injection hj with hj
        subst hj
        have := e8.n; have := fr7.n; have := T.lt
        exact ⟨by omega, by omega, by omega, .inr (by omega)⟩
  · have ht1 : (doE (runS L) m).took = false := decide_eq_false ht
    have hs7 : MapT dotKE spV true S6 sb (doS (runS L) m) := by rw [doS, if_neg ht]; exact T6.sp
    have ob7 := T6.ob
    have log7 := T6.log
    have kn7 := T6.known
    have fr7 := fr6
    have hy7 := hy6
    generalize S6 = S7 at *
    simp (disch := omega) only [go_sem, ↓reduceIte, Nat.reduceEqDiff, Nat.reduceAdd, Nat.reduceMul, Nat.reduceSub, Nat.reduceLT, Nat.reduceLeDiff, Nat.reduceBEq, reduceCtorEq, Int.reduceLT, Int.reduceEq, Int.reduceLE, Int.reduceAdd, Int.reduceSub, Int.reduceToNat, Int.reduceNeg, c6, t6, cy6, ht1]
    have hys : y < S7.n := hy7.1
    have cy7 := hy7.c
    have cq7 : S7.cell ⟨q, 0, none⟩ = some lv := by rw [St.cell_def, ob7]; rfl
    have cs7 : S7.cell ⟨q, 1, none⟩ = some (.map (some sb)) := by rw [St.cell_def, ob7]; rfl
    simp (disch := omega) only [go_sem, ↓reduceIte, Nat.reduceEqDiff, Nat.reduceAdd, Nat.reduceMul, Nat.reduceSub, Nat.reduceLT, Nat.reduceLeDiff, Nat.reduceBEq, reduceCtorEq, Int.reduceLT, Int.reduceEq, Int.reduceLE, Int.reduceAdd, Int.reduceSub, Int.reduceToNat, Int.reduceNeg, cy7, cq7, enC_len]
    refine wfresh_of fun z hz => ?_
    have e8 := (St.Ext.refl S7).put hz (.cells true 13 (enC (doE (runS L) m)))
    have cq8 : (S7.put z (.cells true 13 (enC (doE (runS L) m)))).cell ⟨q, 0, none⟩ = some lv := by rw [e8.cell (by have := T.lt; have := fr7.n; omega)]; exact cq7
    simp (disch := omega) only [go_sem, ↓reduceIte, Nat.reduceEqDiff, Nat.reduceAdd, Nat.reduceMul, Nat.reduceSub, Nat.reduceLT, Nat.reduceLeDiff, Nat.reduceBEq, reduceCtorEq, Int.reduceLT, Int.reduceEq, Int.reduceLE, Int.reduceAdd, Int.reduceSub, Int.reduceToNat, Int.reduceNeg, cq8, List.append_nil, enC_len]
    refine wE_app enE (B := 0) (bytes := 112) (xs := runL L) (ys := [doE (runS L) m]) (log7.ext enE e8) (SlT.lit enE (xs := [doE (runS L) m])) rfl rfl (Nat.zero_le _) (by rw [runL_len]; simp; omega) (by rw [runL_len]; simp; omega) fun v9 S9 ho9 hb9 hv9 => ?_
    have ob9 : S9.obj q = some (.cells true 3 [lv, .map (some sb), .map (some kb)]) := by
      rw [hb9.obj q (by have := T.lt; have := fr7.n; have := e8.n; omega) (fun e => (T.ne q e).1 rfl), e8.obj q (by have := T.lt; have := fr7.n; omega)]
      exact ob7
    obtain ⟨b9, k9, hv⟩ := (ho9.sl enE).len enE
    simp (disch := omega) only [go_sem, ↓reduceIte, Nat.reduceEqDiff, Nat.reduceAdd, Nat.reduceMul, Nat.reduceSub, Nat.reduceLT, Nat.reduceLeDiff, Nat.reduceBEq, reduceCtorEq, Int.reduceLT, Int.reduceEq, Int.reduceLE, Int.reduceAdd, Int.reduceSub, Int.reduceToNat, Int.reduceNeg]
    refine wst_w [v9, .map (some sb), .map (some kb)] ob9 (by rw [hv]; rfl) (by rw [hv]; rfl) (by simp) (by simp) (by rw [hv]; rfl) fun S10 ob10 hb10 hq10 => ?_
    simp (disch := omega) only [go_sem, ↓reduceIte, Nat.reduceEqDiff, Nat.reduceAdd, Nat.reduceMul, Nat.reduceSub, Nat.reduceLT, Nat.reduceLeDiff, Nat.reduceBEq, reduceCtorEq, Int.reduceLT, Int.reduceEq, Int.reduceLE, Int.reduceAdd, Int.reduceSub, Int.reduceToNat, Int.reduceNeg]
    have fr8 := fr7.ext e8
    have fr9 : St.Frm Z S S9 := fr8.but hb9 fun j hj => .inl (T.ne j hj).2.2.2
    have fr10 : St.Frm Z S S10 := fr9.but hb10 fun j hj => by simp [blkOf] at hj; subst hj; exact .inl T.fq
    have hsb : sb < S7.n := hs7.1
    have hkb : kb < S7.n := kn7.1
    have nz : ∀ i, i < S7.n → i ≠ z := fun i hi e => by omega
    refine ⟨⟨v9, ob10, hq10, ?_, ?_, ?_, T.qs, T.qk, T.sk, fun j hj => ?_, .inl T.fq, .inl T.fs, .inl T.fk⟩, fr10⟩
    · rw [runL_snoc]
      refine ho9.but enE hb10 fun j hj e => ?_
      simp [blkOf] at e
      subst e
      rcases hv9 with h | ⟨b', h, hb'⟩
      · rw [h] at hj; exact (T.ne q hj).1 rfl
      · rw [h] at hj
        injection hj with hj
        have := T.lt; have := fr8.n
        omega
    · rw [runS_snoc]
      refine hs7.congr dotKE spV (Nat.le_trans e8.n (Nat.le_trans hb9.n hb10.n)) ?_
      rw [hb10.obj sb (by have := e8.n; have := hb9.n; omega) (by simp [blkOf]; exact Ne.symm T.qs), hb9.obj sb (by have := e8.n; omega) (fun e => (T.ne sb e).2.1 rfl), e8.obj sb hsb]
    · refine kn7.congr dotKE boolV (Nat.le_trans e8.n (Nat.le_trans hb9.n hb10.n)) ?_
      rw [hb10.obj kb (by have := e8.n; have := hb9.n; omega) (by simp [blkOf]; exact Ne.symm T.qk), hb9.obj kb (by have := e8.n; omega) (fun e => (T.ne kb e).2.2.1 rfl), e8.obj kb hkb]
    · rcases hv9 with h | ⟨b', h, hb'⟩
      · rw [h] at hj
        obtain ⟨g1, g2, g3, g4⟩ := T.ne j hj
        exact ⟨g1, g2, g3, .inl g4⟩
      · rw [h] at hj
        injection hj with hj
        subst hj
        have := e8.n; have := fr7.n; have := T.lt
        exact ⟨by omega, by omega, by omega, .inr (by omega)⟩
def mz : Mv := ⟨(0, 0), 0, (0, 0), ⟨#[]⟩, (0, 0)⟩
theorem walloc_M {S : St} {k : KV} (hk : ∀ x S1, S.Ext S1 → mvB S1 x mz → S.n ≤ x → k.run (ptrV x) S1) :
    @wfresh S.n ⟨fun b => k.run (.pointer (some ⟨b, 0, none⟩)) (S.put b (.cells true (mvC mz).length (mvC mz)))⟩ :=
  wfresh_of fun b hb => hk b _ ((St.Ext.refl S).put hb _) ⟨St.lt_put_self _ _ _, St.put_same _ _ _⟩ hb
theorem F.movetree_Tree_undo_J {S : St} {Z : Nat → Prop} {q sb kb : Nat} {kn : List (Dot × Bool)} {lv : Value} {L : List Mv} {m : Mv} (T : TrR S Z q sb kb kn lv (L ++ [m])) (hF : ∀ i, Z i → i < S.n) (hL : L.length < 90000) :
    J PR F.movetree_Tree_undo [ptrV q] S fun v S' => v = mvV m ∧ (∃ lv', TrR S' Z q sb kb kn lv' L) ∧ St.Frm Z S S' := by
  have hlen : (runL (L ++ [m])).length = L.length + 1 := by rw [runL_len]; simp
  have hlog := T.log
  rcases hlog with ⟨h, -⟩ | ⟨b, c, hlv, hB, hbn, hc, hob⟩
  · rw [h] at hlen; simp at hlen
  subst hlv
  rw [hlen] at hc
  refine J_weak (J_by PR.mixed F.movetree_Tree_undo.ok (by simp) ?_)
  have t0 := T.c0
  rw [hlen] at t0
  simp (disch := omega) only [go_sem, ↓reduceIte, Nat.reduceEqDiff, Nat.reduceAdd, Nat.reduceMul, Nat.reduceSub, Nat.reduceLT, Nat.reduceLeDiff, Nat.reduceBEq, reduceCtorEq, Int.reduceLT, Int.reduceEq, Int.reduceLE, Int.reduceAdd, Int.reduceSub, Int.reduceToNat, Int.reduceNeg]
  refine walloc_M fun x S1 e1 hx0 hx => ?_
  have T1 := T.ext e1
  have t1 := T1.c0
  rw [hlen] at t1
  have i1 : ((L.length + 1 : Nat) : Int) - 1 = (L.length : Int) := by omega
  have i2 : (0 : Int) ≤ (L.length : Int) ∧ (L.length : Int) < ((L.length + 1 : Nat) : Int) := by omega
  have hld : S1.loadN ⟨b, L.length * 13, none⟩ 13 = some (enC (doE (runS L) m)) := by
    rw [St.loadN_def, e1.obj b hbn, hob]
    have h13 : enE.k = 13 := rfl
    have hl : (enE.flat (runL (L ++ [m]))).length = (L.length + 1) * 13 := by rw [enE.flat_length, hlen, h13]
    simp only [hl]
    rw [if_pos (by omega)]
    have := enE.flat_at (runL (L ++ [m])) L.length (doE (runS L) m) (by rw [runL_snoc, List.getElem?_append_right (by rw [runL_len]; exact Nat.le_refl _), runL_len]; simp)
    exact congrArg some this
  simp (disch := omega) only [go_sem, ↓reduceIte, Nat.reduceEqDiff, Nat.reduceAdd, Nat.reduceMul, Nat.reduceSub, Nat.reduceLT, Nat.reduceLeDiff, Nat.reduceBEq, reduceCtorEq, Int.reduceLT, Int.reduceEq, Int.reduceLE, Int.reduceAdd, Int.reduceSub, Int.reduceToNat, Int.reduceNeg, t1, i1, i2, hld]
  refine walloc_E fun y S2 he2 hy hyn => ?_
  have g2 : S.Ext S2 := e1.trans he2
  have t2 := (T.ext g2).c0
  rw [hlen] at t2
  simp (disch := omega) only [go_sem, ↓reduceIte, Nat.reduceEqDiff, Nat.reduceAdd, Nat.reduceMul, Nat.reduceSub, Nat.reduceLT, Nat.reduceLeDiff, Nat.reduceBEq, reduceCtorEq, Int.reduceLT, Int.reduceEq, Int.reduceLE, Int.reduceAdd, Int.reduceSub, Int.reduceToNat, Int.reduceNeg]
  refine wst_en (doE (runS L) m) hy rfl rfl (by decide) rfl fun S3 hy3 hb3 => ?_
  have hxy : y ≠ x := by have := hx0.1; omega
  have hyF : ∀ j, blkOf (ptrV y) = some j → ¬ Z j := fun j hj hf => by have := hF j hf; have := e1.n; simp [blkOf] at hj; omega
  have T3 := (T.ext g2).but hb3 hyF
  have t3 := T3.c0
  rw [hlen] at t3
  have hsl : slV 13 (.slice (some ⟨b, 0, none⟩) (L.length + 1) c) none (some (.int .i64 L.length)) none = some (.slice (some ⟨b, 0, none⟩) L.length c) := by
    have h1 : (0 : Int) ≤ (L.length : Int) ∧ (L.length : Int) ≤ (c : Int) := by omega
    have h2 : ¬ c = 0 := by omega
    have h3 : bndHV c (L.length + 1) (some (.int .i64 L.length)) none = some L.length := by
      simp only [bndHV]
      exact bndV_int rfl (by omega)
    simp only [slV, show bndV c c none = some c from rfl, Option.bind_some, h3, show bndV L.length 0 none = some 0 from rfl]
    rw [if_neg h2]
    simp
  simp (disch := omega) only [go_sem, ↓reduceIte, Nat.reduceEqDiff, Nat.reduceAdd, Nat.reduceMul, Nat.reduceSub, Nat.reduceLT, Nat.reduceLeDiff, Nat.reduceBEq, reduceCtorEq, Int.reduceLT, Int.reduceEq, Int.reduceLE, Int.reduceAdd, Int.reduceSub, Int.reduceToNat, Int.reduceNeg, t3, i1, hsl]
  refine wst_w [.slice (some ⟨b, 0, none⟩) L.length c, .map (some sb), .map (some kb)] T3.ob rfl rfl (by simp) (by simp) rfl fun S4 ob4 hb4 hq4 => ?_
  have hqy : q ≠ y := by have := T.lt; have := e1.n; omega
  have hy4 := hy3.ne hb4 (by simp [blkOf]; exact hqy)
  have cy4 := hy4.c
  have cq4 : S4.cell ⟨q, 1, none⟩ = some (.map (some sb)) := by rw [St.cell_def, ob4]; rfl
  have hbq : b ≠ q ∧ b ≠ sb ∧ b ≠ kb ∧ Z b := T.ne b rfl
  have fr3 : St.Frm Z S S3 := ((St.Frm.refl Z S).ext g2).but hb3 fun j hj => .inr (by simp [blkOf] at hj; have := e1.n; omega)
  have fr4 : St.Frm Z S S4 := fr3.but hb4 fun j hj => .inl (by simp [blkOf] at hj; subst hj; exact T.fq)
  have sp4 : MapT dotKE spV true S4 sb (doS (runS L) m) := by
    rw [← runS_snoc]
    exact T3.sp.congr dotKE spV hb4.n (hb4.obj sb T3.sp.1 (by simp [blkOf]; exact Ne.symm T.qs))
  have kn4 : MapT dotKE boolV true S4 kb kn := T3.known.congr dotKE boolV hb4.n (hb4.obj kb T3.known.1 (by simp [blkOf]; exact Ne.symm T.qk))
  have x1 : x < S1.n := hx0.1
  have x4 : x < S4.n := by have := he2.n; have := hb3.n; have := hb4.n; omega
  have ox4 : S4.obj x = some (.cells true 8 [.int .i64 0, .int .i64 0, .int .i64 0, .int .i64 0, .int .i64 0, .string ⟨#[]⟩, .int .i64 0, .int .i64 0]) := by
    rw [hb4.obj x (by have := he2.n; have := hb3.n; omega) (by simp [blkOf]; have := T.lt; omega), hb3.obj x (by have := he2.n; omega) (by simp [blkOf]; exact hxy), he2.obj x x1]
    exact hx0.2
  have obb4 : S4.obj b = some (.cells true (c * 13) (enE.flat (runL (L ++ [m])))) := by
    rw [hb4.obj b (by have := fr3.n; omega) (by simp [blkOf]; exact Ne.symm hbq.1), hb3.obj b (by have := g2.n; omega) (by simp [blkOf]; have := e1.n; omega), g2.obj b hbn]
    exact hob
  have hbs : ∀ j, blkOf (.map (some sb)) = some j → j = sb := fun j hj => by simp [blkOf] at hj; exact hj.symm
  have hsS := T.sp.1
  have hkS := T.known.1
  have hu := undo_do (sp := runS L) (m := m)
  cases htk : (doE (runS L) m).took with
  | false =>
    rw [htk, if_neg (by decide)] at hu
    have hs7 : MapT dotKE spV true S4 sb (runS L) := by rw [hu] at sp4; exact sp4
    have ob7 := ob4
    have obb7 := obb4
    have ox7 := ox4
    have kn7 := kn4
    have fr7 := fr4
    have hy7 := hy4
    simp (disch := omega) only [go_sem, ↓reduceIte, Nat.reduceEqDiff, Nat.reduceAdd, Nat.reduceMul, Nat.reduceSub, Nat.reduceLT, Nat.reduceLeDiff, Nat.reduceBEq, reduceCtorEq, Int.reduceLT, Int.reduceEq, Int.reduceLE, Int.reduceAdd, Int.reduceSub, Int.reduceToNat, Int.reduceNeg, cy4, htk]
    generalize S4 = S7 at *
    have cy7 := hy7.c
    try simp (disch := omega) only [go_sem, ↓reduceIte, Nat.reduceEqDiff, Nat.reduceAdd, Nat.reduceMul, Nat.reduceSub, Nat.reduceLT, Nat.reduceLeDiff, Nat.reduceBEq, reduceCtorEq, Int.reduceLT, Int.reduceEq, Int.reduceLE, Int.reduceAdd, Int.reduceSub, Int.reduceToNat, Int.reduceNeg, cy7]
    refine wst_w (mvC m) ox7 rfl rfl (by simp) (by decide) rfl fun S8 ox8 hb8 hx8 => ?_
    have cx8 : S8.loadN ⟨x, 0, none⟩ 8 = some (mvC m) := by rw [St.loadN_def, ox8]; rfl
    simp (disch := omega) only [go_sem, ↓reduceIte, Nat.reduceEqDiff, Nat.reduceAdd, Nat.reduceMul, Nat.reduceSub, Nat.reduceLT, Nat.reduceLeDiff, Nat.reduceBEq, reduceCtorEq, Int.reduceLT, Int.reduceEq, Int.reduceLE, Int.reduceAdd, Int.reduceSub, Int.reduceToNat, Int.reduceNeg, cx8]
    have hxne : ∀ i, i < S.n → blkOf (ptrV x) ≠ some i := fun i hi e => by simp [blkOf] at e; omega
    have fr8 : St.Frm Z S S8 := fr7.but hb8 fun j hj => .inr (by simp [blkOf] at hj; omega)
    have obb8 : S8.obj b = some (.cells true (c * 13) (enE.flat (runL (L ++ [m])))) := (hb8.obj b (by have := fr7.n; omega) (hxne b hbn)).trans obb7
    have hbq : b ≠ q ∧ b ≠ sb ∧ b ≠ kb ∧ Z b := T.ne b rfl
    have hcut : (enE.flat (runL (L ++ [m]))).take (L.length * 13) = enE.flat (runL L) := by
      have := enE.flat_take (runL (L ++ [m])) L.length
      rw [runL_snoc, List.take_left' (runL_len L)] at this
      rw [runL_snoc]
      exact this
    have hbn8 : b < S8.n := by have := fr8.n; omega
    refine ⟨S8.put b (.cells true (c * 13) (enE.flat (runL L))), fun c0 w hr => by have := hr.cut obb8 (L.length * 13); rw [hcut] at this; exact this, ⟨.slice (some ⟨b, 0, none⟩) L.length c, ?_, ?_, ?_, ?_, ?_, T.qs, T.qk, T.sk, fun j hj => ?_, T.fq, T.fs, T.fk⟩, ?_, ?_⟩
    · rw [St.put_other _ _ _ (Ne.symm hbq.1), hb8.obj q (by have := T.lt; have := fr7.n; omega) (hxne q T.lt)]
      exact ob7
    · exact St.lt_put (by have := T.lt; have := fr8.n; omega) _ _
    · refine .inr ⟨b, c, by rw [runL_len], Nat.zero_le _, St.lt_put_self _ _ _, by rw [runL_len]; omega, St.put_same _ _ _⟩
    · refine hs7.congr dotKE spV (by have := hb8.n; rw [St.put_n]; omega) ?_
      rw [St.put_other _ _ _ (Ne.symm hbq.2.1), hb8.obj sb hs7.1 (hxne sb T.sp.1)]
    · refine kn7.congr dotKE boolV (by have := hb8.n; rw [St.put_n]; omega) ?_
      rw [St.put_other _ _ _ (Ne.symm hbq.2.2.1), hb8.obj kb kn7.1 (hxne kb T.known.1)]
    · simp [blkOf] at hj
      subst hj
      exact hbq
    · have := fr8.n; rw [St.put_n]; omega
    · intro i hi hn
      rw [St.put_other _ _ _ (fun e => hn (by rw [e]; exact hbq.2.2.2))]
      exact fr8.obj i hi hn
  | true =>
    rw [htk, if_pos rfl] at hu
    cases hth : (doE (runS L) m).there with
    | true =>
      rw [hth, if_pos rfl] at hu
      simp (disch := omega) only [go_sem, ↓reduceIte, Nat.reduceEqDiff, Nat.reduceAdd, Nat.reduceMul, Nat.reduceSub, Nat.reduceLT, Nat.reduceLeDiff, Nat.reduceBEq, reduceCtorEq, Int.reduceLT, Int.reduceEq, Int.reduceLE, Int.reduceAdd, Int.reduceSub, Int.reduceToNat, Int.reduceNeg, cy4, cq4, htk, hth]
      refine wE_mset dotKE spV (k := m.block) (v := (doE (runS L) m).old) sp4 rfl rfl rfl fun S7 hs7 hb7 => ?_
      rw [hu] at hs7
      have ob7 := (hb7.obj q (by have := T.lt; have := fr4.n; omega) fun e => T.qs (hbs q e).symm).trans ob4
      have obb7 := (hb7.obj b (by have := fr4.n; omega) fun e => hbq.2.1 (hbs b e)).trans obb4
      have ox7 := (hb7.obj x x4 fun e => by have := hbs x e; omega).trans ox4
      have kn7 : MapT dotKE boolV true S7 kb kn := kn4.congr dotKE boolV hb7.n (hb7.obj kb kn4.1 fun e => T.sk (hbs kb e))
      have fr7 : St.Frm Z S S7 := fr4.but hb7 fun j hj => .inl (hbs j hj ▸ T.fs)
      have hy7 : enB S7 y (doE (runS L) m) := hy4.ne hb7 fun e => by have := hbs y e; have := e1.n; omega
      have cy7 := hy7.c
      try simp (disch := omega) only [go_sem, ↓reduceIte, Nat.reduceEqDiff, Nat.reduceAdd, Nat.reduceMul, Nat.reduceSub, Nat.reduceLT, Nat.reduceLeDiff, Nat.reduceBEq, reduceCtorEq, Int.reduceLT, Int.reduceEq, Int.reduceLE, Int.reduceAdd, Int.reduceSub, Int.reduceToNat, Int.reduceNeg, cy7]
      refine wst_w (mvC m) ox7 rfl rfl (by simp) (by decide) rfl fun S8 ox8 hb8 hx8 => ?_
      have cx8 : S8.loadN ⟨x, 0, none⟩ 8 = some (mvC m) := by rw [St.loadN_def, ox8]; rfl
      simp (disch := omega) only [go_sem, ↓reduceIte, Nat.reduceEqDiff, Nat.reduceAdd, Nat.reduceMul, Nat.reduceSub, Nat.reduceLT, Nat.reduceLeDiff, Nat.reduceBEq, reduceCtorEq, Int.reduceLT, Int.reduceEq, Int.reduceLE, Int.reduceAdd, Int.reduceSub, Int.reduceToNat, Int.reduceNeg, cx8]
      have hxne : ∀ i, i < S.n → blkOf (ptrV x) ≠ some i := fun i hi e => by simp [blkOf] at e; omega
      have fr8 : St.Frm Z S S8 := fr7.but hb8 fun j hj => .inr (by simp [blkOf] at hj; omega)
      have obb8 : S8.obj b = some (.cells true (c * 13) (enE.flat (runL (L ++ [m])))) := (hb8.obj b (by have := fr7.n; omega) (hxne b hbn)).trans obb7
      have hbq : b ≠ q ∧ b ≠ sb ∧ b ≠ kb ∧ Z b := T.ne b rfl
      have hcut : (enE.flat (runL (L ++ [m]))).take (L.length * 13) = enE.flat (runL L) := by
        have := enE.flat_take (runL (L ++ [m])) L.length
        rw [runL_snoc, List.take_left' (runL_len L)] at this
        rw [runL_snoc]
        exact this
      have hbn8 : b < S8.n := by have := fr8.n; omega
      refine ⟨S8.put b (.cells true (c * 13) (enE.flat (runL L))), fun c0 w hr => by have := hr.cut obb8 (L.length * 13); rw [hcut] at this; exact this, ⟨.slice (some ⟨b, 0, none⟩) L.length c, ?_, ?_, ?_, ?_, ?_, T.qs, T.qk, T.sk, fun j hj => ?_, T.fq, T.fs, T.fk⟩, ?_, ?_⟩
      · rw [St.put_other _ _ _ (Ne.symm hbq.1), hb8.obj q (by have := T.lt; have := fr7.n; omega) (hxne q T.lt)]
        exact ob7
      · exact St.lt_put (by have := T.lt; have := fr8.n; omega) _ _
      · refine .inr ⟨b, c, by rw [runL_len], Nat.zero_le _, St.lt_put_self _ _ _, by rw [runL_len]; omega, St.put_same _ _ _⟩
      · refine hs7.congr dotKE spV (by have := hb8.n; rw [St.put_n]; omega) ?_
        rw [St.put_other _ _ _ (Ne.symm hbq.2.1), hb8.obj sb hs7.1 (hxne sb T.sp.1)]
      · refine kn7.congr dotKE boolV (by have := hb8.n; rw [St.put_n]; omega) ?_
        rw [St.put_other _ _ _ (Ne.symm hbq.2.2.1), hb8.obj kb kn7.1 (hxne kb T.known.1)]
      · simp [blkOf] at hj
        subst hj
        exact hbq
      · have := fr8.n; rw [St.put_n]; omega
      · intro i hi hn
        rw [St.put_other _ _ _ (fun e => hn (by rw [e]; exact hbq.2.2.2))]
        exact fr8.obj i hi hn
    | false =>
      rw [hth, if_neg (by decide)] at hu
      simp (disch := omega) only [go_sem, ↓reduceIte, Nat.reduceEqDiff, Nat.reduceAdd, Nat.reduceMul, Nat.reduceSub, Nat.reduceLT, Nat.reduceLeDiff, Nat.reduceBEq, reduceCtorEq, Int.reduceLT, Int.reduceEq, Int.reduceLE, Int.reduceAdd, Int.reduceSub, Int.reduceToNat, Int.reduceNeg, cy4, cq4, htk, hth]
      refine wE_mdel dotKE spV (k := m.block) sp4 rfl rfl fun S7 hs7 hb7 => ?_
      rw [hu] at hs7
      have ob7 := (hb7.obj q (by have := T.lt; have := fr4.n; omega) fun e => T.qs (hbs q e).symm).trans ob4
      have obb7 := (hb7.obj b (by have := fr4.n; omega) fun e => hbq.2.1 (hbs b e)).trans obb4
      have ox7 := (hb7.obj x x4 fun e => by have := hbs x e; omega).trans ox4
      have kn7 : MapT dotKE boolV true S7 kb kn := kn4.congr dotKE boolV hb7.n (hb7.obj kb kn4.1 fun e => T.sk (hbs kb e))
      have fr7 : St.Frm Z S S7 := fr4.but hb7 fun j hj => .inl (hbs j hj ▸ T.fs)
      have hy7 : enB S7 y (doE (runS L) m) := hy4.ne hb7 fun e => by have := hbs y e; have := e1.n; omega
      have cy7 := hy7.c
      try simp (disch := omega) only [go_sem, ↓reduceIte, Nat.reduceEqDiff, Nat.reduceAdd, Nat.reduceMul, Nat.reduceSub, Nat.reduceLT, Nat.reduceLeDiff, Nat.reduceBEq, reduceCtorEq, Int.reduceLT, Int.reduceEq, Int.reduceLE, Int.reduceAdd, Int.reduceSub, Int.reduceToNat, Int.reduceNeg, cy7]
      refine wst_w (mvC m) ox7 rfl rfl (by simp) (by decide) rfl fun S8 ox8 hb8 hx8 => ?_
      have cx8 : S8.loadN ⟨x, 0, none⟩ 8 = some (mvC m) := by rw [St.loadN_def, ox8]; rfl
      simp (disch := omega) only [go_sem, ↓reduceIte, Nat.reduceEqDiff, Nat.reduceAdd, Nat.reduceMul, Nat.reduceSub, Nat.reduceLT, Nat.reduceLeDiff, Nat.reduceBEq, reduceCtorEq, Int.reduceLT, Int.reduceEq, Int.reduceLE, Int.reduceAdd, Int.reduceSub, Int.reduceToNat, Int.reduceNeg, cx8]
      have hxne : ∀ i, i < S.n → blkOf (ptrV x) ≠ some i := fun i hi e => by simp [blkOf] at e; omega
      have fr8 : St.Frm Z S S8 := fr7.but hb8 fun j hj => .inr (by simp [blkOf] at hj; omega)
      have obb8 : S8.obj b = some (.cells true (c * 13) (enE.flat (runL (L ++ [m])))) := (hb8.obj b (by have := fr7.n; omega) (hxne b hbn)).trans obb7
      have hbq : b ≠ q ∧ b ≠ sb ∧ b ≠ kb ∧ Z b := T.ne b rfl
      have hcut : (enE.flat (runL (L ++ [m]))).take (L.length * 13) = enE.flat (runL L) := by
        have := enE.flat_take (runL (L ++ [m])) L.length
        rw [runL_snoc, List.take_left' (runL_len L)] at this
        rw [runL_snoc]
        exact this
      have hbn8 : b < S8.n := by have := fr8.n; omega
      refine ⟨S8.put b (.cells true (c * 13) (enE.flat (runL L))), fun c0 w hr => by have := hr.cut obb8 (L.length * 13); rw [hcut] at this; exact this, ⟨.slice (some ⟨b, 0, none⟩) L.length c, ?_, ?_, ?_, ?_, ?_, T.qs, T.qk, T.sk, fun j hj => ?_, T.fq, T.fs, T.fk⟩, ?_, ?_⟩
      · rw [St.put_other _ _ _ (Ne.symm hbq.1), hb8.obj q (by have := T.lt; have := fr7.n; omega) (hxne q T.lt)]
        exact ob7
      · exact St.lt_put (by have := T.lt; have := fr8.n; omega) _ _
      · refine .inr ⟨b, c, by rw [runL_len], Nat.zero_le _, St.lt_put_self _ _ _, by rw [runL_len]; omega, St.put_same _ _ _⟩
      · refine hs7.congr dotKE spV (by have := hb8.n; rw [St.put_n]; omega) ?_
        rw [St.put_other _ _ _ (Ne.symm hbq.2.1), hb8.obj sb hs7.1 (hxne sb T.sp.1)]
      · refine kn7.congr dotKE boolV (by have := hb8.n; rw [St.put_n]; omega) ?_
        rw [St.put_other _ _ _ (Ne.symm hbq.2.2.1), hb8.obj kb kn7.1 (hxne kb T.known.1)]
      · simp [blkOf] at hj
        subst hj
        exact hbq
      · have := fr8.n; rw [St.put_n]; omega
      · intro i hi hn
        rw [St.put_other _ _ _ (fun e => hn (by rw [e]; exact hbq.2.2.2))]
        exact fr8.obj i hi hn
end Go.Osj
