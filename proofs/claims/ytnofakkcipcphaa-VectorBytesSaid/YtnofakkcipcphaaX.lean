/- Contracts of layer 4: vectors made. -/
import Derived.Test.YtnofakkcipcphaaW
set_option linter.unusedSimpArgs false
namespace Go.Osj
theorem F.slices_Grow_api_Vector_api_Dot.J {S : St} {n : Nat} (hn : n < 1000000) : J PR F.slices_Grow_api_Vector_api_Dot [.slice none 0 0, .int .i64 n] S fun v S' => OwnT dotE S.n S' v [] ∧ S.Ext S' := by
  refine J_weak (J_by PR.mixed F.slices_Grow_api_Vector_api_Dot.ok (by simp) ?_)
  simp (disch := omega) only [go_sem, ↓reduceIte, Nat.reduceEqDiff, Nat.reduceAdd, Nat.reduceMul, Nat.reduceSub, Nat.reduceLT, Nat.reduceLeDiff, Nat.reduceBEq, Nat.reduceLeDiff, reduceCtorEq, Int.reduceLT, Int.reduceEq, Int.reduceLE, Int.reduceAdd, Int.reduceSub, Int.reduceToNat, Int.reduceNeg, Int.toNat_natCast, beq_self_eq_true, wrap64, undef, Nat.zero_add, Nat.add_zero, Int.zero_add, Int.add_zero, Int.sub_zero, St.loadN_other, St.cell_other]
  have h0 : ¬ ((n : Int) < 0) := by omega
  simp (disch := omega) only [go_sem, ↓reduceIte, Nat.reduceEqDiff, Nat.reduceAdd, Nat.reduceMul, Nat.reduceSub, Nat.reduceLT, Nat.reduceLeDiff, Nat.reduceBEq, Nat.reduceLeDiff, reduceCtorEq, Int.reduceLT, Int.reduceEq, Int.reduceLE, Int.reduceAdd, Int.reduceSub, Int.reduceToNat, Int.reduceNeg, Int.toNat_natCast, beq_self_eq_true, wrap64, undef, Nat.zero_add, Nat.add_zero, Int.zero_add, Int.add_zero, Int.sub_zero, St.loadN_other, St.cell_other, h0]
  refine wcond_dec (fun hp => ?_) (fun hp => ?_)
  · simp (disch := omega) only [go_sem, ↓reduceIte, Nat.reduceEqDiff, Nat.reduceAdd, Nat.reduceMul, Nat.reduceSub, Nat.reduceLT, Nat.reduceLeDiff, Nat.reduceBEq, Nat.reduceLeDiff, reduceCtorEq, Int.reduceLT, Int.reduceEq, Int.reduceLE, Int.reduceAdd, Int.reduceSub, Int.reduceToNat, Int.reduceNeg, Int.toNat_natCast, beq_self_eq_true, wrap64, undef, Nat.zero_add, Nat.add_zero, Int.zero_add, Int.add_zero, Int.sub_zero, St.loadN_other, St.cell_other]
    have e1 : slV 2 (.slice none 0 0) none (some (.int .i64 0)) none = some (.slice none 0 0) := rfl
    simp (disch := omega) only [go_sem, ↓reduceIte, Nat.reduceEqDiff, Nat.reduceAdd, Nat.reduceMul, Nat.reduceSub, Nat.reduceLT, Nat.reduceLeDiff, Nat.reduceBEq, Nat.reduceLeDiff, reduceCtorEq, Int.reduceLT, Int.reduceEq, Int.reduceLE, Int.reduceAdd, Int.reduceSub, Int.reduceToNat, Int.reduceNeg, Int.toNat_natCast, beq_self_eq_true, wrap64, undef, Nat.zero_add, Nat.add_zero, Int.zero_add, Int.add_zero, Int.sub_zero, St.loadN_other, St.cell_other, e1]
    unfold wE
    simp only [JE]
    refine ⟨by omega, by omega, by simp; omega, fun h => by omega, fun _ => ⟨[], by simp [St.loadSl], by omega, by omega, by omega, fun b c hb hc => ?_⟩⟩
    simp (disch := omega) only [go_sem, ↓reduceIte, Nat.reduceEqDiff, Nat.reduceAdd, Nat.reduceMul, Nat.reduceSub, Nat.reduceLT, Nat.reduceLeDiff, Nat.reduceBEq, Nat.reduceLeDiff, reduceCtorEq, Int.reduceLT, Int.reduceEq, Int.reduceLE, Int.reduceAdd, Int.reduceSub, Int.reduceToNat, Int.reduceNeg, Int.toNat_natCast, beq_self_eq_true, wrap64, undef, Nat.zero_add, Nat.add_zero, Int.zero_add, Int.add_zero, Int.sub_zero, St.loadN_other, St.cell_other]
    have e2 : slV 2 (.slice (some ⟨b, 0, none⟩) n c) none (some (.int .i64 0)) none = some (.slice (some ⟨b, 0, none⟩) 0 c) := by
      simp only [slV, bndV, bndHV, Option.bind_some]
      rw [if_pos ⟨by omega, by omega⟩]
      simp
    simp (disch := omega) only [go_sem, ↓reduceIte, Nat.reduceEqDiff, Nat.reduceAdd, Nat.reduceMul, Nat.reduceSub, Nat.reduceLT, Nat.reduceLeDiff, Nat.reduceBEq, Nat.reduceLeDiff, reduceCtorEq, Int.reduceLT, Int.reduceEq, Int.reduceLE, Int.reduceAdd, Int.reduceSub, Int.reduceToNat, Int.reduceNeg, Int.toNat_natCast, beq_self_eq_true, wrap64, undef, Nat.zero_add, Nat.add_zero, Int.zero_add, Int.add_zero, Int.sub_zero, St.loadN_other, St.cell_other, e2]
    refine ⟨_, fun c0 w hr => Rel.cut hr (St.put_same _ _ _) 0, ?_, ?_⟩
    · rw [St.put_put]
      exact OwnT.mk dotE (xs := []) hb (St.lt_put_self _ _ _) (Nat.zero_le _) (by rw [St.put_same]; rfl)
    · rw [St.put_put]
      exact (St.Ext.refl S).put hb _
  · simp (disch := omega) only [go_sem, ↓reduceIte, Nat.reduceEqDiff, Nat.reduceAdd, Nat.reduceMul, Nat.reduceSub, Nat.reduceLT, Nat.reduceLeDiff, Nat.reduceBEq, Nat.reduceLeDiff, reduceCtorEq, Int.reduceLT, Int.reduceEq, Int.reduceLE, Int.reduceAdd, Int.reduceSub, Int.reduceToNat, Int.reduceNeg, Int.toNat_natCast, beq_self_eq_true, wrap64, undef, Nat.zero_add, Nat.add_zero, Int.zero_add, Int.add_zero, Int.sub_zero, St.loadN_other, St.cell_other]
    exact ⟨S, fun c0 w hr => hr, OwnT.nil .., St.Ext.refl _⟩
theorem F.slices_Concat_api_Vector_api_Dot.J {S : St} {y : Nat} {va vb : Value} {rw : Bool} {xs ys : List Dot} (hy : S.obj y = some (.cells rw 2 [va, vb])) (ha : SlT dotE S va xs) (hb : SlT dotE S vb ys) (hL : xs.length < 100000) (hL2 : ys.length < 100000) (hyn : y < S.n) :
    J PR F.slices_Concat_api_Vector_api_Dot [.slice (some ⟨y, 0, none⟩) 2 2] S fun v S' => OwnT dotE S.n S' v (xs ++ ys) ∧ S.Ext S' := by
  obtain ⟨ba, ca, rfl⟩ := ha.len dotE
  obtain ⟨bb, cb, rfl⟩ := hb.len dotE
  have l0 : S.cell ⟨y, 0, none⟩ = some (.slice ba xs.length ca) := by rw [St.cell_def, hy]; rfl
  have l1 : S.cell ⟨y, 1, none⟩ = some (.slice bb ys.length cb) := by rw [St.cell_def, hy]; rfl
  refine J_by PR.mixed F.slices_Concat_api_Vector_api_Dot.ok (by simp) ?_
  simp (disch := omega) only [go_sem, ↓reduceIte, Nat.reduceEqDiff, Nat.reduceAdd, Nat.reduceMul, Nat.reduceSub, Nat.reduceLT, Nat.reduceLeDiff, Nat.reduceBEq, Nat.reduceLeDiff, reduceCtorEq, Int.reduceLT, Int.reduceEq, Int.reduceLE, Int.reduceAdd, Int.reduceSub, Int.reduceToNat, Int.reduceNeg, Int.toNat_natCast, beq_self_eq_true, wrap64, undef, Nat.zero_add, Nat.add_zero, Int.zero_add, Int.add_zero, Int.sub_zero, St.loadN_other, St.cell_other]
  refine wC_unroll ?_
  simp (disch := omega) only [go_sem, ↓reduceIte, Nat.reduceEqDiff, Nat.reduceAdd, Nat.reduceMul, Nat.reduceSub, Nat.reduceLT, Nat.reduceLeDiff, Nat.reduceBEq, Nat.reduceLeDiff, reduceCtorEq, Int.reduceLT, Int.reduceEq, Int.reduceLE, Int.reduceAdd, Int.reduceSub, Int.reduceToNat, Int.reduceNeg, Int.toNat_natCast, beq_self_eq_true, wrap64, undef, Nat.zero_add, Nat.add_zero, Int.zero_add, Int.add_zero, Int.sub_zero, St.loadN_other, St.cell_other, F.slices_Concat_api_Vector_api_Dot.l0, l0]
  have c1 : ¬ ((xs.length : Int) < 0) := by omega
  have c2 : ¬ ((xs.length : Int) + (ys.length : Int) < 0) := by omega
  simp (disch := omega) only [go_sem, ↓reduceIte, Nat.reduceEqDiff, Nat.reduceAdd, Nat.reduceMul, Nat.reduceSub, Nat.reduceLT, Nat.reduceLeDiff, Nat.reduceBEq, Nat.reduceLeDiff, reduceCtorEq, Int.reduceLT, Int.reduceEq, Int.reduceLE, Int.reduceAdd, Int.reduceSub, Int.reduceToNat, Int.reduceNeg, Int.toNat_natCast, beq_self_eq_true, wrap64, undef, Nat.zero_add, Nat.add_zero, Int.zero_add, Int.add_zero, Int.sub_zero, St.loadN_other, St.cell_other, c1]
  refine wC_unroll ?_
  simp (disch := omega) only [go_sem, ↓reduceIte, Nat.reduceEqDiff, Nat.reduceAdd, Nat.reduceMul, Nat.reduceSub, Nat.reduceLT, Nat.reduceLeDiff, Nat.reduceBEq, Nat.reduceLeDiff, reduceCtorEq, Int.reduceLT, Int.reduceEq, Int.reduceLE, Int.reduceAdd, Int.reduceSub, Int.reduceToNat, Int.reduceNeg, Int.toNat_natCast, beq_self_eq_true, wrap64, undef, Nat.zero_add, Nat.add_zero, Int.zero_add, Int.add_zero, Int.sub_zero, St.loadN_other, St.cell_other, F.slices_Concat_api_Vector_api_Dot.l0, l1, c2]
  refine wC_unroll ?_
  simp (disch := omega) only [go_sem, ↓reduceIte, Nat.reduceEqDiff, Nat.reduceAdd, Nat.reduceMul, Nat.reduceSub, Nat.reduceLT, Nat.reduceLeDiff, Nat.reduceBEq, Nat.reduceLeDiff, reduceCtorEq, Int.reduceLT, Int.reduceEq, Int.reduceLE, Int.reduceAdd, Int.reduceSub, Int.reduceToNat, Int.reduceNeg, Int.toNat_natCast, beq_self_eq_true, wrap64, undef, Nat.zero_add, Nat.add_zero, Int.zero_add, Int.add_zero, Int.sub_zero, St.loadN_other, St.cell_other, F.slices_Concat_api_Vector_api_Dot.l0]
  rw [show ((xs.length : Int) + (ys.length : Int)) = ((xs.length + ys.length : Nat) : Int) by omega]
  refine wJ_of (F.slices_Grow_api_Vector_api_Dot.J (n := xs.length + ys.length) (by omega)) ?_
  rintro v S1 ⟨ho, he⟩
  have l0' : S1.cell ⟨y, 0, none⟩ = _ := (he.cell hyn 0).trans l0
  simp (disch := omega) only [go_sem, ↓reduceIte, Nat.reduceEqDiff, Nat.reduceAdd, Nat.reduceMul, Nat.reduceSub, Nat.reduceLT, Nat.reduceLeDiff, Nat.reduceBEq, Nat.reduceLeDiff, reduceCtorEq, Int.reduceLT, Int.reduceEq, Int.reduceLE, Int.reduceAdd, Int.reduceSub, Int.reduceToNat, Int.reduceNeg, Int.toNat_natCast, beq_self_eq_true, wrap64, undef, Nat.zero_add, Nat.add_zero, Int.zero_add, Int.add_zero, Int.sub_zero, St.loadN_other, St.cell_other]
  refine wC_unroll ?_
  simp (disch := omega) only [go_sem, ↓reduceIte, Nat.reduceEqDiff, Nat.reduceAdd, Nat.reduceMul, Nat.reduceSub, Nat.reduceLT, Nat.reduceLeDiff, Nat.reduceBEq, Nat.reduceLeDiff, reduceCtorEq, Int.reduceLT, Int.reduceEq, Int.reduceLE, Int.reduceAdd, Int.reduceSub, Int.reduceToNat, Int.reduceNeg, Int.toNat_natCast, beq_self_eq_true, wrap64, undef, Nat.zero_add, Nat.add_zero, Int.zero_add, Int.add_zero, Int.sub_zero, St.loadN_other, St.cell_other, F.slices_Concat_api_Vector_api_Dot.l1, l0']
  refine wE_app dotE ho (ha.ext dotE he) rfl rfl he.n (by simp; omega) (by simp; omega) fun v2 S2 ho2 hb2 hv2 => ?_
  have hf1 : ∀ j, blkOf v = some j → S.n ≤ j := fun j hj => (ho.blk dotE j hj).1
  have he2 := he.but hb2 hf1
  have l1' : S2.cell ⟨y, 1, none⟩ = _ := (he2.cell hyn 1).trans l1
  simp (disch := omega) only [go_sem, ↓reduceIte, Nat.reduceEqDiff, Nat.reduceAdd, Nat.reduceMul, Nat.reduceSub, Nat.reduceLT, Nat.reduceLeDiff, Nat.reduceBEq, Nat.reduceLeDiff, reduceCtorEq, Int.reduceLT, Int.reduceEq, Int.reduceLE, Int.reduceAdd, Int.reduceSub, Int.reduceToNat, Int.reduceNeg, Int.toNat_natCast, beq_self_eq_true, wrap64, undef, Nat.zero_add, Nat.add_zero, Int.zero_add, Int.add_zero, Int.sub_zero, St.loadN_other, St.cell_other]
  refine wC_unroll ?_
  simp (disch := omega) only [go_sem, ↓reduceIte, Nat.reduceEqDiff, Nat.reduceAdd, Nat.reduceMul, Nat.reduceSub, Nat.reduceLT, Nat.reduceLeDiff, Nat.reduceBEq, Nat.reduceLeDiff, reduceCtorEq, Int.reduceLT, Int.reduceEq, Int.reduceLE, Int.reduceAdd, Int.reduceSub, Int.reduceToNat, Int.reduceNeg, Int.toNat_natCast, beq_self_eq_true, wrap64, undef, Nat.zero_add, Nat.add_zero, Int.zero_add, Int.add_zero, Int.sub_zero, St.loadN_other, St.cell_other, F.slices_Concat_api_Vector_api_Dot.l1, l1']
  refine wE_app dotE ho2 (hb.ext dotE he2) rfl rfl he2.n (by simp; omega) (by simp; omega) fun v3 S3 ho3 hb3 hv3 => ?_
  have hf2 : ∀ j, blkOf v2 = some j → S.n ≤ j := fun j hj => (ho2.blk dotE j hj).1
  simp (disch := omega) only [go_sem, ↓reduceIte, Nat.reduceEqDiff, Nat.reduceAdd, Nat.reduceMul, Nat.reduceSub, Nat.reduceLT, Nat.reduceLeDiff, Nat.reduceBEq, Nat.reduceLeDiff, reduceCtorEq, Int.reduceLT, Int.reduceEq, Int.reduceLE, Int.reduceAdd, Int.reduceSub, Int.reduceToNat, Int.reduceNeg, Int.toNat_natCast, beq_self_eq_true, wrap64, undef, Nat.zero_add, Nat.add_zero, Int.zero_add, Int.add_zero, Int.sub_zero, St.loadN_other, St.cell_other]
  refine wC_unroll ?_
  simp (disch := omega) only [go_sem, ↓reduceIte, Nat.reduceEqDiff, Nat.reduceAdd, Nat.reduceMul, Nat.reduceSub, Nat.reduceLT, Nat.reduceLeDiff, Nat.reduceBEq, Nat.reduceLeDiff, reduceCtorEq, Int.reduceLT, Int.reduceEq, Int.reduceLE, Int.reduceAdd, Int.reduceSub, Int.reduceToNat, Int.reduceNeg, Int.toNat_natCast, beq_self_eq_true, wrap64, undef, Nat.zero_add, Nat.add_zero, Int.zero_add, Int.add_zero, Int.sub_zero, St.loadN_other, St.cell_other, F.slices_Concat_api_Vector_api_Dot.l1]
  exact ⟨by simpa using ho3, he2.but hb3 hf2⟩
theorem F.slices_Clone_api_Vector_api_Dot_J {S : St} {l : Value} {xs : List Dot} (hl : SlT dotE S l xs) (hL : xs.length < 100000) : J PR F.slices_Clone_api_Vector_api_Dot [l] S fun v S' => OwnT dotE S.n S' v xs ∧ S.Ext S' := by
  obtain ⟨base, cap, rfl⟩ := hl.len dotE
  refine J_by PR.mixed F.slices_Clone_api_Vector_api_Dot.ok (by simp) ?_
  cases base with
  | none =>
    obtain ⟨b2, c2, he, h1, h2, h3⟩ := hl
    injection he with e1 e2 e3
    subst e1 e3
    simp only [okB] at h2
    have hx : xs = [] := List.eq_nil_of_length_eq_zero (by omega)
    subst hx
    simp (disch := omega) only [go_sem, ↓reduceIte, Nat.reduceEqDiff, Nat.reduceAdd, Nat.reduceMul, Nat.reduceSub, Nat.reduceLT, Nat.reduceLeDiff, Nat.reduceBEq, Nat.reduceLeDiff, reduceCtorEq, Int.reduceLT, Int.reduceEq, Int.reduceLE, Int.reduceAdd, Int.reduceSub, Int.reduceToNat, Int.reduceNeg, Int.toNat_natCast, beq_self_eq_true, wrap64, undef, Nat.zero_add, Nat.add_zero, Int.zero_add, Int.add_zero, Int.sub_zero, St.loadN_other, St.cell_other, eqN, Option.isNone_none]
    exact ⟨OwnT.nil .., St.Ext.refl _⟩
  | some a =>
    simp (disch := omega) only [go_sem, ↓reduceIte, Nat.reduceEqDiff, Nat.reduceAdd, Nat.reduceMul, Nat.reduceSub, Nat.reduceLT, Nat.reduceLeDiff, Nat.reduceBEq, Nat.reduceLeDiff, reduceCtorEq, Int.reduceLT, Int.reduceEq, Int.reduceLE, Int.reduceAdd, Int.reduceSub, Int.reduceToNat, Int.reduceNeg, Int.toNat_natCast, beq_self_eq_true, wrap64, undef, Nat.zero_add, Nat.add_zero, Int.zero_add, Int.add_zero, Int.sub_zero, St.loadN_other, St.cell_other, eqN]
    refine wfresh_of fun y hy => ?_
    simp (disch := omega) only [go_sem, ↓reduceIte, Nat.reduceEqDiff, Nat.reduceAdd, Nat.reduceMul, Nat.reduceSub, Nat.reduceLT, Nat.reduceLeDiff, Nat.reduceBEq, Nat.reduceLeDiff, reduceCtorEq, Int.reduceLT, Int.reduceEq, Int.reduceLE, Int.reduceAdd, Int.reduceSub, Int.reduceToNat, Int.reduceNeg, Int.toNat_natCast, beq_self_eq_true, wrap64, undef, Nat.zero_add, Nat.add_zero, Int.zero_add, Int.add_zero, Int.sub_zero, St.loadN_other, St.cell_other]
    have he := (St.Ext.refl S).put hy (.cells true 0 [])
    refine wE_app dotE (OwnT.mk dotE (xs := []) hy (St.lt_put_self _ _ _) (Nat.le_refl 0) (St.put_same _ _ _)) (hl.ext dotE he) rfl rfl (by rw [St.put_n]; omega) (by first | omega | (simp; done) | (simp; omega)) (by first | omega | (simp; done) | (simp; omega)) fun v S1 ho hb hv => ?_
    simp (disch := omega) only [go_sem, ↓reduceIte, Nat.reduceEqDiff, Nat.reduceAdd, Nat.reduceMul, Nat.reduceSub, Nat.reduceLT, Nat.reduceLeDiff, Nat.reduceBEq, Nat.reduceLeDiff, reduceCtorEq, Int.reduceLT, Int.reduceEq, Int.reduceLE, Int.reduceAdd, Int.reduceSub, Int.reduceToNat, Int.reduceNeg, Int.toNat_natCast, beq_self_eq_true, wrap64, undef, Nat.zero_add, Nat.add_zero, Int.zero_add, Int.add_zero, Int.sub_zero, St.loadN_other, St.cell_other]
    exact ⟨by simpa using ho, he.but hb (by simp only [blkOf]; rintro i ⟨⟩; exact hy)⟩

/-- a function value of two numbers that only counts -/
def FunI (f : Value) (c : Int → Int → Int) : Prop :=
  ∃ g first captured, f = .func (.func g) first captured ∧ callable PR g = true ∧ ∀ S x y, J PR g (first.toList ++ [.int .i64 x, .int .i64 y] ++ captured.toList) S fun v S' => v = .int .i64 (c x y) ∧ S = S'
theorem FunI.call {S : St} {f : Value} {c : Int → Int → Int} (h : FunI f c) {x y : Int} {k : KV} (hk : k.run (.int .i64 (c x y)) S) : @wcallv PR f [.int .i64 x, .int .i64 y] S k := by
  obtain ⟨g, first, captured, rfl, hc, hj⟩ := h
  exact ⟨hc, (hj S x y).mono fun v S' ⟨h1, h2⟩ => by subst h1 h2; exact hk⟩
theorem funI_join : FunI (.func (.func F.vector_Join_c1) #[] #[]) max := by
  refine ⟨_, _, _, rfl, F.vector_Join_c1.cl, fun S x y => J_by PR.mixed F.vector_Join_c1.ok (by simp) ?_⟩
  show wC (q := _) PR F.vector_Join_c1.ic (mkFr [.int .i64 x, .int .i64 y]) S
  simp (disch := omega) only [go_sem, ↓reduceIte, Nat.reduceEqDiff, Nat.reduceAdd, Nat.reduceMul, Nat.reduceSub, Nat.reduceLT, Nat.reduceLeDiff, Nat.reduceBEq, Nat.reduceLeDiff, reduceCtorEq, Int.reduceLT, Int.reduceEq, Int.reduceLE, Int.reduceAdd, Int.reduceSub, Int.reduceToNat, Int.reduceNeg, Int.toNat_natCast, beq_self_eq_true, wrap64, undef, Nat.zero_add, Nat.add_zero, Int.zero_add, Int.add_zero, Int.sub_zero, St.loadN_other, St.cell_other]
theorem funI_meet : FunI (.func (.func F.vector_Meet_c1) #[] #[]) min := by
  refine ⟨_, _, _, rfl, F.vector_Meet_c1.cl, fun S x y => J_by PR.mixed F.vector_Meet_c1.ok (by simp) ?_⟩
  show wC (q := _) PR F.vector_Meet_c1.ic (mkFr [.int .i64 x, .int .i64 y]) S
  simp (disch := omega) only [go_sem, ↓reduceIte, Nat.reduceEqDiff, Nat.reduceAdd, Nat.reduceMul, Nat.reduceSub, Nat.reduceLT, Nat.reduceLeDiff, Nat.reduceBEq, Nat.reduceLeDiff, reduceCtorEq, Int.reduceLT, Int.reduceEq, Int.reduceLE, Int.reduceAdd, Int.reduceSub, Int.reduceToNat, Int.reduceNeg, Int.toNat_natCast, beq_self_eq_true, wrap64, undef, Nat.zero_add, Nat.add_zero, Int.zero_add, Int.add_zero, Int.sub_zero, St.loadN_other, St.cell_other]

/-! ### each -/
/-- what is made of the first so many -/
structure EachI (c : Int → Int → Int) (xs ys rs out : List Dot) : Prop where
  is : isV out
  src : ∀ e ∈ out, ∃ d ∈ rs, e.1 = d.1
  val : ∀ e ∈ out, e.2 = c (getV xs e.1) (getV ys e.1)
  all : ∀ d ∈ rs, 0 < c (getV xs d.1) (getV ys d.1) → ∃ e ∈ out, e.1 = d.1
theorem EachI.nil {c : Int → Int → Int} {xs ys : List Dot} : EachI c xs ys [] [] := ⟨isV_nil, by simp, by simp, by simp⟩
theorem choice_may {c : Int → Int → Int} (hc : Choice c) {xs ys : List Dot} (hx : isV xs) (hy : isV ys) {a : Int} (h : 0 < c (getV xs a) (getV ys a)) : mayP (a, c (getV xs a) (getV ys a)) := by
  rcases hc.one (getV xs a) (getV ys a) with h1 | h1
  · rw [h1] at h ⊢
    have h2 := getV_range hx a
    have h3 := getV_act hx (a := a) (by omega)
    unfold mayP; simp only; omega
  · rw [h1] at h ⊢
    have h2 := getV_range hy a
    have h3 := getV_act hy (a := a) (by omega)
    unfold mayP; simp only; omega
theorem EachI.put {c : Int → Int → Int} (hc : Choice c) {xs ys rs out : List Dot} (hx : isV xs) (hy : isV ys) (h : EachI c xs ys rs out) {d : Dot} (hp : 0 < c (getV xs d.1) (getV ys d.1)) (hlt : ∀ e ∈ out, e.1 < d.1) : EachI c xs ys (rs ++ [d]) (out ++ [(d.1, c (getV xs d.1) (getV ys d.1))]) := by
  refine ⟨isV_snoc.2 ⟨h.is, choice_may hc hx hy hp, hlt⟩, fun e he => ?_, fun e he => ?_, fun q hq hpos => ?_⟩
  · rcases List.mem_append.1 he with he | he
    · obtain ⟨q, h1, h2⟩ := h.src e he
      exact ⟨q, by simp [h1], h2⟩
    · simp at he; subst he; exact ⟨d, by simp, rfl⟩
  · rcases List.mem_append.1 he with he | he
    · exact h.val e he
    · simp at he; subst he; rfl
  · rcases List.mem_append.1 hq with hq | hq
    · obtain ⟨e, h1, h2⟩ := h.all q hq hpos
      exact ⟨e, by simp [h1], h2⟩
    · simp at hq; subst hq; exact ⟨_, List.mem_append_right _ (List.mem_singleton_self _), rfl⟩
theorem EachI.skip {c : Int → Int → Int} {xs ys rs out : List Dot} (h : EachI c xs ys rs out) {d : Dot} (hs : 0 < c (getV xs d.1) (getV ys d.1) → ∃ e ∈ out, e.1 = d.1) : EachI c xs ys (rs ++ [d]) out := by
  refine ⟨h.is, fun e he => ?_, h.val, fun q hq hpos => ?_⟩
  · obtain ⟨q, h1, h2⟩ := h.src e he
    exact ⟨q, by simp [h1], h2⟩
  · rcases List.mem_append.1 hq with hq | hq
    · exact h.all q hq hpos
    · simp at hq; subst hq; exact hs hpos
theorem EachI.eq {c : Int → Int → Int} (hc : Choice c) {xs ys rs out : List Dot} (hx : isV xs) (hy : isV ys) (hr : ∀ d, d ∈ xs ++ ys → ∃ r ∈ rs, r.1 = d.1) (h : EachI c xs ys rs out) : out = eachV c xs ys := by
  refine eachV_eq hc hx hy h.is fun a => ?_
  have hr1 := getV_range hx a
  have hr2 := getV_range hy a
  have hfr : 0 ≤ c (getV xs a) (getV ys a) := by rcases hc.one (getV xs a) (getV ys a) with h | h <;> omega
  by_cases hp : 0 < c (getV xs a) (getV ys a)
  · have : ∃ d ∈ rs, d.1 = a := by
      by_cases h1 : getV xs a = 0
      · by_cases h2 : getV ys a = 0
        · rw [h1, h2, hc.zero] at hp; omega
        · exact hr _ (List.mem_append_right _ (mem_getV h2))
      · exact hr _ (List.mem_append_left _ (mem_getV h1))
    obtain ⟨d, hd, rfl⟩ := this
    obtain ⟨e, he, hed⟩ := h.all d hd hp
    rw [← hed, getV_mem h.is he, h.val e he]
  · by_cases h0 : getV out a = 0
    · omega
    · have hm := mem_getV h0
      have h1 := h.val _ hm
      simp only at h1
      have h2 := h.is.2 _ hm
      unfold mayP at h2
      simp only at h2
      omega

theorem isV_last {v : List Dot} (h : isV v) {j : Nat} (hj : j < v.length) (hl : j + 1 = v.length) : ∀ e ∈ v, e.1 ≤ v[j].1 := by
  intro e he
  obtain ⟨k, hk, rfl⟩ := List.mem_iff_getElem.1 he
  by_cases hkj : k = j
  · subst hkj; exact Int.le_refl _
  · have := List.pairwise_iff_getElem.1 h.1 k j hk hj (by omega)
    omega
theorem F.vector_each_J {S : St} {l k f : Value} {c : Int → Int → Int} {xs ys : List Dot} (hc : Choice c) (hf : FunI f c) (hl : SlT dotE S l xs) (hk : SlT dotE S k ys) (hx : isV xs) (hy : isV ys) (hL : xs.length < 20000) (hL2 : ys.length < 20000) :
    J PR F.vector_each [l, k, f] S fun v S' => OwnT dotE S.n S' v (eachV c xs ys) ∧ S.Ext S' := by
  obtain ⟨ba, ca, rfl⟩ := hl.len dotE
  obtain ⟨bb, cb, rfl⟩ := hk.len dotE
  refine J_by PR.mixed F.vector_each.ok (by simp) ?_
  simp (disch := omega) only [go_sem, ↓reduceIte, Nat.reduceEqDiff, Nat.reduceAdd, Nat.reduceMul, Nat.reduceSub, Nat.reduceLT, Nat.reduceLeDiff, Nat.reduceBEq, Nat.reduceLeDiff, reduceCtorEq, Int.reduceLT, Int.reduceEq, Int.reduceLE, Int.reduceAdd, Int.reduceSub, Int.reduceToNat, Int.reduceNeg, Int.toNat_natCast, beq_self_eq_true, wrap64, undef, Nat.zero_add, Nat.add_zero, Int.zero_add, Int.add_zero, Int.sub_zero, St.loadN_other, St.cell_other]
  refine wfresh_of fun y hyf => ?_
  simp (disch := omega) only [go_sem, ↓reduceIte, Nat.reduceEqDiff, Nat.reduceAdd, Nat.reduceMul, Nat.reduceSub, Nat.reduceLT, Nat.reduceLeDiff, Nat.reduceBEq, Nat.reduceLeDiff, reduceCtorEq, Int.reduceLT, Int.reduceEq, Int.reduceLE, Int.reduceAdd, Int.reduceSub, Int.reduceToNat, Int.reduceNeg, Int.toNat_natCast, beq_self_eq_true, wrap64, undef, Nat.zero_add, Nat.add_zero, Int.zero_add, Int.add_zero, Int.sub_zero, St.loadN_other, St.cell_other]
  refine wfresh_of fun z hz => ?_
  simp (disch := omega) only [go_sem, ↓reduceIte, Nat.reduceEqDiff, Nat.reduceAdd, Nat.reduceMul, Nat.reduceSub, Nat.reduceLT, Nat.reduceLeDiff, Nat.reduceBEq, Nat.reduceLeDiff, reduceCtorEq, Int.reduceLT, Int.reduceEq, Int.reduceLE, Int.reduceAdd, Int.reduceSub, Int.reduceToNat, Int.reduceNeg, Int.toNat_natCast, beq_self_eq_true, wrap64, undef, Nat.zero_add, Nat.add_zero, Int.zero_add, Int.add_zero, Int.sub_zero, St.loadN_other, St.cell_other]
  have he1 := (St.Ext.refl S).put hyf (.cells true 0 [])
  have he2 := he1.put hz (.cells true 2 [.slice ba xs.length ca, .slice bb ys.length cb])
  have ho1 : OwnT dotE S.n (S.put y (.cells true 0 [])) (.slice (some ⟨y, 0, none⟩) 0 0) [] := OwnT.mk dotE (xs := []) hyf (St.lt_put_self _ _ _) (Nat.le_refl 0) (St.put_same _ _ _)
  have ho2 := ho1.ext dotE ((St.Ext.refl _).put hz (.cells true 2 [.slice ba xs.length ca, .slice bb ys.length cb]))
  refine wJ_of (F.slices_Concat_api_Vector_api_Dot.J (St.put_same ..) (hl.ext dotE he2) (hk.ext dotE he2) (by omega) (by omega) (St.lt_put_self ..)) ?_
  rintro v3 S3 ⟨ho3, he3⟩
  simp (disch := omega) only [go_sem, ↓reduceIte, Nat.reduceEqDiff, Nat.reduceAdd, Nat.reduceMul, Nat.reduceSub, Nat.reduceLT, Nat.reduceLeDiff, Nat.reduceBEq, Nat.reduceLeDiff, reduceCtorEq, Int.reduceLT, Int.reduceEq, Int.reduceLE, Int.reduceAdd, Int.reduceSub, Int.reduceToNat, Int.reduceNeg, Int.toNat_natCast, beq_self_eq_true, wrap64, undef, Nat.zero_add, Nat.add_zero, Int.zero_add, Int.add_zero, Int.sub_zero, St.loadN_other, St.cell_other]
  refine wJ_of (F.dots_Rising.J (ho3.sl dotE) (by first | omega | (simp; done) | (simp; omega))) ?_
  rintro v4 S4 ⟨ho4, he4⟩
  have e4 := (he2.trans he3).trans he4
  have hrl := risen_len (xs ++ ys)
  rw [List.length_append] at hrl
  have hris := risen_ris (xs ++ ys)
  have hown := (ho2.ext dotE he3).ext dotE he4
  have hB4 := ho4.blk dotE
  have hn3 := he3.n
  obtain ⟨br, cr, rfl⟩ := (ho4.sl dotE).len dotE
  have hyn : y < S4.n := by have := hown.blk dotE y rfl; omega
  have hyS3 : y < S3.n := by have h := (ho2.ext dotE he3).blk dotE y rfl; omega
  simp (disch := omega) only [go_sem, ↓reduceIte, Nat.reduceEqDiff, Nat.reduceAdd, Nat.reduceMul, Nat.reduceSub, Nat.reduceLT, Nat.reduceLeDiff, Nat.reduceBEq, Nat.reduceLeDiff, reduceCtorEq, Int.reduceLT, Int.reduceEq, Int.reduceLE, Int.reduceAdd, Int.reduceSub, Int.reduceToNat, Int.reduceNeg, Int.toNat_natCast, beq_self_eq_true, wrap64, undef, Nat.zero_add, Nat.add_zero, Int.zero_add, Int.add_zero, Int.sub_zero, St.loadN_other, St.cell_other]
  generalize risen (xs ++ ys) = rs at ho4 hrl hris hB4
  refine wC_loop (fun n fr S' => ∃ (i : Nat) (v : Value) (out : List Dot), n = rs.length - i ∧ i ≤ rs.length ∧ fr 0 = .slice ba xs.length ca ∧ fr 1 = .slice bb ys.length cb ∧ fr 2 = f ∧ fr 7 = v ∧ fr 16 = .slice br rs.length cr ∧ fr 17 = .int .i64 rs.length ∧ fr 18 = .int .i64 (i : Nat) ∧
    S.Ext S' ∧ OwnT dotE S.n S' v out ∧ SlT dotE S' (.slice br rs.length cr) rs ∧ EachI c xs ys (rs.take i) out ∧ out.length ≤ i ∧ S4.n ≤ S'.n ∧ (∀ q, blkOf v = some q → q < S3.n ∨ S4.n ≤ q)) rs.length
    ⟨0, .slice (some ⟨y, 0, none⟩) 0 0, [], by simp (disch := omega) only [go_sem, ↓reduceIte, Nat.reduceEqDiff, Nat.reduceAdd, Nat.reduceMul, Nat.reduceSub, Nat.reduceLT, Nat.reduceLeDiff, Nat.reduceBEq, Nat.reduceLeDiff, reduceCtorEq, Int.reduceLT, Int.reduceEq, Int.reduceLE, Int.reduceAdd, Int.reduceSub, Int.reduceToNat, Int.reduceNeg, Int.toNat_natCast, beq_self_eq_true, wrap64, undef, Nat.zero_add, Nat.add_zero, Int.zero_add, Int.add_zero, Int.sub_zero, St.loadN_other, St.cell_other]; exact ⟨by simp, by simp, e4, hown, ho4.sl dotE, EachI.nil, Nat.le_refl _, by simp only [blkOf]; rintro q ⟨⟩; exact .inl hyS3⟩⟩ ?_
  rintro n fr S5 ⟨i, v, out, rfl, hi, h0, h1, h2, h7, h16, h17, h18, he5, ho5, hs5, hI, hol, hn5, hbv⟩
  simp (disch := omega) only [go_sem, ↓reduceIte, Nat.reduceEqDiff, Nat.reduceAdd, Nat.reduceMul, Nat.reduceSub, Nat.reduceLT, Nat.reduceLeDiff, Nat.reduceBEq, Nat.reduceLeDiff, reduceCtorEq, Int.reduceLT, Int.reduceEq, Int.reduceLE, Int.reduceAdd, Int.reduceSub, Int.reduceToNat, Int.reduceNeg, Int.toNat_natCast, beq_self_eq_true, wrap64, undef, Nat.zero_add, Nat.add_zero, Int.zero_add, Int.add_zero, Int.sub_zero, St.loadN_other, St.cell_other, F.vector_each.l0, h0, h1, h2, h7, h16, h17, h18]
  refine wcond_dec (fun hlt => ?_) (fun hge => ?_)
  · have hlx : i < rs.length := by omega
    obtain ⟨b, off, rfl, hb, hx0⟩ := hs5.dot hlx
    have c1 : (0 : Int) ≤ (i : Int) ∧ (i : Int) < (rs.length : Int) := by omega
    simp (disch := omega) only [go_sem, ↓reduceIte, Nat.reduceEqDiff, Nat.reduceAdd, Nat.reduceMul, Nat.reduceSub, Nat.reduceLT, Nat.reduceLeDiff, Nat.reduceBEq, Nat.reduceLeDiff, reduceCtorEq, Int.reduceLT, Int.reduceEq, Int.reduceLE, Int.reduceAdd, Int.reduceSub, Int.reduceToNat, Int.reduceNeg, Int.toNat_natCast, beq_self_eq_true, wrap64, undef, Nat.zero_add, Nat.add_zero, Int.zero_add, Int.add_zero, Int.sub_zero, St.loadN_other, St.cell_other, h0, h1, h2, h7, h16, h17, h18, c1, hx0]
    refine wfresh_of fun w hw => ?_
    simp (disch := omega) only [go_sem, ↓reduceIte, Nat.reduceEqDiff, Nat.reduceAdd, Nat.reduceMul, Nat.reduceSub, Nat.reduceLT, Nat.reduceLeDiff, Nat.reduceBEq, Nat.reduceLeDiff, reduceCtorEq, Int.reduceLT, Int.reduceEq, Int.reduceLE, Int.reduceAdd, Int.reduceSub, Int.reduceToNat, Int.reduceNeg, Int.toNat_natCast, beq_self_eq_true, wrap64, undef, Nat.zero_add, Nat.add_zero, Int.zero_add, Int.add_zero, Int.sub_zero, St.loadN_other, St.cell_other, h0, h1, h2, h7, h16, h17, h18]
    have he6 := (St.Ext.refl S5).put hw (.cells true 2 [.int .i64 rs[i].1, .int .i64 rs[i].2])
    have e6 := he5.trans he6
    refine wJ_of (F.vector_Get_J (hl.ext dotE e6) (by omega)) ?_; rintro _ _ ⟨rfl, rfl⟩
    simp (disch := omega) only [go_sem, ↓reduceIte, Nat.reduceEqDiff, Nat.reduceAdd, Nat.reduceMul, Nat.reduceSub, Nat.reduceLT, Nat.reduceLeDiff, Nat.reduceBEq, Nat.reduceLeDiff, reduceCtorEq, Int.reduceLT, Int.reduceEq, Int.reduceLE, Int.reduceAdd, Int.reduceSub, Int.reduceToNat, Int.reduceNeg, Int.toNat_natCast, beq_self_eq_true, wrap64, undef, Nat.zero_add, Nat.add_zero, Int.zero_add, Int.add_zero, Int.sub_zero, St.loadN_other, St.cell_other, h0, h1, h2, h7, h16, h17, h18]
    refine wJ_of (F.vector_Get_J (hk.ext dotE e6) (by omega)) ?_; rintro _ _ ⟨rfl, rfl⟩
    simp (disch := omega) only [go_sem, ↓reduceIte, Nat.reduceEqDiff, Nat.reduceAdd, Nat.reduceMul, Nat.reduceSub, Nat.reduceLT, Nat.reduceLeDiff, Nat.reduceBEq, Nat.reduceLeDiff, reduceCtorEq, Int.reduceLT, Int.reduceEq, Int.reduceLE, Int.reduceAdd, Int.reduceSub, Int.reduceToNat, Int.reduceNeg, Int.toNat_natCast, beq_self_eq_true, wrap64, undef, Nat.zero_add, Nat.add_zero, Int.zero_add, Int.add_zero, Int.sub_zero, St.loadN_other, St.cell_other, h0, h1, h2, h7, h16, h17, h18]
    refine hf.call ?_
    have hg1 := getV_range hx rs[i].1
    have hg2 := getV_range hy rs[i].1
    have hcr : 0 ≤ c (getV xs rs[i].1) (getV ys rs[i].1) ∧ c (getV xs rs[i].1) (getV ys rs[i].1) ≤ 1073741824 := by rcases hc.one (getV xs rs[i].1) (getV ys rs[i].1) with h | h <;> rw [h] <;> omega
    have htk := take_snoc (List.getElem?_eq_getElem hlx)
    have hmono : ∀ e ∈ out, e.1 ≤ rs[i].1 := by
      intro e he
      obtain ⟨d, hd, hde⟩ := hI.src e he
      obtain ⟨k, hk, rfl⟩ := List.mem_iff_getElem.1 hd
      simp only [List.length_take] at hk
      have := List.pairwise_iff_getElem.1 hris.1 k i (by omega) hlx (by omega)
      simp only [List.getElem_take] at hde
      unfold lessP at this
      omega
    obtain ⟨bo, co, rfl⟩ := (ho5.sl dotE).len dotE
    have hn6 := he6.n
    by_cases hp : 0 < c (getV xs rs[i].1) (getV ys rs[i].1)
    rotate_left
    · simp (disch := omega) only [go_sem, ↓reduceIte, Nat.reduceEqDiff, Nat.reduceAdd, Nat.reduceMul, Nat.reduceSub, Nat.reduceLT, Nat.reduceLeDiff, Nat.reduceBEq, Nat.reduceLeDiff, reduceCtorEq, Int.reduceLT, Int.reduceEq, Int.reduceLE, Int.reduceAdd, Int.reduceSub, Int.reduceToNat, Int.reduceNeg, Int.toNat_natCast, beq_self_eq_true, wrap64, undef, Nat.zero_add, Nat.add_zero, Int.zero_add, Int.add_zero, Int.sub_zero, St.loadN_other, St.cell_other, h0, h1, h2, h7, h16, h17, h18, hp]
      exact ⟨rs.length - (i + 1), by omega, i + 1, _, out, rfl, by omega, rfl, rfl, e6, ho5.ext dotE he6, hs5.ext dotE he6, by rw [htk]; exact hI.skip fun h => absurd h hp, by omega, by omega, hbv⟩
    -- one is put in
    by_cases hz0 : out.length = 0
    · have ho0 : out = [] := List.eq_nil_of_length_eq_zero hz0
      subst ho0
      simp (disch := omega) only [go_sem, ↓reduceIte, Nat.reduceEqDiff, Nat.reduceAdd, Nat.reduceMul, Nat.reduceSub, Nat.reduceLT, Nat.reduceLeDiff, Nat.reduceBEq, Nat.reduceLeDiff, reduceCtorEq, Int.reduceLT, Int.reduceEq, Int.reduceLE, Int.reduceAdd, Int.reduceSub, Int.reduceToNat, Int.reduceNeg, Int.toNat_natCast, beq_self_eq_true, wrap64, undef, Nat.zero_add, Nat.add_zero, Int.zero_add, Int.add_zero, Int.sub_zero, St.loadN_other, St.cell_other, h0, h1, h2, h7, h16, h17, h18, hp, List.length_nil]
      refine wfresh_of fun u hu => ?_
      simp (disch := omega) only [go_sem, ↓reduceIte, Nat.reduceEqDiff, Nat.reduceAdd, Nat.reduceMul, Nat.reduceSub, Nat.reduceLT, Nat.reduceLeDiff, Nat.reduceBEq, Nat.reduceLeDiff, reduceCtorEq, Int.reduceLT, Int.reduceEq, Int.reduceLE, Int.reduceAdd, Int.reduceSub, Int.reduceToNat, Int.reduceNeg, Int.toNat_natCast, beq_self_eq_true, wrap64, undef, Nat.zero_add, Nat.add_zero, Int.zero_add, Int.add_zero, Int.sub_zero, St.loadN_other, St.cell_other, h0, h1, h2, h7, h16, h17, h18]
      have he7 := he6.put hu (.cells true 2 [.int .i64 rs[i].1, .int .i64 (c (getV xs rs[i].1) (getV ys rs[i].1))])
      have e7 := he5.trans he7
      have hn7 := he7.n
      refine wE_app dotE (ys := [(rs[i].1, c (getV xs rs[i].1) (getV ys rs[i].1))]) (ho5.ext dotE he7) (SlT.lit dotE (xs := [(rs[i].1, c (getV xs rs[i].1) (getV ys rs[i].1))])) rfl rfl e7.n (by first | omega | (simp; done) | (simp; omega)) (by first | omega | (simp; done) | (simp; omega)) fun v8 S8 ho8 hb8 hv8 => ?_
      have hn8 := hb8.n
      simp (disch := omega) only [go_sem, ↓reduceIte, Nat.reduceEqDiff, Nat.reduceAdd, Nat.reduceMul, Nat.reduceSub, Nat.reduceLT, Nat.reduceLeDiff, Nat.reduceBEq, Nat.reduceLeDiff, reduceCtorEq, Int.reduceLT, Int.reduceEq, Int.reduceLE, Int.reduceAdd, Int.reduceSub, Int.reduceToNat, Int.reduceNeg, Int.toNat_natCast, beq_self_eq_true, wrap64, undef, Nat.zero_add, Nat.add_zero, Int.zero_add, Int.add_zero, Int.sub_zero, St.loadN_other, St.cell_other, h0, h1, h2, h7, h16, h17, h18]
      refine ⟨rs.length - (i + 1), by omega, i + 1, _, _, rfl, by omega, rfl, rfl, e7.but hb8 (ho5.fresh dotE), ho8, (hs5.ext dotE he7).but dotE hb8 (fun q hq he => ?_), by rw [htk]; exact hI.put hc hx hy hp (by simp), (by first | omega | (simp; done) | (simp; omega)), by omega, fun q hq => ?_⟩
      · have h1 := hB4 q hq
        have h2 := hbv q he
        omega
      · rcases hv8 with h | ⟨b8, h, hb8⟩
        · exact hbv q (by rw [← h]; exact hq)
        · rw [h] at hq; injection hq with hq; omega
    · have hz1 : ¬ ((out.length : Int) = 0) := by omega
      obtain ⟨j, hj⟩ : ∃ j, j + 1 = out.length := ⟨out.length - 1, by omega⟩
      have hlj : j < out.length := by omega
      obtain ⟨b2, off2, rfl, hb2, -, hx2, -⟩ := (ho5.sl dotE).dotc hlj
      have e1 : (out.length : Int) - 1 = (j : Int) := by omega
      have c2 : (0 : Int) ≤ (j : Int) ∧ (j : Int) < (out.length : Int) := by omega
      simp (disch := omega) only [go_sem, ↓reduceIte, Nat.reduceEqDiff, Nat.reduceAdd, Nat.reduceMul, Nat.reduceSub, Nat.reduceLT, Nat.reduceLeDiff, Nat.reduceBEq, Nat.reduceLeDiff, reduceCtorEq, Int.reduceLT, Int.reduceEq, Int.reduceLE, Int.reduceAdd, Int.reduceSub, Int.reduceToNat, Int.reduceNeg, Int.toNat_natCast, beq_self_eq_true, wrap64, undef, Nat.zero_add, Nat.add_zero, Int.zero_add, Int.add_zero, Int.sub_zero, St.loadN_other, St.cell_other, h0, h1, h2, h7, h16, h17, h18, hp, hz1, e1, c2, hx2]
      refine wcond_dec (fun hq => ?_) (fun hq => ?_)
      · simp (disch := omega) only [go_sem, ↓reduceIte, Nat.reduceEqDiff, Nat.reduceAdd, Nat.reduceMul, Nat.reduceSub, Nat.reduceLT, Nat.reduceLeDiff, Nat.reduceBEq, Nat.reduceLeDiff, reduceCtorEq, Int.reduceLT, Int.reduceEq, Int.reduceLE, Int.reduceAdd, Int.reduceSub, Int.reduceToNat, Int.reduceNeg, Int.toNat_natCast, beq_self_eq_true, wrap64, undef, Nat.zero_add, Nat.add_zero, Int.zero_add, Int.add_zero, Int.sub_zero, St.loadN_other, St.cell_other, h0, h1, h2, h7, h16, h17, h18]
        refine wfresh_of fun u hu => ?_
        simp (disch := omega) only [go_sem, ↓reduceIte, Nat.reduceEqDiff, Nat.reduceAdd, Nat.reduceMul, Nat.reduceSub, Nat.reduceLT, Nat.reduceLeDiff, Nat.reduceBEq, Nat.reduceLeDiff, reduceCtorEq, Int.reduceLT, Int.reduceEq, Int.reduceLE, Int.reduceAdd, Int.reduceSub, Int.reduceToNat, Int.reduceNeg, Int.toNat_natCast, beq_self_eq_true, wrap64, undef, Nat.zero_add, Nat.add_zero, Int.zero_add, Int.add_zero, Int.sub_zero, St.loadN_other, St.cell_other, h0, h1, h2, h7, h16, h17, h18]
        have he7 := he6.put hu (.cells true 2 [.int .i64 rs[i].1, .int .i64 (c (getV xs rs[i].1) (getV ys rs[i].1))])
        have e7 := he5.trans he7
        have hn7 := he7.n
        refine wE_app dotE (ys := [(rs[i].1, c (getV xs rs[i].1) (getV ys rs[i].1))]) (ho5.ext dotE he7) (SlT.lit dotE (xs := [(rs[i].1, c (getV xs rs[i].1) (getV ys rs[i].1))])) rfl rfl e7.n (by first | omega | (simp; done) | (simp; omega)) (by first | omega | (simp; done) | (simp; omega)) fun v8 S8 ho8 hb8 hv8 => ?_
        have hn8 := hb8.n
        simp (disch := omega) only [go_sem, ↓reduceIte, Nat.reduceEqDiff, Nat.reduceAdd, Nat.reduceMul, Nat.reduceSub, Nat.reduceLT, Nat.reduceLeDiff, Nat.reduceBEq, Nat.reduceLeDiff, reduceCtorEq, Int.reduceLT, Int.reduceEq, Int.reduceLE, Int.reduceAdd, Int.reduceSub, Int.reduceToNat, Int.reduceNeg, Int.toNat_natCast, beq_self_eq_true, wrap64, undef, Nat.zero_add, Nat.add_zero, Int.zero_add, Int.add_zero, Int.sub_zero, St.loadN_other, St.cell_other, h0, h1, h2, h7, h16, h17, h18]
        refine ⟨rs.length - (i + 1), by omega, i + 1, _, _, rfl, by omega, rfl, rfl, e7.but hb8 (ho5.fresh dotE), ho8, (hs5.ext dotE he7).but dotE hb8 (fun q hq he => ?_), by rw [htk]; exact hI.put hc hx hy hp (fun e he => by have := isV_last hI.is hlj hj e he; omega), (by first | omega | (simp; done) | (simp; omega)), by omega, fun q hq => ?_⟩
        · have h1 := hB4 q hq
          have h2 := hbv q he
          omega
        · rcases hv8 with h | ⟨b8, h, hb8⟩
          · exact hbv q (by rw [← h]; exact hq)
          · rw [h] at hq; injection hq with hq; omega
      · simp (disch := omega) only [go_sem, ↓reduceIte, Nat.reduceEqDiff, Nat.reduceAdd, Nat.reduceMul, Nat.reduceSub, Nat.reduceLT, Nat.reduceLeDiff, Nat.reduceBEq, Nat.reduceLeDiff, reduceCtorEq, Int.reduceLT, Int.reduceEq, Int.reduceLE, Int.reduceAdd, Int.reduceSub, Int.reduceToNat, Int.reduceNeg, Int.toNat_natCast, beq_self_eq_true, wrap64, undef, Nat.zero_add, Nat.add_zero, Int.zero_add, Int.add_zero, Int.sub_zero, St.loadN_other, St.cell_other, h0, h1, h2, h7, h16, h17, h18]
        exact ⟨rs.length - (i + 1), by omega, i + 1, _, out, rfl, by omega, rfl, rfl, e6, ho5.ext dotE he6, hs5.ext dotE he6, by rw [htk]; exact hI.skip fun _ => ⟨out[j], List.getElem_mem _, by have := hmono _ (List.getElem_mem hlj); omega⟩, by omega, by omega, hbv⟩
  · simp (disch := omega) only [go_sem, ↓reduceIte, Nat.reduceEqDiff, Nat.reduceAdd, Nat.reduceMul, Nat.reduceSub, Nat.reduceLT, Nat.reduceLeDiff, Nat.reduceBEq, Nat.reduceLeDiff, reduceCtorEq, Int.reduceLT, Int.reduceEq, Int.reduceLE, Int.reduceAdd, Int.reduceSub, Int.reduceToNat, Int.reduceNeg, Int.toNat_natCast, beq_self_eq_true, wrap64, undef, Nat.zero_add, Nat.add_zero, Int.zero_add, Int.add_zero, Int.sub_zero, St.loadN_other, St.cell_other, h7]
    rw [List.take_of_length_le (by omega)] at hI
    rw [hI.eq hc hx hy fun d hd => ⟨d, (hris.2 d).2 hd, rfl⟩] at ho5
    exact ⟨ho5, he5⟩
end Go.Osj
