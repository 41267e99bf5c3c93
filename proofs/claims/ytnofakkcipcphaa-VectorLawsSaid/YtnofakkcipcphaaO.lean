/- The law VectorLaws. -/
import Derived.Test.YtnofakkcipcphaaN
import Derived.Test.YtnofakkcipcphaaJ
set_option linter.unusedSimpArgs false
namespace Go.Osj
set_option maxHeartbeats 2000000 in
theorem F.osierlaw04_VectorLaws.J {S : St} {l k q : Value} {xs ys zs : List Dot} (hl : SlT dotE S l xs) (hk : SlT dotE S k ys) (hq : SlT dotE S q zs) :
    J PR F.osierlaw04_VectorLaws [l, k, q] S fun v _ => v = .bool true := by
  refine J_by PR.mixed F.osierlaw04_VectorLaws.ok (by simp) ?_
  simp (disch := omega) only [go_sem, ↓reduceIte, Nat.reduceEqDiff, Nat.reduceAdd, Nat.reduceMul, Nat.reduceSub, Nat.reduceLT, Nat.reduceLeDiff, Nat.reduceBEq, Nat.reduceLeDiff, reduceCtorEq, Int.reduceLT, Int.reduceEq, Int.reduceLE, Int.reduceAdd, Int.reduceSub, Int.reduceToNat, Int.reduceNeg, Int.toNat_natCast, beq_self_eq_true, wrap64, undef, Nat.zero_add, Nat.add_zero, Int.zero_add, Int.add_zero, Int.sub_zero, St.loadN_other, St.cell_other]
  refine wJ_of F.osierlaw04_awake_J ?_; rintro _ _ ⟨rfl, rfl⟩
  simp (disch := omega) only [go_sem, ↓reduceIte, Nat.reduceEqDiff, Nat.reduceAdd, Nat.reduceMul, Nat.reduceSub, Nat.reduceLT, Nat.reduceLeDiff, Nat.reduceBEq, Nat.reduceLeDiff, reduceCtorEq, Int.reduceLT, Int.reduceEq, Int.reduceLE, Int.reduceAdd, Int.reduceSub, Int.reduceToNat, Int.reduceNeg, Int.toNat_natCast, beq_self_eq_true, wrap64, undef, Nat.zero_add, Nat.add_zero, Int.zero_add, Int.add_zero, Int.sub_zero, St.loadN_other, St.cell_other]
  refine wJ_of (F.osierref04_Made_J hl) ?_; rintro vv S1 ⟨hsv, he1⟩
  simp (disch := omega) only [go_sem, ↓reduceIte, Nat.reduceEqDiff, Nat.reduceAdd, Nat.reduceMul, Nat.reduceSub, Nat.reduceLT, Nat.reduceLeDiff, Nat.reduceBEq, Nat.reduceLeDiff, reduceCtorEq, Int.reduceLT, Int.reduceEq, Int.reduceLE, Int.reduceAdd, Int.reduceSub, Int.reduceToNat, Int.reduceNeg, Int.toNat_natCast, beq_self_eq_true, wrap64, undef, Nat.zero_add, Nat.add_zero, Int.zero_add, Int.add_zero, Int.sub_zero, St.loadN_other, St.cell_other]
  refine wJ_of (F.osierref04_Made_J (hk.ext dotE he1)) ?_; rintro vw S2 ⟨hsw, he2⟩
  simp (disch := omega) only [go_sem, ↓reduceIte, Nat.reduceEqDiff, Nat.reduceAdd, Nat.reduceMul, Nat.reduceSub, Nat.reduceLT, Nat.reduceLeDiff, Nat.reduceBEq, Nat.reduceLeDiff, reduceCtorEq, Int.reduceLT, Int.reduceEq, Int.reduceLE, Int.reduceAdd, Int.reduceSub, Int.reduceToNat, Int.reduceNeg, Int.toNat_natCast, beq_self_eq_true, wrap64, undef, Nat.zero_add, Nat.add_zero, Int.zero_add, Int.add_zero, Int.sub_zero, St.loadN_other, St.cell_other]
  refine wJ_of (F.osierref04_Made_J (hq.ext dotE (he1.trans he2))) ?_; rintro vx S3 ⟨hsx, he3⟩
  simp (disch := omega) only [go_sem, ↓reduceIte, Nat.reduceEqDiff, Nat.reduceAdd, Nat.reduceMul, Nat.reduceSub, Nat.reduceLT, Nat.reduceLeDiff, Nat.reduceBEq, Nat.reduceLeDiff, reduceCtorEq, Int.reduceLT, Int.reduceEq, Int.reduceLE, Int.reduceAdd, Int.reduceSub, Int.reduceToNat, Int.reduceNeg, Int.toNat_natCast, beq_self_eq_true, wrap64, undef, Nat.zero_add, Nat.add_zero, Int.zero_add, Int.add_zero, Int.sub_zero, St.loadN_other, St.cell_other]
  refine wJ_of (F.osierref04_Made_J (hl.ext dotE ((he1.trans he2).trans he3))) ?_; rintro vo S4 ⟨hso, he4⟩
  replace hsv := hsv.ext dotE ((he2.trans he3).trans he4)
  replace hsw := hsw.ext dotE (he3.trans he4)
  replace hsx := hsx.ext dotE he4
  have hv := madeV_is xs
  have hvl := madeV_len xs
  have hw := madeV_is ys
  have hwl := madeV_len ys
  have hx := madeV_is zs
  have hxl := madeV_len zs
  clear hl hk hq he1 he2 he3 he4
  generalize madeV xs = V at hsv hso hv hvl
  generalize madeV ys = W at hsw hw hwl
  generalize madeV zs = X at hsx hx hxl
  have hj := joinV_is hv hw
  have hm := meetV_is hv hw
  have jl : ∀ a b : List Dot, (joinV a b).length ≤ a.length + b.length := eachV_len max
  have ml : ∀ a b : List Dot, (meetV a b).length ≤ a.length + b.length := eachV_len min
  have j1 := jl V W
  have j2 := jl W V
  have m1 := ml V W
  have m2 := ml W V
  have gj := getV_join hv hw
  have gm := getV_meet hv hw
  have b1 : belowP V (joinV V W) := (belowP_iff hv hj).2 fun a => by rw [gj]; omega
  have b2 : belowP W (joinV V W) := (belowP_iff hw hj).2 fun a => by rw [gj]; omega
  have b3 : belowP (meetV V W) V := (belowP_iff hm hv).2 fun a => by rw [gm]; omega
  have b4 : belowP (meetV V W) W := (belowP_iff hm hw).2 fun a => by rw [gm]; omega
  have q1 : joinV V W = joinV W V := isV_ext hj (joinV_is hw hv) fun a => by rw [gj, getV_join hw hv]; omega
  have q2 : meetV V W = meetV W V := isV_ext hm (meetV_is hw hv) fun a => by rw [gm, getV_meet hw hv]; omega
  have b5 : belowP V X → belowP W X → belowP (joinV V W) X := fun h1 h2 => (belowP_iff hj hx).2 fun a => by
    rw [gj]
    have := (belowP_iff hv hx).1 h1 a
    have := (belowP_iff hw hx).1 h2 a
    omega
  have b6 : belowP X V → belowP X W → belowP X (meetV V W) := fun h1 h2 => (belowP_iff hx hm).2 fun a => by
    rw [gm]
    have := (belowP_iff hx hv).1 h1 a
    have := (belowP_iff hx hw).1 h2 a
    omega
  have q3 : joinV (joinV V W) X = joinV V (joinV W X) := isV_ext (joinV_is hj hx) (joinV_is hv (joinV_is hw hx)) fun a => by
    rw [getV_join hj hx, gj, getV_join hv (joinV_is hw hx), getV_join hw hx]; omega
  have q4 : joinV V V = V := isV_ext (joinV_is hv hv) hv fun a => by rw [getV_join hv hv]; omega
  have q5 : joinV V (meetV V W) = V := isV_ext (joinV_is hv hm) hv fun a => by rw [getV_join hv hm, gm]; omega
  simp (disch := omega) only [go_sem, ↓reduceIte, Nat.reduceEqDiff, Nat.reduceAdd, Nat.reduceMul, Nat.reduceSub, Nat.reduceLT, Nat.reduceLeDiff, Nat.reduceBEq, Nat.reduceLeDiff, reduceCtorEq, Int.reduceLT, Int.reduceEq, Int.reduceLE, Int.reduceAdd, Int.reduceSub, Int.reduceToNat, Int.reduceNeg, Int.toNat_natCast, beq_self_eq_true, wrap64, undef, Nat.zero_add, Nat.add_zero, Int.zero_add, Int.add_zero, Int.sub_zero, St.loadN_other, St.cell_other]
  refine wJ_of (F.vector_Join_J hsv hsw hv hw (by omega) (by omega)) ?_; rintro vj S5 ⟨hoj, he5⟩
  simp (disch := omega) only [go_sem, ↓reduceIte, Nat.reduceEqDiff, Nat.reduceAdd, Nat.reduceMul, Nat.reduceSub, Nat.reduceLT, Nat.reduceLeDiff, Nat.reduceBEq, Nat.reduceLeDiff, reduceCtorEq, Int.reduceLT, Int.reduceEq, Int.reduceLE, Int.reduceAdd, Int.reduceSub, Int.reduceToNat, Int.reduceNeg, Int.toNat_natCast, beq_self_eq_true, wrap64, undef, Nat.zero_add, Nat.add_zero, Int.zero_add, Int.add_zero, Int.sub_zero, St.loadN_other, St.cell_other]
  refine wJ_of (F.vector_Meet_J (hsv.ext dotE he5) (hsw.ext dotE he5) hv hw (by omega) (by omega)) ?_; rintro vm S6 ⟨hom, he6⟩
  have e6 := he5.trans he6
  have hsj := (hoj.sl dotE).ext dotE he6
  have hsm := hom.sl dotE
  have v6 := hsv.ext dotE e6
  have w6 := hsw.ext dotE e6
  have x6 := hsx.ext dotE e6
  simp (disch := omega) only [go_sem, ↓reduceIte, Nat.reduceEqDiff, Nat.reduceAdd, Nat.reduceMul, Nat.reduceSub, Nat.reduceLT, Nat.reduceLeDiff, Nat.reduceBEq, Nat.reduceLeDiff, reduceCtorEq, Int.reduceLT, Int.reduceEq, Int.reduceLE, Int.reduceAdd, Int.reduceSub, Int.reduceToNat, Int.reduceNeg, Int.toNat_natCast, beq_self_eq_true, wrap64, undef, Nat.zero_add, Nat.add_zero, Int.zero_add, Int.add_zero, Int.sub_zero, St.loadN_other, St.cell_other]
  refine wJ_of (F.vector_Below_J v6 hsj (by omega) (by omega)) ?_; rintro _ _ ⟨rfl, rfl⟩
  simp (disch := omega) only [go_sem, ↓reduceIte, Nat.reduceEqDiff, Nat.reduceAdd, Nat.reduceMul, Nat.reduceSub, Nat.reduceLT, Nat.reduceLeDiff, Nat.reduceBEq, Nat.reduceLeDiff, reduceCtorEq, Int.reduceLT, Int.reduceEq, Int.reduceLE, Int.reduceAdd, Int.reduceSub, Int.reduceToNat, Int.reduceNeg, Int.toNat_natCast, beq_self_eq_true, wrap64, undef, Nat.zero_add, Nat.add_zero, Int.zero_add, Int.add_zero, Int.sub_zero, St.loadN_other, St.cell_other, b1]
  refine wJ_of (F.vector_Below_J w6 hsj (by omega) (by omega)) ?_; rintro _ _ ⟨rfl, rfl⟩
  simp (disch := omega) only [go_sem, ↓reduceIte, Nat.reduceEqDiff, Nat.reduceAdd, Nat.reduceMul, Nat.reduceSub, Nat.reduceLT, Nat.reduceLeDiff, Nat.reduceBEq, Nat.reduceLeDiff, reduceCtorEq, Int.reduceLT, Int.reduceEq, Int.reduceLE, Int.reduceAdd, Int.reduceSub, Int.reduceToNat, Int.reduceNeg, Int.toNat_natCast, beq_self_eq_true, wrap64, undef, Nat.zero_add, Nat.add_zero, Int.zero_add, Int.add_zero, Int.sub_zero, St.loadN_other, St.cell_other, b2]
  refine wJ_of (F.vector_Below_J hsm v6 (by omega) (by omega)) ?_; rintro _ _ ⟨rfl, rfl⟩
  simp (disch := omega) only [go_sem, ↓reduceIte, Nat.reduceEqDiff, Nat.reduceAdd, Nat.reduceMul, Nat.reduceSub, Nat.reduceLT, Nat.reduceLeDiff, Nat.reduceBEq, Nat.reduceLeDiff, reduceCtorEq, Int.reduceLT, Int.reduceEq, Int.reduceLE, Int.reduceAdd, Int.reduceSub, Int.reduceToNat, Int.reduceNeg, Int.toNat_natCast, beq_self_eq_true, wrap64, undef, Nat.zero_add, Nat.add_zero, Int.zero_add, Int.add_zero, Int.sub_zero, St.loadN_other, St.cell_other, b3]
  refine wJ_of (F.vector_Below_J hsm w6 (by omega) (by omega)) ?_; rintro _ _ ⟨rfl, rfl⟩
  simp (disch := omega) only [go_sem, ↓reduceIte, Nat.reduceEqDiff, Nat.reduceAdd, Nat.reduceMul, Nat.reduceSub, Nat.reduceLT, Nat.reduceLeDiff, Nat.reduceBEq, Nat.reduceLeDiff, reduceCtorEq, Int.reduceLT, Int.reduceEq, Int.reduceLE, Int.reduceAdd, Int.reduceSub, Int.reduceToNat, Int.reduceNeg, Int.toNat_natCast, beq_self_eq_true, wrap64, undef, Nat.zero_add, Nat.add_zero, Int.zero_add, Int.add_zero, Int.sub_zero, St.loadN_other, St.cell_other, b4]
  refine wJ_of (F.vector_May_J hsj (by omega)) ?_; rintro _ _ ⟨rfl, rfl⟩
  simp (disch := omega) only [go_sem, ↓reduceIte, Nat.reduceEqDiff, Nat.reduceAdd, Nat.reduceMul, Nat.reduceSub, Nat.reduceLT, Nat.reduceLeDiff, Nat.reduceBEq, Nat.reduceLeDiff, reduceCtorEq, Int.reduceLT, Int.reduceEq, Int.reduceLE, Int.reduceAdd, Int.reduceSub, Int.reduceToNat, Int.reduceNeg, Int.toNat_natCast, beq_self_eq_true, wrap64, undef, Nat.zero_add, Nat.add_zero, Int.zero_add, Int.add_zero, Int.sub_zero, St.loadN_other, St.cell_other, hj]
  refine wJ_of (F.vector_May_J hsm (by omega)) ?_; rintro _ _ ⟨rfl, rfl⟩
  simp (disch := omega) only [go_sem, ↓reduceIte, Nat.reduceEqDiff, Nat.reduceAdd, Nat.reduceMul, Nat.reduceSub, Nat.reduceLT, Nat.reduceLeDiff, Nat.reduceBEq, Nat.reduceLeDiff, reduceCtorEq, Int.reduceLT, Int.reduceEq, Int.reduceLE, Int.reduceAdd, Int.reduceSub, Int.reduceToNat, Int.reduceNeg, Int.toNat_natCast, beq_self_eq_true, wrap64, undef, Nat.zero_add, Nat.add_zero, Int.zero_add, Int.add_zero, Int.sub_zero, St.loadN_other, St.cell_other, hm]
  refine wJ_of (F.vector_Join_J w6 v6 hw hv (by omega) (by omega)) ?_; rintro v7 S7 ⟨ho7, he7⟩
  simp (disch := omega) only [go_sem, ↓reduceIte, Nat.reduceEqDiff, Nat.reduceAdd, Nat.reduceMul, Nat.reduceSub, Nat.reduceLT, Nat.reduceLeDiff, Nat.reduceBEq, Nat.reduceLeDiff, reduceCtorEq, Int.reduceLT, Int.reduceEq, Int.reduceLE, Int.reduceAdd, Int.reduceSub, Int.reduceToNat, Int.reduceNeg, Int.toNat_natCast, beq_self_eq_true, wrap64, undef, Nat.zero_add, Nat.add_zero, Int.zero_add, Int.add_zero, Int.sub_zero, St.loadN_other, St.cell_other]
  refine wJ_of (F.vector_Same_J (hsj.ext dotE he7) (ho7.sl dotE) (by omega)) ?_; rintro _ _ ⟨rfl, rfl⟩
  simp (disch := omega) only [go_sem, ↓reduceIte, Nat.reduceEqDiff, Nat.reduceAdd, Nat.reduceMul, Nat.reduceSub, Nat.reduceLT, Nat.reduceLeDiff, Nat.reduceBEq, Nat.reduceLeDiff, reduceCtorEq, Int.reduceLT, Int.reduceEq, Int.reduceLE, Int.reduceAdd, Int.reduceSub, Int.reduceToNat, Int.reduceNeg, Int.toNat_natCast, beq_self_eq_true, wrap64, undef, Nat.zero_add, Nat.add_zero, Int.zero_add, Int.add_zero, Int.sub_zero, St.loadN_other, St.cell_other, decide_eq_true q1]
  refine wJ_of (F.vector_Meet_J (w6.ext dotE he7) (v6.ext dotE he7) hw hv (by omega) (by omega)) ?_; rintro v8 S8 ⟨ho8, he8⟩
  simp (disch := omega) only [go_sem, ↓reduceIte, Nat.reduceEqDiff, Nat.reduceAdd, Nat.reduceMul, Nat.reduceSub, Nat.reduceLT, Nat.reduceLeDiff, Nat.reduceBEq, Nat.reduceLeDiff, reduceCtorEq, Int.reduceLT, Int.reduceEq, Int.reduceLE, Int.reduceAdd, Int.reduceSub, Int.reduceToNat, Int.reduceNeg, Int.toNat_natCast, beq_self_eq_true, wrap64, undef, Nat.zero_add, Nat.add_zero, Int.zero_add, Int.add_zero, Int.sub_zero, St.loadN_other, St.cell_other]
  have e68 := he7.trans he8
  refine wJ_of (F.vector_Same_J (hsm.ext dotE e68) (ho8.sl dotE) (by omega)) ?_; rintro _ _ ⟨rfl, rfl⟩
  have v8' := v6.ext dotE e68
  have w8' := w6.ext dotE e68
  have x8' := x6.ext dotE e68
  have j8' := hsj.ext dotE e68
  have m8' := hsm.ext dotE e68
  have e8 := e6.trans e68
  simp (disch := omega) only [go_sem, ↓reduceIte, Nat.reduceEqDiff, Nat.reduceAdd, Nat.reduceMul, Nat.reduceSub, Nat.reduceLT, Nat.reduceLeDiff, Nat.reduceBEq, Nat.reduceLeDiff, reduceCtorEq, Int.reduceLT, Int.reduceEq, Int.reduceLE, Int.reduceAdd, Int.reduceSub, Int.reduceToNat, Int.reduceNeg, Int.toNat_natCast, beq_self_eq_true, wrap64, undef, Nat.zero_add, Nat.add_zero, Int.zero_add, Int.add_zero, Int.sub_zero, St.loadN_other, St.cell_other, decide_eq_true q2]
  refine wJ_of (F.vector_Below_J v8' x8' (by omega) (by omega)) ?_; rintro _ _ ⟨rfl, rfl⟩
  by_cases c1 : belowP V X
  · simp (disch := omega) only [go_sem, ↓reduceIte, Nat.reduceEqDiff, Nat.reduceAdd, Nat.reduceMul, Nat.reduceSub, Nat.reduceLT, Nat.reduceLeDiff, Nat.reduceBEq, Nat.reduceLeDiff, reduceCtorEq, Int.reduceLT, Int.reduceEq, Int.reduceLE, Int.reduceAdd, Int.reduceSub, Int.reduceToNat, Int.reduceNeg, Int.toNat_natCast, beq_self_eq_true, wrap64, undef, Nat.zero_add, Nat.add_zero, Int.zero_add, Int.add_zero, Int.sub_zero, St.loadN_other, St.cell_other, c1]
    refine wJ_of (F.vector_Below_J w8' x8' (by omega) (by omega)) ?_; rintro _ _ ⟨rfl, rfl⟩
    by_cases c2 : belowP W X
    · simp (disch := omega) only [go_sem, ↓reduceIte, Nat.reduceEqDiff, Nat.reduceAdd, Nat.reduceMul, Nat.reduceSub, Nat.reduceLT, Nat.reduceLeDiff, Nat.reduceBEq, Nat.reduceLeDiff, reduceCtorEq, Int.reduceLT, Int.reduceEq, Int.reduceLE, Int.reduceAdd, Int.reduceSub, Int.reduceToNat, Int.reduceNeg, Int.toNat_natCast, beq_self_eq_true, wrap64, undef, Nat.zero_add, Nat.add_zero, Int.zero_add, Int.add_zero, Int.sub_zero, St.loadN_other, St.cell_other, c2]
      refine wJ_of (F.vector_Below_J j8' x8' (by omega) (by omega)) ?_; rintro _ _ ⟨rfl, rfl⟩
      simp (disch := omega) only [go_sem, ↓reduceIte, Nat.reduceEqDiff, Nat.reduceAdd, Nat.reduceMul, Nat.reduceSub, Nat.reduceLT, Nat.reduceLeDiff, Nat.reduceBEq, Nat.reduceLeDiff, reduceCtorEq, Int.reduceLT, Int.reduceEq, Int.reduceLE, Int.reduceAdd, Int.reduceSub, Int.reduceToNat, Int.reduceNeg, Int.toNat_natCast, beq_self_eq_true, wrap64, undef, Nat.zero_add, Nat.add_zero, Int.zero_add, Int.add_zero, Int.sub_zero, St.loadN_other, St.cell_other, b5 c1 c2]
      refine wJ_of (F.vector_Below_J x8' v8' (by omega) (by omega)) ?_; rintro _ _ ⟨rfl, rfl⟩
      by_cases c3 : belowP X V
      · simp (disch := omega) only [go_sem, ↓reduceIte, Nat.reduceEqDiff, Nat.reduceAdd, Nat.reduceMul, Nat.reduceSub, Nat.reduceLT, Nat.reduceLeDiff, Nat.reduceBEq, Nat.reduceLeDiff, reduceCtorEq, Int.reduceLT, Int.reduceEq, Int.reduceLE, Int.reduceAdd, Int.reduceSub, Int.reduceToNat, Int.reduceNeg, Int.toNat_natCast, beq_self_eq_true, wrap64, undef, Nat.zero_add, Nat.add_zero, Int.zero_add, Int.add_zero, Int.sub_zero, St.loadN_other, St.cell_other, c3]
        refine wJ_of (F.vector_Below_J x8' w8' (by omega) (by omega)) ?_; rintro _ _ ⟨rfl, rfl⟩
        by_cases c4 : belowP X W
        · simp (disch := omega) only [go_sem, ↓reduceIte, Nat.reduceEqDiff, Nat.reduceAdd, Nat.reduceMul, Nat.reduceSub, Nat.reduceLT, Nat.reduceLeDiff, Nat.reduceBEq, Nat.reduceLeDiff, reduceCtorEq, Int.reduceLT, Int.reduceEq, Int.reduceLE, Int.reduceAdd, Int.reduceSub, Int.reduceToNat, Int.reduceNeg, Int.toNat_natCast, beq_self_eq_true, wrap64, undef, Nat.zero_add, Nat.add_zero, Int.zero_add, Int.add_zero, Int.sub_zero, St.loadN_other, St.cell_other, c4]
          refine wJ_of (F.vector_Below_J x8' m8' (by omega) (by omega)) ?_; rintro _ _ ⟨rfl, rfl⟩
          simp (disch := omega) only [go_sem, ↓reduceIte, Nat.reduceEqDiff, Nat.reduceAdd, Nat.reduceMul, Nat.reduceSub, Nat.reduceLT, Nat.reduceLeDiff, Nat.reduceBEq, Nat.reduceLeDiff, reduceCtorEq, Int.reduceLT, Int.reduceEq, Int.reduceLE, Int.reduceAdd, Int.reduceSub, Int.reduceToNat, Int.reduceNeg, Int.toNat_natCast, beq_self_eq_true, wrap64, undef, Nat.zero_add, Nat.add_zero, Int.zero_add, Int.add_zero, Int.sub_zero, St.loadN_other, St.cell_other, b6 c3 c4]
          have j3 := jl (joinV V W) X
          have j4 := jl W X
          have j5 := jl V (joinV W X)
          have j6 := jl V V
          have j7 := jl V (meetV V W)
          refine wJ_of (F.vector_Join_J j8' x8' hj hx (by omega) (by omega)) ?_; rintro v9 S9 ⟨ho9, he9⟩
          simp (disch := omega) only [go_sem, ↓reduceIte, Nat.reduceEqDiff, Nat.reduceAdd, Nat.reduceMul, Nat.reduceSub, Nat.reduceLT, Nat.reduceLeDiff, Nat.reduceBEq, Nat.reduceLeDiff, reduceCtorEq, Int.reduceLT, Int.reduceEq, Int.reduceLE, Int.reduceAdd, Int.reduceSub, Int.reduceToNat, Int.reduceNeg, Int.toNat_natCast, beq_self_eq_true, wrap64, undef, Nat.zero_add, Nat.add_zero, Int.zero_add, Int.add_zero, Int.sub_zero, St.loadN_other, St.cell_other]
          refine wJ_of (F.vector_Join_J (w8'.ext dotE he9) (x8'.ext dotE he9) hw hx (by omega) (by omega)) ?_; rintro vA SA ⟨hoA, heA⟩
          simp (disch := omega) only [go_sem, ↓reduceIte, Nat.reduceEqDiff, Nat.reduceAdd, Nat.reduceMul, Nat.reduceSub, Nat.reduceLT, Nat.reduceLeDiff, Nat.reduceBEq, Nat.reduceLeDiff, reduceCtorEq, Int.reduceLT, Int.reduceEq, Int.reduceLE, Int.reduceAdd, Int.reduceSub, Int.reduceToNat, Int.reduceNeg, Int.toNat_natCast, beq_self_eq_true, wrap64, undef, Nat.zero_add, Nat.add_zero, Int.zero_add, Int.add_zero, Int.sub_zero, St.loadN_other, St.cell_other]
          have e9A := he9.trans heA
          refine wJ_of (F.vector_Join_J (v8'.ext dotE e9A) (hoA.sl dotE) hv (joinV_is hw hx) (by omega) (by omega)) ?_; rintro vB SB ⟨hoB, heB⟩
          simp (disch := omega) only [go_sem, ↓reduceIte, Nat.reduceEqDiff, Nat.reduceAdd, Nat.reduceMul, Nat.reduceSub, Nat.reduceLT, Nat.reduceLeDiff, Nat.reduceBEq, Nat.reduceLeDiff, reduceCtorEq, Int.reduceLT, Int.reduceEq, Int.reduceLE, Int.reduceAdd, Int.reduceSub, Int.reduceToNat, Int.reduceNeg, Int.toNat_natCast, beq_self_eq_true, wrap64, undef, Nat.zero_add, Nat.add_zero, Int.zero_add, Int.add_zero, Int.sub_zero, St.loadN_other, St.cell_other]
          refine wJ_of (F.vector_Same_J ((ho9.sl dotE).ext dotE (heA.trans heB)) (hoB.sl dotE) (by omega)) ?_; rintro _ _ ⟨rfl, rfl⟩
          have e9B := e9A.trans heB
          simp (disch := omega) only [go_sem, ↓reduceIte, Nat.reduceEqDiff, Nat.reduceAdd, Nat.reduceMul, Nat.reduceSub, Nat.reduceLT, Nat.reduceLeDiff, Nat.reduceBEq, Nat.reduceLeDiff, reduceCtorEq, Int.reduceLT, Int.reduceEq, Int.reduceLE, Int.reduceAdd, Int.reduceSub, Int.reduceToNat, Int.reduceNeg, Int.toNat_natCast, beq_self_eq_true, wrap64, undef, Nat.zero_add, Nat.add_zero, Int.zero_add, Int.add_zero, Int.sub_zero, St.loadN_other, St.cell_other, decide_eq_true q3]
          refine wJ_of (F.vector_Join_J (v8'.ext dotE e9B) (v8'.ext dotE e9B) hv hv (by omega) (by omega)) ?_; rintro vC SC ⟨hoC, heC⟩
          have e9C := e9B.trans heC
          simp (disch := omega) only [go_sem, ↓reduceIte, Nat.reduceEqDiff, Nat.reduceAdd, Nat.reduceMul, Nat.reduceSub, Nat.reduceLT, Nat.reduceLeDiff, Nat.reduceBEq, Nat.reduceLeDiff, reduceCtorEq, Int.reduceLT, Int.reduceEq, Int.reduceLE, Int.reduceAdd, Int.reduceSub, Int.reduceToNat, Int.reduceNeg, Int.toNat_natCast, beq_self_eq_true, wrap64, undef, Nat.zero_add, Nat.add_zero, Int.zero_add, Int.add_zero, Int.sub_zero, St.loadN_other, St.cell_other]
          refine wJ_of (F.vector_Same_J (hoC.sl dotE) (v8'.ext dotE e9C) (by omega)) ?_; rintro _ _ ⟨rfl, rfl⟩
          simp (disch := omega) only [go_sem, ↓reduceIte, Nat.reduceEqDiff, Nat.reduceAdd, Nat.reduceMul, Nat.reduceSub, Nat.reduceLT, Nat.reduceLeDiff, Nat.reduceBEq, Nat.reduceLeDiff, reduceCtorEq, Int.reduceLT, Int.reduceEq, Int.reduceLE, Int.reduceAdd, Int.reduceSub, Int.reduceToNat, Int.reduceNeg, Int.toNat_natCast, beq_self_eq_true, wrap64, undef, Nat.zero_add, Nat.add_zero, Int.zero_add, Int.add_zero, Int.sub_zero, St.loadN_other, St.cell_other, decide_eq_true q4]
          refine wJ_of (F.vector_Join_J (v8'.ext dotE e9C) (m8'.ext dotE e9C) hv hm (by omega) (by omega)) ?_; rintro vD SD ⟨hoD, heD⟩
          have e9D := e9C.trans heD
          simp (disch := omega) only [go_sem, ↓reduceIte, Nat.reduceEqDiff, Nat.reduceAdd, Nat.reduceMul, Nat.reduceSub, Nat.reduceLT, Nat.reduceLeDiff, Nat.reduceBEq, Nat.reduceLeDiff, reduceCtorEq, Int.reduceLT, Int.reduceEq, Int.reduceLE, Int.reduceAdd, Int.reduceSub, Int.reduceToNat, Int.reduceNeg, Int.toNat_natCast, beq_self_eq_true, wrap64, undef, Nat.zero_add, Nat.add_zero, Int.zero_add, Int.add_zero, Int.sub_zero, St.loadN_other, St.cell_other]
          refine wJ_of (F.vector_Same_J (hoD.sl dotE) (v8'.ext dotE e9D) (by omega)) ?_; rintro _ _ ⟨rfl, rfl⟩
          have e4D := e8.trans e9D
          have hwj := ((hoj.ext dotE he6).ext dotE (e68.trans e9D)).wr
          obtain ⟨bj, cj, rfl⟩ := (hoj.sl dotE).len dotE
          have hkj : (joinV V W).length ≤ 200 := by omega
          simp (disch := omega) only [go_sem, ↓reduceIte, Nat.reduceEqDiff, Nat.reduceAdd, Nat.reduceMul, Nat.reduceSub, Nat.reduceLT, Nat.reduceLeDiff, Nat.reduceBEq, Nat.reduceLeDiff, reduceCtorEq, Int.reduceLT, Int.reduceEq, Int.reduceLE, Int.reduceAdd, Int.reduceSub, Int.reduceToNat, Int.reduceNeg, Int.toNat_natCast, beq_self_eq_true, wrap64, undef, Nat.zero_add, Nat.add_zero, Int.zero_add, Int.add_zero, Int.sub_zero, St.loadN_other, St.cell_other, decide_eq_true q5]
          clear hoj hsj j8' q1 q3 gj b1 b2 b5 j1 j3 hj
          generalize (joinV V W).length = k at *
          refine wC_at 0 (fun fr S' => fr 8 = vv ∧ fr 11 = vo ∧ fr 14 = .bool true ∧ fr 15 = .bool true ∧ fr 16 = .bool true ∧ fr 17 = .bool true ∧ S4.Ext S') ?_ ?_
          · refine wC_loop (fun n fr S' => ∃ i, n = k - i ∧ i ≤ k ∧ fr 8 = vv ∧ fr 11 = vo ∧ fr 12 = .slice bj k cj ∧ fr 14 = .bool true ∧ fr 15 = .bool true ∧ fr 16 = .bool true ∧ fr 17 = .bool true ∧ fr 18 = .int .i64 (i : Nat) ∧ S4.Ext S' ∧ WrT S4.n S' (.slice bj k cj) k) k
              ⟨0, by simp (disch := omega) only [go_sem, ↓reduceIte, Nat.reduceEqDiff, Nat.reduceAdd, Nat.reduceMul, Nat.reduceSub, Nat.reduceLT, Nat.reduceLeDiff, Nat.reduceBEq, Nat.reduceLeDiff, reduceCtorEq, Int.reduceLT, Int.reduceEq, Int.reduceLE, Int.reduceAdd, Int.reduceSub, Int.reduceToNat, Int.reduceNeg, Int.toNat_natCast, beq_self_eq_true, wrap64, undef, Nat.zero_add, Nat.add_zero, Int.zero_add, Int.add_zero, Int.sub_zero, St.loadN_other, St.cell_other]; exact ⟨by simp, by simp, e4D, hwj⟩⟩ ?_
            rintro n fr S' ⟨i, rfl, hi, h8, h11, h12, h14, h15, h16, h17, h18, he', hw'⟩
            simp (disch := omega) only [go_sem, ↓reduceIte, Nat.reduceEqDiff, Nat.reduceAdd, Nat.reduceMul, Nat.reduceSub, Nat.reduceLT, Nat.reduceLeDiff, Nat.reduceBEq, Nat.reduceLeDiff, reduceCtorEq, Int.reduceLT, Int.reduceEq, Int.reduceLE, Int.reduceAdd, Int.reduceSub, Int.reduceToNat, Int.reduceNeg, Int.toNat_natCast, beq_self_eq_true, wrap64, undef, Nat.zero_add, Nat.add_zero, Int.zero_add, Int.add_zero, Int.sub_zero, St.loadN_other, St.cell_other, F.osierlaw04_VectorLaws.l0, h8, h11, h12, h14, h15, h16, h17, h18]
            refine wcond_dec (fun hlt => ?_) (fun hge => ?_)
            · have hc : (0 : Int) ≤ (i : Int) ∧ (i : Int) < ((k : Nat) : Int) := by omega
              rcases hw' with h | ⟨b, c, cs, hv, hB, hob, hlen, hcap⟩
              · omega
              injection hv with hv1 hv2 hv3
              subst hv1 hv3
              simp (disch := omega) only [go_sem, ↓reduceIte, Nat.reduceEqDiff, Nat.reduceAdd, Nat.reduceMul, Nat.reduceSub, Nat.reduceLT, Nat.reduceLeDiff, Nat.reduceBEq, Nat.reduceLeDiff, reduceCtorEq, Int.reduceLT, Int.reduceEq, Int.reduceLE, Int.reduceAdd, Int.reduceSub, Int.reduceToNat, Int.reduceNeg, Int.toNat_natCast, beq_self_eq_true, wrap64, undef, Nat.zero_add, Nat.add_zero, Int.zero_add, Int.add_zero, Int.sub_zero, St.loadN_other, St.cell_other, h12, h18, hc]
              refine wst_of hob rfl rfl (by omega) (by omega) ?_
              simp (disch := omega) only [go_sem, ↓reduceIte, Nat.reduceEqDiff, Nat.reduceAdd, Nat.reduceMul, Nat.reduceSub, Nat.reduceLT, Nat.reduceLeDiff, Nat.reduceBEq, Nat.reduceLeDiff, reduceCtorEq, Int.reduceLT, Int.reduceEq, Int.reduceLE, Int.reduceAdd, Int.reduceSub, Int.reduceToNat, Int.reduceNeg, Int.toNat_natCast, beq_self_eq_true, wrap64, undef, Nat.zero_add, Nat.add_zero, Int.zero_add, Int.add_zero, Int.sub_zero, St.loadN_other, St.cell_other, h8, h11, h12, h14, h15, h16, h17, h18]
              refine ⟨k - (i + 1), by omega, i + 1, rfl, by omega, rfl, ⟨Nat.le_trans he'.n (by rw [St.put_n]; omega), fun k hk => ?_⟩, .inr ⟨b, _, _, rfl, hB, St.put_same _ _ _, ?_, hcap⟩⟩
              · rw [St.put_other _ _ _ (by omega)]
                exact he'.obj k hk
              · simp
                omega
            · simp (disch := omega) only [go_sem, ↓reduceIte, Nat.reduceEqDiff, Nat.reduceAdd, Nat.reduceMul, Nat.reduceSub, Nat.reduceLT, Nat.reduceLeDiff, Nat.reduceBEq, Nat.reduceLeDiff, reduceCtorEq, Int.reduceLT, Int.reduceEq, Int.reduceLE, Int.reduceAdd, Int.reduceSub, Int.reduceToNat, Int.reduceNeg, Int.toNat_natCast, beq_self_eq_true, wrap64, undef, Nat.zero_add, Nat.add_zero, Int.zero_add, Int.add_zero, Int.sub_zero, St.loadN_other, St.cell_other, h8, h11, h12, h14, h15, h16, h17, h18]
              exact he'
          rintro fr S' ⟨h8, h11, h14, h15, h16, h17, heE⟩
          simp (disch := omega) only [go_sem, ↓reduceIte, Nat.reduceEqDiff, Nat.reduceAdd, Nat.reduceMul, Nat.reduceSub, Nat.reduceLT, Nat.reduceLeDiff, Nat.reduceBEq, Nat.reduceLeDiff, reduceCtorEq, Int.reduceLT, Int.reduceEq, Int.reduceLE, Int.reduceAdd, Int.reduceSub, Int.reduceToNat, Int.reduceNeg, Int.toNat_natCast, beq_self_eq_true, wrap64, undef, Nat.zero_add, Nat.add_zero, Int.zero_add, Int.add_zero, Int.sub_zero, St.loadN_other, St.cell_other, h8, h11, h14, h15, h16, h17]
          refine wJ_of (F.osierref04_Same_J (hsv.ext dotE heE) (hso.ext dotE heE) (by omega)) ?_; rintro _ _ ⟨rfl, rfl⟩
          simp (disch := omega) only [go_sem, ↓reduceIte, Nat.reduceEqDiff, Nat.reduceAdd, Nat.reduceMul, Nat.reduceSub, Nat.reduceLT, Nat.reduceLeDiff, Nat.reduceBEq, Nat.reduceLeDiff, reduceCtorEq, Int.reduceLT, Int.reduceEq, Int.reduceLE, Int.reduceAdd, Int.reduceSub, Int.reduceToNat, Int.reduceNeg, Int.toNat_natCast, beq_self_eq_true, wrap64, undef, Nat.zero_add, Nat.add_zero, Int.zero_add, Int.add_zero, Int.sub_zero, St.loadN_other, St.cell_other]
        · simp (disch := omega) only [go_sem, ↓reduceIte, Nat.reduceEqDiff, Nat.reduceAdd, Nat.reduceMul, Nat.reduceSub, Nat.reduceLT, Nat.reduceLeDiff, Nat.reduceBEq, Nat.reduceLeDiff, reduceCtorEq, Int.reduceLT, Int.reduceEq, Int.reduceLE, Int.reduceAdd, Int.reduceSub, Int.reduceToNat, Int.reduceNeg, Int.toNat_natCast, beq_self_eq_true, wrap64, undef, Nat.zero_add, Nat.add_zero, Int.zero_add, Int.add_zero, Int.sub_zero, St.loadN_other, St.cell_other, c4]
          have j3 := jl (joinV V W) X
          have j4 := jl W X
          have j5 := jl V (joinV W X)
          have j6 := jl V V
          have j7 := jl V (meetV V W)
          refine wJ_of (F.vector_Join_J j8' x8' hj hx (by omega) (by omega)) ?_; rintro v9 S9 ⟨ho9, he9⟩
          simp (disch := omega) only [go_sem, ↓reduceIte, Nat.reduceEqDiff, Nat.reduceAdd, Nat.reduceMul, Nat.reduceSub, Nat.reduceLT, Nat.reduceLeDiff, Nat.reduceBEq, Nat.reduceLeDiff, reduceCtorEq, Int.reduceLT, Int.reduceEq, Int.reduceLE, Int.reduceAdd, Int.reduceSub, Int.reduceToNat, Int.reduceNeg, Int.toNat_natCast, beq_self_eq_true, wrap64, undef, Nat.zero_add, Nat.add_zero, Int.zero_add, Int.add_zero, Int.sub_zero, St.loadN_other, St.cell_other]
          refine wJ_of (F.vector_Join_J (w8'.ext dotE he9) (x8'.ext dotE he9) hw hx (by omega) (by omega)) ?_; rintro vA SA ⟨hoA, heA⟩
          simp (disch := omega) only [go_sem, ↓reduceIte, Nat.reduceEqDiff, Nat.reduceAdd, Nat.reduceMul, Nat.reduceSub, Nat.reduceLT, Nat.reduceLeDiff, Nat.reduceBEq, Nat.reduceLeDiff, reduceCtorEq, Int.reduceLT, Int.reduceEq, Int.reduceLE, Int.reduceAdd, Int.reduceSub, Int.reduceToNat, Int.reduceNeg, Int.toNat_natCast, beq_self_eq_true, wrap64, undef, Nat.zero_add, Nat.add_zero, Int.zero_add, Int.add_zero, Int.sub_zero, St.loadN_other, St.cell_other]
          have e9A := he9.trans heA
          refine wJ_of (F.vector_Join_J (v8'.ext dotE e9A) (hoA.sl dotE) hv (joinV_is hw hx) (by omega) (by omega)) ?_; rintro vB SB ⟨hoB, heB⟩
          simp (disch := omega) only [go_sem, ↓reduceIte, Nat.reduceEqDiff, Nat.reduceAdd, Nat.reduceMul, Nat.reduceSub, Nat.reduceLT, Nat.reduceLeDiff, Nat.reduceBEq, Nat.reduceLeDiff, reduceCtorEq, Int.reduceLT, Int.reduceEq, Int.reduceLE, Int.reduceAdd, Int.reduceSub, Int.reduceToNat, Int.reduceNeg, Int.toNat_natCast, beq_self_eq_true, wrap64, undef, Nat.zero_add, Nat.add_zero, Int.zero_add, Int.add_zero, Int.sub_zero, St.loadN_other, St.cell_other]
          refine wJ_of (F.vector_Same_J ((ho9.sl dotE).ext dotE (heA.trans heB)) (hoB.sl dotE) (by omega)) ?_; rintro _ _ ⟨rfl, rfl⟩
          have e9B := e9A.trans heB
          simp (disch := omega) only [go_sem, ↓reduceIte, Nat.reduceEqDiff, Nat.reduceAdd, Nat.reduceMul, Nat.reduceSub, Nat.reduceLT, Nat.reduceLeDiff, Nat.reduceBEq, Nat.reduceLeDiff, reduceCtorEq, Int.reduceLT, Int.reduceEq, Int.reduceLE, Int.reduceAdd, Int.reduceSub, Int.reduceToNat, Int.reduceNeg, Int.toNat_natCast, beq_self_eq_true, wrap64, undef, Nat.zero_add, Nat.add_zero, Int.zero_add, Int.add_zero, Int.sub_zero, St.loadN_other, St.cell_other, decide_eq_true q3]
          refine wJ_of (F.vector_Join_J (v8'.ext dotE e9B) (v8'.ext dotE e9B) hv hv (by omega) (by omega)) ?_; rintro vC SC ⟨hoC, heC⟩
          have e9C := e9B.trans heC
          simp (disch := omega) only [go_sem, ↓reduceIte, Nat.reduceEqDiff, Nat.reduceAdd, Nat.reduceMul, Nat.reduceSub, Nat.reduceLT, Nat.reduceLeDiff, Nat.reduceBEq, Nat.reduceLeDiff, reduceCtorEq, Int.reduceLT, Int.reduceEq, Int.reduceLE, Int.reduceAdd, Int.reduceSub, Int.reduceToNat, Int.reduceNeg, Int.toNat_natCast, beq_self_eq_true, wrap64, undef, Nat.zero_add, Nat.add_zero, Int.zero_add, Int.add_zero, Int.sub_zero, St.loadN_other, St.cell_other]
          refine wJ_of (F.vector_Same_J (hoC.sl dotE) (v8'.ext dotE e9C) (by omega)) ?_; rintro _ _ ⟨rfl, rfl⟩
          simp (disch := omega) only [go_sem, ↓reduceIte, Nat.reduceEqDiff, Nat.reduceAdd, Nat.reduceMul, Nat.reduceSub, Nat.reduceLT, Nat.reduceLeDiff, Nat.reduceBEq, Nat.reduceLeDiff, reduceCtorEq, Int.reduceLT, Int.reduceEq, Int.reduceLE, Int.reduceAdd, Int.reduceSub, Int.reduceToNat, Int.reduceNeg, Int.toNat_natCast, beq_self_eq_true, wrap64, undef, Nat.zero_add, Nat.add_zero, Int.zero_add, Int.add_zero, Int.sub_zero, St.loadN_other, St.cell_other, decide_eq_true q4]
          refine wJ_of (F.vector_Join_J (v8'.ext dotE e9C) (m8'.ext dotE e9C) hv hm (by omega) (by omega)) ?_; rintro vD SD ⟨hoD, heD⟩
          have e9D := e9C.trans heD
          simp (disch := omega) only [go_sem, ↓reduceIte, Nat.reduceEqDiff, Nat.reduceAdd, Nat.reduceMul, Nat.reduceSub, Nat.reduceLT, Nat.reduceLeDiff, Nat.reduceBEq, Nat.reduceLeDiff, reduceCtorEq, Int.reduceLT, Int.reduceEq, Int.reduceLE, Int.reduceAdd, Int.reduceSub, Int.reduceToNat, Int.reduceNeg, Int.toNat_natCast, beq_self_eq_true, wrap64, undef, Nat.zero_add, Nat.add_zero, Int.zero_add, Int.add_zero, Int.sub_zero, St.loadN_other, St.cell_other]
          refine wJ_of (F.vector_Same_J (hoD.sl dotE) (v8'.ext dotE e9D) (by omega)) ?_; rintro _ _ ⟨rfl, rfl⟩
          have e4D := e8.trans e9D
          have hwj := ((hoj.ext dotE he6).ext dotE (e68.trans e9D)).wr
          obtain ⟨bj, cj, rfl⟩ := (hoj.sl dotE).len dotE
          have hkj : (joinV V W).length ≤ 200 := by omega
          simp (disch := omega) only [go_sem, ↓reduceIte, Nat.reduceEqDiff, Nat.reduceAdd, Nat.reduceMul, Nat.reduceSub, Nat.reduceLT, Nat.reduceLeDiff, Nat.reduceBEq, Nat.reduceLeDiff, reduceCtorEq, Int.reduceLT, Int.reduceEq, Int.reduceLE, Int.reduceAdd, Int.reduceSub, Int.reduceToNat, Int.reduceNeg, Int.toNat_natCast, beq_self_eq_true, wrap64, undef, Nat.zero_add, Nat.add_zero, Int.zero_add, Int.add_zero, Int.sub_zero, St.loadN_other, St.cell_other, decide_eq_true q5]
          clear hoj hsj j8' q1 q3 gj b1 b2 b5 j1 j3 hj
          generalize (joinV V W).length = k at *
          refine wC_at 0 (fun fr S' => fr 8 = vv ∧ fr 11 = vo ∧ fr 14 = .bool true ∧ fr 15 = .bool true ∧ fr 16 = .bool true ∧ fr 17 = .bool true ∧ S4.Ext S') ?_ ?_
          · refine wC_loop (fun n fr S' => ∃ i, n = k - i ∧ i ≤ k ∧ fr 8 = vv ∧ fr 11 = vo ∧ fr 12 = .slice bj k cj ∧ fr 14 = .bool true ∧ fr 15 = .bool true ∧ fr 16 = .bool true ∧ fr 17 = .bool true ∧ fr 18 = .int .i64 (i : Nat) ∧ S4.Ext S' ∧ WrT S4.n S' (.slice bj k cj) k) k
              ⟨0, by simp (disch := omega) only [go_sem, ↓reduceIte, Nat.reduceEqDiff, Nat.reduceAdd, Nat.reduceMul, Nat.reduceSub, Nat.reduceLT, Nat.reduceLeDiff, Nat.reduceBEq, Nat.reduceLeDiff, reduceCtorEq, Int.reduceLT, Int.reduceEq, Int.reduceLE, Int.reduceAdd, Int.reduceSub, Int.reduceToNat, Int.reduceNeg, Int.toNat_natCast, beq_self_eq_true, wrap64, undef, Nat.zero_add, Nat.add_zero, Int.zero_add, Int.add_zero, Int.sub_zero, St.loadN_other, St.cell_other]; exact ⟨by simp, by simp, e4D, hwj⟩⟩ ?_
            rintro n fr S' ⟨i, rfl, hi, h8, h11, h12, h14, h15, h16, h17, h18, he', hw'⟩
            simp (disch := omega) only [go_sem, ↓reduceIte, Nat.reduceEqDiff, Nat.reduceAdd, Nat.reduceMul, Nat.reduceSub, Nat.reduceLT, Nat.reduceLeDiff, Nat.reduceBEq, Nat.reduceLeDiff, reduceCtorEq, Int.reduceLT, Int.reduceEq, Int.reduceLE, Int.reduceAdd, Int.reduceSub, Int.reduceToNat, Int.reduceNeg, Int.toNat_natCast, beq_self_eq_true, wrap64, undef, Nat.zero_add, Nat.add_zero, Int.zero_add, Int.add_zero, Int.sub_zero, St.loadN_other, St.cell_other, F.osierlaw04_VectorLaws.l0, h8, h11, h12, h14, h15, h16, h17, h18]
            refine wcond_dec (fun hlt => ?_) (fun hge => ?_)
            · have hc : (0 : Int) ≤ (i : Int) ∧ (i : Int) < ((k : Nat) : Int) := by omega
              rcases hw' with h | ⟨b, c, cs, hv, hB, hob, hlen, hcap⟩
              · omega
              injection hv with hv1 hv2 hv3
              subst hv1 hv3
              simp (disch := omega) only [go_sem, ↓reduceIte, Nat.reduceEqDiff, Nat.reduceAdd, Nat.reduceMul, Nat.reduceSub, Nat.reduceLT, Nat.reduceLeDiff, Nat.reduceBEq, Nat.reduceLeDiff, reduceCtorEq, Int.reduceLT, Int.reduceEq, Int.reduceLE, Int.reduceAdd, Int.reduceSub, Int.reduceToNat, Int.reduceNeg, Int.toNat_natCast, beq_self_eq_true, wrap64, undef, Nat.zero_add, Nat.add_zero, Int.zero_add, Int.add_zero, Int.sub_zero, St.loadN_other, St.cell_other, h12, h18, hc]
              refine wst_of hob rfl rfl (by omega) (by omega) ?_
              simp (disch := omega) only [go_sem, ↓reduceIte, Nat.reduceEqDiff, Nat.reduceAdd, Nat.reduceMul, Nat.reduceSub, Nat.reduceLT, Nat.reduceLeDiff, Nat.reduceBEq, Nat.reduceLeDiff, reduceCtorEq, Int.reduceLT, Int.reduceEq, Int.reduceLE, Int.reduceAdd, Int.reduceSub, Int.reduceToNat, Int.reduceNeg, Int.toNat_natCast, beq_self_eq_true, wrap64, undef, Nat.zero_add, Nat.add_zero, Int.zero_add, Int.add_zero, Int.sub_zero, St.loadN_other, St.cell_other, h8, h11, h12, h14, h15, h16, h17, h18]
              refine ⟨k - (i + 1), by omega, i + 1, rfl, by omega, rfl, ⟨Nat.le_trans he'.n (by rw [St.put_n]; omega), fun k hk => ?_⟩, .inr ⟨b, _, _, rfl, hB, St.put_same _ _ _, ?_, hcap⟩⟩
              · rw [St.put_other _ _ _ (by omega)]
                exact he'.obj k hk
              · simp
                omega
            · simp (disch := omega) only [go_sem, ↓reduceIte, Nat.reduceEqDiff, Nat.reduceAdd, Nat.reduceMul, Nat.reduceSub, Nat.reduceLT, Nat.reduceLeDiff, Nat.reduceBEq, Nat.reduceLeDiff, reduceCtorEq, Int.reduceLT, Int.reduceEq, Int.reduceLE, Int.reduceAdd, Int.reduceSub, Int.reduceToNat, Int.reduceNeg, Int.toNat_natCast, beq_self_eq_true, wrap64, undef, Nat.zero_add, Nat.add_zero, Int.zero_add, Int.add_zero, Int.sub_zero, St.loadN_other, St.cell_other, h8, h11, h12, h14, h15, h16, h17, h18]
              exact he'
          rintro fr S' ⟨h8, h11, h14, h15, h16, h17, heE⟩
          simp (disch := omega) only [go_sem, ↓reduceIte, Nat.reduceEqDiff, Nat.reduceAdd, Nat.reduceMul, Nat.reduceSub, Nat.reduceLT, Nat.reduceLeDiff, Nat.reduceBEq, Nat.reduceLeDiff, reduceCtorEq, Int.reduceLT, Int.reduceEq, Int.reduceLE, Int.reduceAdd, Int.reduceSub, Int.reduceToNat, Int.reduceNeg, Int.toNat_natCast, beq_self_eq_true, wrap64, undef, Nat.zero_add, Nat.add_zero, Int.zero_add, Int.add_zero, Int.sub_zero, St.loadN_other, St.cell_other, h8, h11, h14, h15, h16, h17]
          refine wJ_of (F.osierref04_Same_J (hsv.ext dotE heE) (hso.ext dotE heE) (by omega)) ?_; rintro _ _ ⟨rfl, rfl⟩
          simp (disch := omega) only [go_sem, ↓reduceIte, Nat.reduceEqDiff, Nat.reduceAdd, Nat.reduceMul, Nat.reduceSub, Nat.reduceLT, Nat.reduceLeDiff, Nat.reduceBEq, Nat.reduceLeDiff, reduceCtorEq, Int.reduceLT, Int.reduceEq, Int.reduceLE, Int.reduceAdd, Int.reduceSub, Int.reduceToNat, Int.reduceNeg, Int.toNat_natCast, beq_self_eq_true, wrap64, undef, Nat.zero_add, Nat.add_zero, Int.zero_add, Int.add_zero, Int.sub_zero, St.loadN_other, St.cell_other]
      · simp (disch := omega) only [go_sem, ↓reduceIte, Nat.reduceEqDiff, Nat.reduceAdd, Nat.reduceMul, Nat.reduceSub, Nat.reduceLT, Nat.reduceLeDiff, Nat.reduceBEq, Nat.reduceLeDiff, reduceCtorEq, Int.reduceLT, Int.reduceEq, Int.reduceLE, Int.reduceAdd, Int.reduceSub, Int.reduceToNat, Int.reduceNeg, Int.toNat_natCast, beq_self_eq_true, wrap64, undef, Nat.zero_add, Nat.add_zero, Int.zero_add, Int.add_zero, Int.sub_zero, St.loadN_other, St.cell_other, c3]
        have j3 := jl (joinV V W) X
        have j4 := jl W X
        have j5 := jl V (joinV W X)
        have j6 := jl V V
        have j7 := jl V (meetV V W)
        refine wJ_of (F.vector_Join_J j8' x8' hj hx (by omega) (by omega)) ?_; rintro v9 S9 ⟨ho9, he9⟩
        simp (disch := omega) only [go_sem, ↓reduceIte, Nat.reduceEqDiff, Nat.reduceAdd, Nat.reduceMul, Nat.reduceSub, Nat.reduceLT, Nat.reduceLeDiff, Nat.reduceBEq, Nat.reduceLeDiff, reduceCtorEq, Int.reduceLT, Int.reduceEq, Int.reduceLE, Int.reduceAdd, Int.reduceSub, Int.reduceToNat, Int.reduceNeg, Int.toNat_natCast, beq_self_eq_true, wrap64, undef, Nat.zero_add, Nat.add_zero, Int.zero_add, Int.add_zero, Int.sub_zero, St.loadN_other, St.cell_other]
        refine wJ_of (F.vector_Join_J (w8'.ext dotE he9) (x8'.ext dotE he9) hw hx (by omega) (by omega)) ?_; rintro vA SA ⟨hoA, heA⟩
        simp (disch := omega) only [go_sem, ↓reduceIte, Nat.reduceEqDiff, Nat.reduceAdd, Nat.reduceMul, Nat.reduceSub, Nat.reduceLT, Nat.reduceLeDiff, Nat.reduceBEq, Nat.reduceLeDiff, reduceCtorEq, Int.reduceLT, Int.reduceEq, Int.reduceLE, Int.reduceAdd, Int.reduceSub, Int.reduceToNat, Int.reduceNeg, Int.toNat_natCast, beq_self_eq_true, wrap64, undef, Nat.zero_add, Nat.add_zero, Int.zero_add, Int.add_zero, Int.sub_zero, St.loadN_other, St.cell_other]
        have e9A := he9.trans heA
        refine wJ_of (F.vector_Join_J (v8'.ext dotE e9A) (hoA.sl dotE) hv (joinV_is hw hx) (by omega) (by omega)) ?_; rintro vB SB ⟨hoB, heB⟩
        simp (disch := omega) only [go_sem, ↓reduceIte, Nat.reduceEqDiff, Nat.reduceAdd, Nat.reduceMul, Nat.reduceSub, Nat.reduceLT, Nat.reduceLeDiff, Nat.reduceBEq, Nat.reduceLeDiff, reduceCtorEq, Int.reduceLT, Int.reduceEq, Int.reduceLE, Int.reduceAdd, Int.reduceSub, Int.reduceToNat, Int.reduceNeg, Int.toNat_natCast, beq_self_eq_true, wrap64, undef, Nat.zero_add, Nat.add_zero, Int.zero_add, Int.add_zero, Int.sub_zero, St.loadN_other, St.cell_other]
        refine wJ_of (F.vector_Same_J ((ho9.sl dotE).ext dotE (heA.trans heB)) (hoB.sl dotE) (by omega)) ?_; rintro _ _ ⟨rfl, rfl⟩
        have e9B := e9A.trans heB
        simp (disch := omega) only [go_sem, ↓reduceIte, Nat.reduceEqDiff, Nat.reduceAdd, Nat.reduceMul, Nat.reduceSub, Nat.reduceLT, Nat.reduceLeDiff, Nat.reduceBEq, Nat.reduceLeDiff, reduceCtorEq, Int.reduceLT, Int.reduceEq, Int.reduceLE, Int.reduceAdd, Int.reduceSub, Int.reduceToNat, Int.reduceNeg, Int.toNat_natCast, beq_self_eq_true, wrap64, undef, Nat.zero_add, Nat.add_zero, Int.zero_add, Int.add_zero, Int.sub_zero, St.loadN_other, St.cell_other, decide_eq_true q3]
        refine wJ_of (F.vector_Join_J (v8'.ext dotE e9B) (v8'.ext dotE e9B) hv hv (by omega) (by omega)) ?_; rintro vC SC ⟨hoC, heC⟩
        have e9C := e9B.trans heC
        simp (disch := omega) only [go_sem, ↓reduceIte, Nat.reduceEqDiff, Nat.reduceAdd, Nat.reduceMul, Nat.reduceSub, Nat.reduceLT, Nat.reduceLeDiff, Nat.reduceBEq, Nat.reduceLeDiff, reduceCtorEq, Int.reduceLT, Int.reduceEq, Int.reduceLE, Int.reduceAdd, Int.reduceSub, Int.reduceToNat, Int.reduceNeg, Int.toNat_natCast, beq_self_eq_true, wrap64, undef, Nat.zero_add, Nat.add_zero, Int.zero_add, Int.add_zero, Int.sub_zero, St.loadN_other, St.cell_other]
        refine wJ_of (F.vector_Same_J (hoC.sl dotE) (v8'.ext dotE e9C) (by omega)) ?_; rintro _ _ ⟨rfl, rfl⟩
        simp (disch := omega) only [go_sem, ↓reduceIte, Nat.reduceEqDiff, Nat.reduceAdd, Nat.reduceMul, Nat.reduceSub, Nat.reduceLT, Nat.reduceLeDiff, Nat.reduceBEq, Nat.reduceLeDiff, reduceCtorEq, Int.reduceLT, Int.reduceEq, Int.reduceLE, Int.reduceAdd, Int.reduceSub, Int.reduceToNat, Int.reduceNeg, Int.toNat_natCast, beq_self_eq_true, wrap64, undef, Nat.zero_add, Nat.add_zero, Int.zero_add, Int.add_zero, Int.sub_zero, St.loadN_other, St.cell_other, decide_eq_true q4]
        refine wJ_of (F.vector_Join_J (v8'.ext dotE e9C) (m8'.ext dotE e9C) hv hm (by omega) (by omega)) ?_; rintro vD SD ⟨hoD, heD⟩
        have e9D := e9C.trans heD
        simp (disch := omega) only [go_sem, ↓reduceIte, Nat.reduceEqDiff, Nat.reduceAdd, Nat.reduceMul, Nat.reduceSub, Nat.reduceLT, Nat.reduceLeDiff, Nat.reduceBEq, Nat.reduceLeDiff, reduceCtorEq, Int.reduceLT, Int.reduceEq, Int.reduceLE, Int.reduceAdd, Int.reduceSub, Int.reduceToNat, Int.reduceNeg, Int.toNat_natCast, beq_self_eq_true, wrap64, undef, Nat.zero_add, Nat.add_zero, Int.zero_add, Int.add_zero, Int.sub_zero, St.loadN_other, St.cell_other]
        refine wJ_of (F.vector_Same_J (hoD.sl dotE) (v8'.ext dotE e9D) (by omega)) ?_; rintro _ _ ⟨rfl, rfl⟩
        have e4D := e8.trans e9D
        have hwj := ((hoj.ext dotE he6).ext dotE (e68.trans e9D)).wr
        obtain ⟨bj, cj, rfl⟩ := (hoj.sl dotE).len dotE
        have hkj : (joinV V W).length ≤ 200 := by omega
        simp (disch := omega) only [go_sem, ↓reduceIte, Nat.reduceEqDiff, Nat.reduceAdd, Nat.reduceMul, Nat.reduceSub, Nat.reduceLT, Nat.reduceLeDiff, Nat.reduceBEq, Nat.reduceLeDiff, reduceCtorEq, Int.reduceLT, Int.reduceEq, Int.reduceLE, Int.reduceAdd, Int.reduceSub, Int.reduceToNat, Int.reduceNeg, Int.toNat_natCast, beq_self_eq_true, wrap64, undef, Nat.zero_add, Nat.add_zero, Int.zero_add, Int.add_zero, Int.sub_zero, St.loadN_other, St.cell_other, decide_eq_true q5]
        clear hoj hsj j8' q1 q3 gj b1 b2 b5 j1 j3 hj
        generalize (joinV V W).length = k at *
        refine wC_at 0 (fun fr S' => fr 8 = vv ∧ fr 11 = vo ∧ fr 14 = .bool true ∧ fr 15 = .bool true ∧ fr 16 = .bool true ∧ fr 17 = .bool true ∧ S4.Ext S') ?_ ?_
        · refine wC_loop (fun n fr S' => ∃ i, n = k - i ∧ i ≤ k ∧ fr 8 = vv ∧ fr 11 = vo ∧ fr 12 = .slice bj k cj ∧ fr 14 = .bool true ∧ fr 15 = .bool true ∧ fr 16 = .bool true ∧ fr 17 = .bool true ∧ fr 18 = .int .i64 (i : Nat) ∧ S4.Ext S' ∧ WrT S4.n S' (.slice bj k cj) k) k
            ⟨0, by simp (disch := omega) only [go_sem, ↓reduceIte, Nat.reduceEqDiff, Nat.reduceAdd, Nat.reduceMul, Nat.reduceSub, Nat.reduceLT, Nat.reduceLeDiff, Nat.reduceBEq, Nat.reduceLeDiff, reduceCtorEq, Int.reduceLT, Int.reduceEq, Int.reduceLE, Int.reduceAdd, Int.reduceSub, Int.reduceToNat, Int.reduceNeg, Int.toNat_natCast, beq_self_eq_true, wrap64, undef, Nat.zero_add, Nat.add_zero, Int.zero_add, Int.add_zero, Int.sub_zero, St.loadN_other, St.cell_other]; exact ⟨by simp, by simp, e4D, hwj⟩⟩ ?_
          rintro n fr S' ⟨i, rfl, hi, h8, h11, h12, h14, h15, h16, h17, h18, he', hw'⟩
          simp (disch := omega) only [go_sem, ↓reduceIte, Nat.reduceEqDiff, Nat.reduceAdd, Nat.reduceMul, Nat.reduceSub, Nat.reduceLT, Nat.reduceLeDiff, Nat.reduceBEq, Nat.reduceLeDiff, reduceCtorEq, Int.reduceLT, Int.reduceEq, Int.reduceLE, Int.reduceAdd, Int.reduceSub, Int.reduceToNat, Int.reduceNeg, Int.toNat_natCast, beq_self_eq_true, wrap64, undef, Nat.zero_add, Nat.add_zero, Int.zero_add, Int.add_zero, Int.sub_zero, St.loadN_other, St.cell_other, F.osierlaw04_VectorLaws.l0, h8, h11, h12, h14, h15, h16, h17, h18]
          refine wcond_dec (fun hlt => ?_) (fun hge => ?_)
          · have hc : (0 : Int) ≤ (i : Int) ∧ (i : Int) < ((k : Nat) : Int) := by omega
            rcases hw' with h | ⟨b, c, cs, hv, hB, hob, hlen, hcap⟩
            · omega
            injection hv with hv1 hv2 hv3
            subst hv1 hv3
            simp (disch := omega) only [go_sem, ↓reduceIte, Nat.reduceEqDiff, Nat.reduceAdd, Nat.reduceMul, Nat.reduceSub, Nat.reduceLT, Nat.reduceLeDiff, Nat.reduceBEq, Nat.reduceLeDiff, reduceCtorEq, Int.reduceLT, Int.reduceEq, Int.reduceLE, Int.reduceAdd, Int.reduceSub, Int.reduceToNat, Int.reduceNeg, Int.toNat_natCast, beq_self_eq_true, wrap64, undef, Nat.zero_add, Nat.add_zero, Int.zero_add, Int.add_zero, Int.sub_zero, St.loadN_other, St.cell_other, h12, h18, hc]
            refine wst_of hob rfl rfl (by omega) (by omega) ?_
            simp (disch := omega) only [go_sem, ↓reduceIte, Nat.reduceEqDiff, Nat.reduceAdd, Nat.reduceMul, Nat.reduceSub, Nat.reduceLT, Nat.reduceLeDiff, Nat.reduceBEq, Nat.reduceLeDiff, reduceCtorEq, Int.reduceLT, Int.reduceEq, Int.reduceLE, Int.reduceAdd, Int.reduceSub, Int.reduceToNat, Int.reduceNeg, Int.toNat_natCast, beq_self_eq_true, wrap64, undef, Nat.zero_add, Nat.add_zero, Int.zero_add, Int.add_zero, Int.sub_zero, St.loadN_other, St.cell_other, h8, h11, h12, h14, h15, h16, h17, h18]
            refine ⟨k - (i + 1), by omega, i + 1, rfl, by omega, rfl, ⟨Nat.le_trans he'.n (by rw [St.put_n]; omega), fun k hk => ?_⟩, .inr ⟨b, _, _, rfl, hB, St.put_same _ _ _, ?_, hcap⟩⟩
            · rw [St.put_other _ _ _ (by omega)]
              exact he'.obj k hk
            · simp
              omega
          · simp (disch := omega) only [go_sem, ↓reduceIte, Nat.reduceEqDiff, Nat.reduceAdd, Nat.reduceMul, Nat.reduceSub, Nat.reduceLT, Nat.reduceLeDiff, Nat.reduceBEq, Nat.reduceLeDiff, reduceCtorEq, Int.reduceLT, Int.reduceEq, Int.reduceLE, Int.reduceAdd, Int.reduceSub, Int.reduceToNat, Int.reduceNeg, Int.toNat_natCast, beq_self_eq_true, wrap64, undef, Nat.zero_add, Nat.add_zero, Int.zero_add, Int.add_zero, Int.sub_zero, St.loadN_other, St.cell_other, h8, h11, h12, h14, h15, h16, h17, h18]
            exact he'
        rintro fr S' ⟨h8, h11, h14, h15, h16, h17, heE⟩
        simp (disch := omega) only [go_sem, ↓reduceIte, Nat.reduceEqDiff, Nat.reduceAdd, Nat.reduceMul, Nat.reduceSub, Nat.reduceLT, Nat.reduceLeDiff, Nat.reduceBEq, Nat.reduceLeDiff, reduceCtorEq, Int.reduceLT, Int.reduceEq, Int.reduceLE, Int.reduceAdd, Int.reduceSub, Int.reduceToNat, Int.reduceNeg, Int.toNat_natCast, beq_self_eq_true, wrap64, undef, Nat.zero_add, Nat.add_zero, Int.zero_add, Int.add_zero, Int.sub_zero, St.loadN_other, St.cell_other, h8, h11, h14, h15, h16, h17]
        refine wJ_of (F.osierref04_Same_J (hsv.ext dotE heE) (hso.ext dotE heE) (by omega)) ?_; rintro _ _ ⟨rfl, rfl⟩
        simp (disch := omega) only [go_sem, ↓reduceIte, Nat.reduceEqDiff, Nat.reduceAdd, Nat.reduceMul, Nat.reduceSub, Nat.reduceLT, Nat.reduceLeDiff, Nat.reduceBEq, Nat.reduceLeDiff, reduceCtorEq, Int.reduceLT, Int.reduceEq, Int.reduceLE, Int.reduceAdd, Int.reduceSub, Int.reduceToNat, Int.reduceNeg, Int.toNat_natCast, beq_self_eq_true, wrap64, undef, Nat.zero_add, Nat.add_zero, Int.zero_add, Int.add_zero, Int.sub_zero, St.loadN_other, St.cell_other]
    · simp (disch := omega) only [go_sem, ↓reduceIte, Nat.reduceEqDiff, Nat.reduceAdd, Nat.reduceMul, Nat.reduceSub, Nat.reduceLT, Nat.reduceLeDiff, Nat.reduceBEq, Nat.reduceLeDiff, reduceCtorEq, Int.reduceLT, Int.reduceEq, Int.reduceLE, Int.reduceAdd, Int.reduceSub, Int.reduceToNat, Int.reduceNeg, Int.toNat_natCast, beq_self_eq_true, wrap64, undef, Nat.zero_add, Nat.add_zero, Int.zero_add, Int.add_zero, Int.sub_zero, St.loadN_other, St.cell_other, c2]
      refine wJ_of (F.vector_Below_J x8' v8' (by omega) (by omega)) ?_; rintro _ _ ⟨rfl, rfl⟩
      by_cases c3 : belowP X V
      · simp (disch := omega) only [go_sem, ↓reduceIte, Nat.reduceEqDiff, Nat.reduceAdd, Nat.reduceMul, Nat.reduceSub, Nat.reduceLT, Nat.reduceLeDiff, Nat.reduceBEq, Nat.reduceLeDiff, reduceCtorEq, Int.reduceLT, Int.reduceEq, Int.reduceLE, Int.reduceAdd, Int.reduceSub, Int.reduceToNat, Int.reduceNeg, Int.toNat_natCast, beq_self_eq_true, wrap64, undef, Nat.zero_add, Nat.add_zero, Int.zero_add, Int.add_zero, Int.sub_zero, St.loadN_other, St.cell_other, c3]
        refine wJ_of (F.vector_Below_J x8' w8' (by omega) (by omega)) ?_; rintro _ _ ⟨rfl, rfl⟩
        by_cases c4 : belowP X W
        · simp (disch := omega) only [go_sem, ↓reduceIte, Nat.reduceEqDiff, Nat.reduceAdd, Nat.reduceMul, Nat.reduceSub, Nat.reduceLT, Nat.reduceLeDiff, Nat.reduceBEq, Nat.reduceLeDiff, reduceCtorEq, Int.reduceLT, Int.reduceEq, Int.reduceLE, Int.reduceAdd, Int.reduceSub, Int.reduceToNat, Int.reduceNeg, Int.toNat_natCast, beq_self_eq_true, wrap64, undef, Nat.zero_add, Nat.add_zero, Int.zero_add, Int.add_zero, Int.sub_zero, St.loadN_other, St.cell_other, c4]
          refine wJ_of (F.vector_Below_J x8' m8' (by omega) (by omega)) ?_; rintro _ _ ⟨rfl, rfl⟩
          simp (disch := omega) only [go_sem, ↓reduceIte, Nat.reduceEqDiff, Nat.reduceAdd, Nat.reduceMul, Nat.reduceSub, Nat.reduceLT, Nat.reduceLeDiff, Nat.reduceBEq, Nat.reduceLeDiff, reduceCtorEq, Int.reduceLT, Int.reduceEq, Int.reduceLE, Int.reduceAdd, Int.reduceSub, Int.reduceToNat, Int.reduceNeg, Int.toNat_natCast, beq_self_eq_true, wrap64, undef, Nat.zero_add, Nat.add_zero, Int.zero_add, Int.add_zero, Int.sub_zero, St.loadN_other, St.cell_other, b6 c3 c4]
          have j3 := jl (joinV V W) X
          have j4 := jl W X
          have j5 := jl V (joinV W X)
          have j6 := jl V V
          have j7 := jl V (meetV V W)
          refine wJ_of (F.vector_Join_J j8' x8' hj hx (by omega) (by omega)) ?_; rintro v9 S9 ⟨ho9, he9⟩
          simp (disch := omega) only [go_sem, ↓reduceIte, Nat.reduceEqDiff, Nat.reduceAdd, Nat.reduceMul, Nat.reduceSub, Nat.reduceLT, Nat.reduceLeDiff, Nat.reduceBEq, Nat.reduceLeDiff, reduceCtorEq, Int.reduceLT, Int.reduceEq, Int.reduceLE, Int.reduceAdd, Int.reduceSub, Int.reduceToNat, Int.reduceNeg, Int.toNat_natCast, beq_self_eq_true, wrap64, undef, Nat.zero_add, Nat.add_zero, Int.zero_add, Int.add_zero, Int.sub_zero, St.loadN_other, St.cell_other]
          refine wJ_of (F.vector_Join_J (w8'.ext dotE he9) (x8'.ext dotE he9) hw hx (by omega) (by omega)) ?_; rintro vA SA ⟨hoA, heA⟩
          simp (disch := omega) only [go_sem, ↓reduceIte, Nat.reduceEqDiff, Nat.reduceAdd, Nat.reduceMul, Nat.reduceSub, Nat.reduceLT, Nat.reduceLeDiff, Nat.reduceBEq, Nat.reduceLeDiff, reduceCtorEq, Int.reduceLT, Int.reduceEq, Int.reduceLE, Int.reduceAdd, Int.reduceSub, Int.reduceToNat, Int.reduceNeg, Int.toNat_natCast, beq_self_eq_true, wrap64, undef, Nat.zero_add, Nat.add_zero, Int.zero_add, Int.add_zero, Int.sub_zero, St.loadN_other, St.cell_other]
          have e9A := he9.trans heA
          refine wJ_of (F.vector_Join_J (v8'.ext dotE e9A) (hoA.sl dotE) hv (joinV_is hw hx) (by omega) (by omega)) ?_; rintro vB SB ⟨hoB, heB⟩
          simp (disch := omega) only [go_sem, ↓reduceIte, Nat.reduceEqDiff, Nat.reduceAdd, Nat.reduceMul, Nat.reduceSub, Nat.reduceLT, Nat.reduceLeDiff, Nat.reduceBEq, Nat.reduceLeDiff, reduceCtorEq, Int.reduceLT, Int.reduceEq, Int.reduceLE, Int.reduceAdd, Int.reduceSub, Int.reduceToNat, Int.reduceNeg, Int.toNat_natCast, beq_self_eq_true, wrap64, undef, Nat.zero_add, Nat.add_zero, Int.zero_add, Int.add_zero, Int.sub_zero, St.loadN_other, St.cell_other]
          refine wJ_of (F.vector_Same_J ((ho9.sl dotE).ext dotE (heA.trans heB)) (hoB.sl dotE) (by omega)) ?_; rintro _ _ ⟨rfl, rfl⟩
          have e9B := e9A.trans heB
          simp (disch := omega) only [go_sem, ↓reduceIte, Nat.reduceEqDiff, Nat.reduceAdd, Nat.reduceMul, Nat.reduceSub, Nat.reduceLT, Nat.reduceLeDiff, Nat.reduceBEq, Nat.reduceLeDiff, reduceCtorEq, Int.reduceLT, Int.reduceEq, Int.reduceLE, Int.reduceAdd, Int.reduceSub, Int.reduceToNat, Int.reduceNeg, Int.toNat_natCast, beq_self_eq_true, wrap64, undef, Nat.zero_add, Nat.add_zero, Int.zero_add, Int.add_zero, Int.sub_zero, St.loadN_other, St.cell_other, decide_eq_true q3]
          refine wJ_of (F.vector_Join_J (v8'.ext dotE e9B) (v8'.ext dotE e9B) hv hv (by omega) (by omega)) ?_; rintro vC SC ⟨hoC, heC⟩
          have e9C := e9B.trans heC
          simp (disch := omega) only [go_sem, ↓reduceIte, Nat.reduceEqDiff, Nat.reduceAdd, Nat.reduceMul, Nat.reduceSub, Nat.reduceLT, Nat.reduceLeDiff, Nat.reduceBEq, Nat.reduceLeDiff, reduceCtorEq, Int.reduceLT, Int.reduceEq, Int.reduceLE, Int.reduceAdd, Int.reduceSub, Int.reduceToNat, Int.reduceNeg, Int.toNat_natCast, beq_self_eq_true, wrap64, undef, Nat.zero_add, Nat.add_zero, Int.zero_add, Int.add_zero, Int.sub_zero, St.loadN_other, St.cell_other]
          refine wJ_of (F.vector_Same_J (hoC.sl dotE) (v8'.ext dotE e9C) (by omega)) ?_; rintro _ _ ⟨rfl, rfl⟩
          simp (disch := omega) only [go_sem, ↓reduceIte, Nat.reduceEqDiff, Nat.reduceAdd, Nat.reduceMul, Nat.reduceSub, Nat.reduceLT, Nat.reduceLeDiff, Nat.reduceBEq, Nat.reduceLeDiff, reduceCtorEq, Int.reduceLT, Int.reduceEq, Int.reduceLE, Int.reduceAdd, Int.reduceSub, Int.reduceToNat, Int.reduceNeg, Int.toNat_natCast, beq_self_eq_true, wrap64, undef, Nat.zero_add, Nat.add_zero, Int.zero_add, Int.add_zero, Int.sub_zero, St.loadN_other, St.cell_other, decide_eq_true q4]
          refine wJ_of (F.vector_Join_J (v8'.ext dotE e9C) (m8'.ext dotE e9C) hv hm (by omega) (by omega)) ?_; rintro vD SD ⟨hoD, heD⟩
          have e9D := e9C.trans heD
          simp (disch := omega) only [go_sem, ↓reduceIte, Nat.reduceEqDiff, Nat.reduceAdd, Nat.reduceMul, Nat.reduceSub, Nat.reduceLT, Nat.reduceLeDiff, Nat.reduceBEq, Nat.reduceLeDiff, reduceCtorEq, Int.reduceLT, Int.reduceEq, Int.reduceLE, Int.reduceAdd, Int.reduceSub, Int.reduceToNat, Int.reduceNeg, Int.toNat_natCast, beq_self_eq_true, wrap64, undef, Nat.zero_add, Nat.add_zero, Int.zero_add, Int.add_zero, Int.sub_zero, St.loadN_other, St.cell_other]
          refine wJ_of (F.vector_Same_J (hoD.sl dotE) (v8'.ext dotE e9D) (by omega)) ?_; rintro _ _ ⟨rfl, rfl⟩
          have e4D := e8.trans e9D
          have hwj := ((hoj.ext dotE he6).ext dotE (e68.trans e9D)).wr
          obtain ⟨bj, cj, rfl⟩ := (hoj.sl dotE).len dotE
          have hkj : (joinV V W).length ≤ 200 := by omega
          simp (disch := omega) only [go_sem, ↓reduceIte, Nat.reduceEqDiff, Nat.reduceAdd, Nat.reduceMul, Nat.reduceSub, Nat.reduceLT, Nat.reduceLeDiff, Nat.reduceBEq, Nat.reduceLeDiff, reduceCtorEq, Int.reduceLT, Int.reduceEq, Int.reduceLE, Int.reduceAdd, Int.reduceSub, Int.reduceToNat, Int.reduceNeg, Int.toNat_natCast, beq_self_eq_true, wrap64, undef, Nat.zero_add, Nat.add_zero, Int.zero_add, Int.add_zero, Int.sub_zero, St.loadN_other, St.cell_other, decide_eq_true q5]
          clear hoj hsj j8' q1 q3 gj b1 b2 b5 j1 j3 hj
          generalize (joinV V W).length = k at *
          refine wC_at 0 (fun fr S' => fr 8 = vv ∧ fr 11 = vo ∧ fr 14 = .bool true ∧ fr 15 = .bool true ∧ fr 16 = .bool true ∧ fr 17 = .bool true ∧ S4.Ext S') ?_ ?_
          · refine wC_loop (fun n fr S' => ∃ i, n = k - i ∧ i ≤ k ∧ fr 8 = vv ∧ fr 11 = vo ∧ fr 12 = .slice bj k cj ∧ fr 14 = .bool true ∧ fr 15 = .bool true ∧ fr 16 = .bool true ∧ fr 17 = .bool true ∧ fr 18 = .int .i64 (i : Nat) ∧ S4.Ext S' ∧ WrT S4.n S' (.slice bj k cj) k) k
              ⟨0, by simp (disch := omega) only [go_sem, ↓reduceIte, Nat.reduceEqDiff, Nat.reduceAdd, Nat.reduceMul, Nat.reduceSub, Nat.reduceLT, Nat.reduceLeDiff, Nat.reduceBEq, Nat.reduceLeDiff, reduceCtorEq, Int.reduceLT, Int.reduceEq, Int.reduceLE, Int.reduceAdd, Int.reduceSub, Int.reduceToNat, Int.reduceNeg, Int.toNat_natCast, beq_self_eq_true, wrap64, undef, Nat.zero_add, Nat.add_zero, Int.zero_add, Int.add_zero, Int.sub_zero, St.loadN_other, St.cell_other]; exact ⟨by simp, by simp, e4D, hwj⟩⟩ ?_
            rintro n fr S' ⟨i, rfl, hi, h8, h11, h12, h14, h15, h16, h17, h18, he', hw'⟩
            simp (disch := omega) only [go_sem, ↓reduceIte, Nat.reduceEqDiff, Nat.reduceAdd, Nat.reduceMul, Nat.reduceSub, Nat.reduceLT, Nat.reduceLeDiff, Nat.reduceBEq, Nat.reduceLeDiff, reduceCtorEq, Int.reduceLT, Int.reduceEq, Int.reduceLE, Int.reduceAdd, Int.reduceSub, Int.reduceToNat, Int.reduceNeg, Int.toNat_natCast, beq_self_eq_true, wrap64, undef, Nat.zero_add, Nat.add_zero, Int.zero_add, Int.add_zero, Int.sub_zero, St.loadN_other, St.cell_other, F.osierlaw04_VectorLaws.l0, h8, h11, h12, h14, h15, h16, h17, h18]
            refine wcond_dec (fun hlt => ?_) (fun hge => ?_)
            · have hc : (0 : Int) ≤ (i : Int) ∧ (i : Int) < ((k : Nat) : Int) := by omega
              rcases hw' with h | ⟨b, c, cs, hv, hB, hob, hlen, hcap⟩
              · omega
              injection hv with hv1 hv2 hv3
              subst hv1 hv3
              simp (disch := omega) only [go_sem, ↓reduceIte, Nat.reduceEqDiff, Nat.reduceAdd, Nat.reduceMul, Nat.reduceSub, Nat.reduceLT, Nat.reduceLeDiff, Nat.reduceBEq, Nat.reduceLeDiff, reduceCtorEq, Int.reduceLT, Int.reduceEq, Int.reduceLE, Int.reduceAdd, Int.reduceSub, Int.reduceToNat, Int.reduceNeg, Int.toNat_natCast, beq_self_eq_true, wrap64, undef, Nat.zero_add, Nat.add_zero, Int.zero_add, Int.add_zero, Int.sub_zero, St.loadN_other, St.cell_other, h12, h18, hc]
              refine wst_of hob rfl rfl (by omega) (by omega) ?_
              simp (disch := omega) only [go_sem, ↓reduceIte, Nat.reduceEqDiff, Nat.reduceAdd, Nat.reduceMul, Nat.reduceSub, Nat.reduceLT, Nat.reduceLeDiff, Nat.reduceBEq, Nat.reduceLeDiff, reduceCtorEq, Int.reduceLT, Int.reduceEq, Int.reduceLE, Int.reduceAdd, Int.reduceSub, Int.reduceToNat, Int.reduceNeg, Int.toNat_natCast, beq_self_eq_true, wrap64, undef, Nat.zero_add, Nat.add_zero, Int.zero_add, Int.add_zero, Int.sub_zero, St.loadN_other, St.cell_other, h8, h11, h12, h14, h15, h16, h17, h18]
              refine ⟨k - (i + 1), by omega, i + 1, rfl, by omega, rfl, ⟨Nat.le_trans he'.n (by rw [St.put_n]; omega), fun k hk => ?_⟩, .inr ⟨b, _, _, rfl, hB, St.put_same _ _ _, ?_, hcap⟩⟩
              · rw [St.put_other _ _ _ (by omega)]
                exact he'.obj k hk
              · simp
                omega
            · simp (disch := omega) only [go_sem, ↓reduceIte, Nat.reduceEqDiff, Nat.reduceAdd, Nat.reduceMul, Nat.reduceSub, Nat.reduceLT, Nat.reduceLeDiff, Nat.reduceBEq, Nat.reduceLeDiff, reduceCtorEq, Int.reduceLT, Int.reduceEq, Int.reduceLE, Int.reduceAdd, Int.reduceSub, Int.reduceToNat, Int.reduceNeg, Int.toNat_natCast, beq_self_eq_true, wrap64, undef, Nat.zero_add, Nat.add_zero, Int.zero_add, Int.add_zero, Int.sub_zero, St.loadN_other, St.cell_other, h8, h11, h12, h14, h15, h16, h17, h18]
              exact he'
          rintro fr S' ⟨h8, h11, h14, h15, h16, h17, heE⟩
          simp (disch := omega) only [go_sem, ↓reduceIte, Nat.reduceEqDiff, Nat.reduceAdd, Nat.reduceMul, Nat.reduceSub, Nat.reduceLT, Nat.reduceLeDiff, Nat.reduceBEq, Nat.reduceLeDiff, reduceCtorEq, Int.reduceLT, Int.reduceEq, Int.reduceLE, Int.reduceAdd, Int.reduceSub, Int.reduceToNat, Int.reduceNeg, Int.toNat_natCast, beq_self_eq_true, wrap64, undef, Nat.zero_add, Nat.add_zero, Int.zero_add, Int.add_zero, Int.sub_zero, St.loadN_other, St.cell_other, h8, h11, h14, h15, h16, h17]
          refine wJ_of (F.osierref04_Same_J (hsv.ext dotE heE) (hso.ext dotE heE) (by omega)) ?_; rintro _ _ ⟨rfl, rfl⟩
          simp (disch := omega) only [go_sem, ↓reduceIte, Nat.reduceEqDiff, Nat.reduceAdd, Nat.reduceMul, Nat.reduceSub, Nat.reduceLT, Nat.reduceLeDiff, Nat.reduceBEq, Nat.reduceLeDiff, reduceCtorEq, Int.reduceLT, Int.reduceEq, Int.reduceLE, Int.reduceAdd, Int.reduceSub, Int.reduceToNat, Int.reduceNeg, Int.toNat_natCast, beq_self_eq_true, wrap64, undef, Nat.zero_add, Nat.add_zero, Int.zero_add, Int.add_zero, Int.sub_zero, St.loadN_other, St.cell_other]
        · simp (disch := omega) only [go_sem, ↓reduceIte, Nat.reduceEqDiff, Nat.reduceAdd, Nat.reduceMul, Nat.reduceSub, Nat.reduceLT, Nat.reduceLeDiff, Nat.reduceBEq, Nat.reduceLeDiff, reduceCtorEq, Int.reduceLT, Int.reduceEq, Int.reduceLE, Int.reduceAdd, Int.reduceSub, Int.reduceToNat, Int.reduceNeg, Int.toNat_natCast, beq_self_eq_true, wrap64, undef, Nat.zero_add, Nat.add_zero, Int.zero_add, Int.add_zero, Int.sub_zero, St.loadN_other, St.cell_other, c4]
          have j3 := jl (joinV V W) X
          have j4 := jl W X
          have j5 := jl V (joinV W X)
          have j6 := jl V V
          have j7 := jl V (meetV V W)
          refine wJ_of (F.vector_Join_J j8' x8' hj hx (by omega) (by omega)) ?_; rintro v9 S9 ⟨ho9, he9⟩
          simp (disch := omega) only [go_sem, ↓reduceIte, Nat.reduceEqDiff, Nat.reduceAdd, Nat.reduceMul, Nat.reduceSub, Nat.reduceLT, Nat.reduceLeDiff, Nat.reduceBEq, Nat.reduceLeDiff, reduceCtorEq, Int.reduceLT, Int.reduceEq, Int.reduceLE, Int.reduceAdd, Int.reduceSub, Int.reduceToNat, Int.reduceNeg, Int.toNat_natCast, beq_self_eq_true, wrap64, undef, Nat.zero_add, Nat.add_zero, Int.zero_add, Int.add_zero, Int.sub_zero, St.loadN_other, St.cell_other]
          refine wJ_of (F.vector_Join_J (w8'.ext dotE he9) (x8'.ext dotE he9) hw hx (by omega) (by omega)) ?_; rintro vA SA ⟨hoA, heA⟩
          simp (disch := omega) only [go_sem, ↓reduceIte, Nat.reduceEqDiff, Nat.reduceAdd, Nat.reduceMul, Nat.reduceSub, Nat.reduceLT, Nat.reduceLeDiff, Nat.reduceBEq, Nat.reduceLeDiff, reduceCtorEq, Int.reduceLT, Int.reduceEq, Int.reduceLE, Int.reduceAdd, Int.reduceSub, Int.reduceToNat, Int.reduceNeg, Int.toNat_natCast, beq_self_eq_true, wrap64, undef, Nat.zero_add, Nat.add_zero, Int.zero_add, Int.add_zero, Int.sub_zero, St.loadN_other, St.cell_other]
          have e9A := he9.trans heA
          refine wJ_of (F.vector_Join_J (v8'.ext dotE e9A) (hoA.sl dotE) hv (joinV_is hw hx) (by omega) (by omega)) ?_; rintro vB SB ⟨hoB, heB⟩
          simp (disch := omega) only [go_sem, ↓reduceIte, Nat.reduceEqDiff, Nat.reduceAdd, Nat.reduceMul, Nat.reduceSub, Nat.reduceLT, Nat.reduceLeDiff, Nat.reduceBEq, Nat.reduceLeDiff, reduceCtorEq, Int.reduceLT, Int.reduceEq, Int.reduceLE, Int.reduceAdd, Int.reduceSub, Int.reduceToNat, Int.reduceNeg, Int.toNat_natCast, beq_self_eq_true, wrap64, undef, Nat.zero_add, Nat.add_zero, Int.zero_add, Int.add_zero, Int.sub_zero, St.loadN_other, St.cell_other]
          refine wJ_of (F.vector_Same_J ((ho9.sl dotE).ext dotE (heA.trans heB)) (hoB.sl dotE) (by omega)) ?_; rintro _ _ ⟨rfl, rfl⟩
          have e9B := e9A.trans heB
          simp (disch := omega) only [go_sem, ↓reduceIte, Nat.reduceEqDiff, Nat.reduceAdd, Nat.reduceMul, Nat.reduceSub, Nat.reduceLT, Nat.reduceLeDiff, Nat.reduceBEq, Nat.reduceLeDiff, reduceCtorEq, Int.reduceLT, Int.reduceEq, Int.reduceLE, Int.reduceAdd, Int.reduceSub, Int.reduceToNat, Int.reduceNeg, Int.toNat_natCast, beq_self_eq_true, wrap64, undef, Nat.zero_add, Nat.add_zero, Int.zero_add, Int.add_zero, Int.sub_zero, St.loadN_other, St.cell_other, decide_eq_true q3]
          refine wJ_of (F.vector_Join_J (v8'.ext dotE e9B) (v8'.ext dotE e9B) hv hv (by omega) (by omega)) ?_; rintro vC SC ⟨hoC, heC⟩
          have e9C := e9B.trans heC
          simp (disch := omega) only [go_sem, ↓reduceIte, Nat.reduceEqDiff, Nat.reduceAdd, Nat.reduceMul, Nat.reduceSub, Nat.reduceLT, Nat.reduceLeDiff, Nat.reduceBEq, Nat.reduceLeDiff, reduceCtorEq, Int.reduceLT, Int.reduceEq, Int.reduceLE, Int.reduceAdd, Int.reduceSub, Int.reduceToNat, Int.reduceNeg, Int.toNat_natCast, beq_self_eq_true, wrap64, undef, Nat.zero_add, Nat.add_zero, Int.zero_add, Int.add_zero, Int.sub_zero, St.loadN_other, St.cell_other]
          refine wJ_of (F.vector_Same_J (hoC.sl dotE) (v8'.ext dotE e9C) (by omega)) ?_; rintro _ _ ⟨rfl, rfl⟩
          simp (disch := omega) only [go_sem, ↓reduceIte, Nat.reduceEqDiff, Nat.reduceAdd, Nat.reduceMul, Nat.reduceSub, Nat.reduceLT, Nat.reduceLeDiff, Nat.reduceBEq, Nat.reduceLeDiff, reduceCtorEq, Int.reduceLT, Int.reduceEq, Int.reduceLE, Int.reduceAdd, Int.reduceSub, Int.reduceToNat, Int.reduceNeg, Int.toNat_natCast, beq_self_eq_true, wrap64, undef, Nat.zero_add, Nat.add_zero, Int.zero_add, Int.add_zero, Int.sub_zero, St.loadN_other, St.cell_other, decide_eq_true q4]
          refine wJ_of (F.vector_Join_J (v8'.ext dotE e9C) (m8'.ext dotE e9C) hv hm (by omega) (by omega)) ?_; rintro vD SD ⟨hoD, heD⟩
          have e9D := e9C.trans heD
          simp (disch := omega) only [go_sem, ↓reduceIte, Nat.reduceEqDiff, Nat.reduceAdd, Nat.reduceMul, Nat.reduceSub, Nat.reduceLT, Nat.reduceLeDiff, Nat.reduceBEq, Nat.reduceLeDiff, reduceCtorEq, Int.reduceLT, Int.reduceEq, Int.reduceLE, Int.reduceAdd, Int.reduceSub, Int.reduceToNat, Int.reduceNeg, Int.toNat_natCast, beq_self_eq_true, wrap64, undef, Nat.zero_add, Nat.add_zero, Int.zero_add, Int.add_zero, Int.sub_zero, St.loadN_other, St.cell_other]
          refine wJ_of (F.vector_Same_J (hoD.sl dotE) (v8'.ext dotE e9D) (by omega)) ?_; rintro _ _ ⟨rfl, rfl⟩
          have e4D := e8.trans e9D
          have hwj := ((hoj.ext dotE he6).ext dotE (e68.trans e9D)).wr
          obtain ⟨bj, cj, rfl⟩ := (hoj.sl dotE).len dotE
          have hkj : (joinV V W).length ≤ 200 := by omega
          simp (disch := omega) only [go_sem, ↓reduceIte, Nat.reduceEqDiff, Nat.reduceAdd, Nat.reduceMul, Nat.reduceSub, Nat.reduceLT, Nat.reduceLeDiff, Nat.reduceBEq, Nat.reduceLeDiff, reduceCtorEq, Int.reduceLT, Int.reduceEq, Int.reduceLE, Int.reduceAdd, Int.reduceSub, Int.reduceToNat, Int.reduceNeg, Int.toNat_natCast, beq_self_eq_true, wrap64, undef, Nat.zero_add, Nat.add_zero, Int.zero_add, Int.add_zero, Int.sub_zero, St.loadN_other, St.cell_other, decide_eq_true q5]
          clear hoj hsj j8' q1 q3 gj b1 b2 b5 j1 j3 hj
          generalize (joinV V W).length = k at *
          refine wC_at 0 (fun fr S' => fr 8 = vv ∧ fr 11 = vo ∧ fr 14 = .bool true ∧ fr 15 = .bool true ∧ fr 16 = .bool true ∧ fr 17 = .bool true ∧ S4.Ext S') ?_ ?_
          · refine wC_loop (fun n fr S' => ∃ i, n = k - i ∧ i ≤ k ∧ fr 8 = vv ∧ fr 11 = vo ∧ fr 12 = .slice bj k cj ∧ fr 14 = .bool true ∧ fr 15 = .bool true ∧ fr 16 = .bool true ∧ fr 17 = .bool true ∧ fr 18 = .int .i64 (i : Nat) ∧ S4.Ext S' ∧ WrT S4.n S' (.slice bj k cj) k) k
              ⟨0, by simp (disch := omega) only [go_sem, ↓reduceIte, Nat.reduceEqDiff, Nat.reduceAdd, Nat.reduceMul, Nat.reduceSub, Nat.reduceLT, Nat.reduceLeDiff, Nat.reduceBEq, Nat.reduceLeDiff, reduceCtorEq, Int.reduceLT, Int.reduceEq, Int.reduceLE, Int.reduceAdd, Int.reduceSub, Int.reduceToNat, Int.reduceNeg, Int.toNat_natCast, beq_self_eq_true, wrap64, undef, Nat.zero_add, Nat.add_zero, Int.zero_add, Int.add_zero, Int.sub_zero, St.loadN_other, St.cell_other]; exact ⟨by simp, by simp, e4D, hwj⟩⟩ ?_
            rintro n fr S' ⟨i, rfl, hi, h8, h11, h12, h14, h15, h16, h17, h18, he', hw'⟩
            simp (disch := omega) only [go_sem, ↓reduceIte, Nat.reduceEqDiff, Nat.reduceAdd, Nat.reduceMul, Nat.reduceSub, Nat.reduceLT, Nat.reduceLeDiff, Nat.reduceBEq, Nat.reduceLeDiff, reduceCtorEq, Int.reduceLT, Int.reduceEq, Int.reduceLE, Int.reduceAdd, Int.reduceSub, Int.reduceToNat, Int.reduceNeg, Int.toNat_natCast, beq_self_eq_true, wrap64, undef, Nat.zero_add, Nat.add_zero, Int.zero_add, Int.add_zero, Int.sub_zero, St.loadN_other, St.cell_other, F.osierlaw04_VectorLaws.l0, h8, h11, h12, h14, h15, h16, h17, h18]
            refine wcond_dec (fun hlt => ?_) (fun hge => ?_)
            · have hc : (0 : Int) ≤ (i : Int) ∧ (i : Int) < ((k : Nat) : Int) := by omega
              rcases hw' with h | ⟨b, c, cs, hv, hB, hob, hlen, hcap⟩
              · omega
              injection hv with hv1 hv2 hv3
              subst hv1 hv3
              simp (disch := omega) only [go_sem, ↓reduceIte, Nat.reduceEqDiff, Nat.reduceAdd, Nat.reduceMul, Nat.reduceSub, Nat.reduceLT, Nat.reduceLeDiff, Nat.reduceBEq, Nat.reduceLeDiff, reduceCtorEq, Int.reduceLT, Int.reduceEq, Int.reduceLE, Int.reduceAdd, Int.reduceSub, Int.reduceToNat, Int.reduceNeg, Int.toNat_natCast, beq_self_eq_true, wrap64, undef, Nat.zero_add, Nat.add_zero, Int.zero_add, Int.add_zero, Int.sub_zero, St.loadN_other, St.cell_other, h12, h18, hc]
              refine wst_of hob rfl rfl (by omega) (by omega) ?_
              simp (disch := omega) only [go_sem, ↓reduceIte, Nat.reduceEqDiff, Nat.reduceAdd, Nat.reduceMul, Nat.reduceSub, Nat.reduceLT, Nat.reduceLeDiff, Nat.reduceBEq, Nat.reduceLeDiff, reduceCtorEq, Int.reduceLT, Int.reduceEq, Int.reduceLE, Int.reduceAdd, Int.reduceSub, Int.reduceToNat, Int.reduceNeg, Int.toNat_natCast, beq_self_eq_true, wrap64, undef, Nat.zero_add, Nat.add_zero, Int.zero_add, Int.add_zero, Int.sub_zero, St.loadN_other, St.cell_other, h8, h11, h12, h14, h15, h16, h17, h18]
              refine ⟨k - (i + 1), by omega, i + 1, rfl, by omega, rfl, ⟨Nat.le_trans he'.n (by rw [St.put_n]; omega), fun k hk => ?_⟩, .inr ⟨b, _, _, rfl, hB, St.put_same _ _ _, ?_, hcap⟩⟩
              · rw [St.put_other _ _ _ (by omega)]
                exact he'.obj k hk
              · simp
                omega
            · simp (disch := omega) only [go_sem, ↓reduceIte, Nat.reduceEqDiff, Nat.reduceAdd, Nat.reduceMul, Nat.reduceSub, Nat.reduceLT, Nat.reduceLeDiff, Nat.reduceBEq, Nat.reduceLeDiff, reduceCtorEq, Int.reduceLT, Int.reduceEq, Int.reduceLE, Int.reduceAdd, Int.reduceSub, Int.reduceToNat, Int.reduceNeg, Int.toNat_natCast, beq_self_eq_true, wrap64, undef, Nat.zero_add, Nat.add_zero, Int.zero_add, Int.add_zero, Int.sub_zero, St.loadN_other, St.cell_other, h8, h11, h12, h14, h15, h16, h17, h18]
              exact he'
          rintro fr S' ⟨h8, h11, h14, h15, h16, h17, heE⟩
          simp (disch := omega) only [go_sem, ↓reduceIte, Nat.reduceEqDiff, Nat.reduceAdd, Nat.reduceMul, Nat.reduceSub, Nat.reduceLT, Nat.reduceLeDiff, Nat.reduceBEq, Nat.reduceLeDiff, reduceCtorEq, Int.reduceLT, Int.reduceEq, Int.reduceLE, Int.reduceAdd, Int.reduceSub, Int.reduceToNat, Int.reduceNeg, Int.toNat_natCast, beq_self_eq_true, wrap64, undef, Nat.zero_add, Nat.add_zero, Int.zero_add, Int.add_zero, Int.sub_zero, St.loadN_other, St.cell_other, h8, h11, h14, h15, h16, h17]
          refine wJ_of (F.osierref04_Same_J (hsv.ext dotE heE) (hso.ext dotE heE) (by omega)) ?_; rintro _ _ ⟨rfl, rfl⟩
          simp (disch := omega) only [go_sem, ↓reduceIte, Nat.reduceEqDiff, Nat.reduceAdd, Nat.reduceMul, Nat.reduceSub, Nat.reduceLT, Nat.reduceLeDiff, Nat.reduceBEq, Nat.reduceLeDiff, reduceCtorEq, Int.reduceLT, Int.reduceEq, Int.reduceLE, Int.reduceAdd, Int.reduceSub, Int.reduceToNat, Int.reduceNeg, Int.toNat_natCast, beq_self_eq_true, wrap64, undef, Nat.zero_add, Nat.add_zero, Int.zero_add, Int.add_zero, Int.sub_zero, St.loadN_other, St.cell_other]
      · simp (disch := omega) only [go_sem, ↓reduceIte, Nat.reduceEqDiff, Nat.reduceAdd, Nat.reduceMul, Nat.reduceSub, Nat.reduceLT, Nat.reduceLeDiff, Nat.reduceBEq, Nat.reduceLeDiff, reduceCtorEq, Int.reduceLT, Int.reduceEq, Int.reduceLE, Int.reduceAdd, Int.reduceSub, Int.reduceToNat, Int.reduceNeg, Int.toNat_natCast, beq_self_eq_true, wrap64, undef, Nat.zero_add, Nat.add_zero, Int.zero_add, Int.add_zero, Int.sub_zero, St.loadN_other, St.cell_other, c3]
        have j3 := jl (joinV V W) X
        have j4 := jl W X
        have j5 := jl V (joinV W X)
        have j6 := jl V V
        have j7 := jl V (meetV V W)
        refine wJ_of (F.vector_Join_J j8' x8' hj hx (by omega) (by omega)) ?_; rintro v9 S9 ⟨ho9, he9⟩
        simp (disch := omega) only [go_sem, ↓reduceIte, Nat.reduceEqDiff, Nat.reduceAdd, Nat.reduceMul, Nat.reduceSub, Nat.reduceLT, Nat.reduceLeDiff, Nat.reduceBEq, Nat.reduceLeDiff, reduceCtorEq, Int.reduceLT, Int.reduceEq, Int.reduceLE, Int.reduceAdd, Int.reduceSub, Int.reduceToNat, Int.reduceNeg, Int.toNat_natCast, beq_self_eq_true, wrap64, undef, Nat.zero_add, Nat.add_zero, Int.zero_add, Int.add_zero, Int.sub_zero, St.loadN_other, St.cell_other]
        refine wJ_of (F.vector_Join_J (w8'.ext dotE he9) (x8'.ext dotE he9) hw hx (by omega) (by omega)) ?_; rintro vA SA ⟨hoA, heA⟩
        simp (disch := omega) only [go_sem, ↓reduceIte, Nat.reduceEqDiff, Nat.reduceAdd, Nat.reduceMul, Nat.reduceSub, Nat.reduceLT, Nat.reduceLeDiff, Nat.reduceBEq, Nat.reduceLeDiff, reduceCtorEq, Int.reduceLT, Int.reduceEq, Int.reduceLE, Int.reduceAdd, Int.reduceSub, Int.reduceToNat, Int.reduceNeg, Int.toNat_natCast, beq_self_eq_true, wrap64, undef, Nat.zero_add, Nat.add_zero, Int.zero_add, Int.add_zero, Int.sub_zero, St.loadN_other, St.cell_other]
        have e9A := he9.trans heA
        refine wJ_of (F.vector_Join_J (v8'.ext dotE e9A) (hoA.sl dotE) hv (joinV_is hw hx) (by omega) (by omega)) ?_; rintro vB SB ⟨hoB, heB⟩
        simp (disch := omega) only [go_sem, ↓reduceIte, Nat.reduceEqDiff, Nat.reduceAdd, Nat.reduceMul, Nat.reduceSub, Nat.reduceLT, Nat.reduceLeDiff, Nat.reduceBEq, Nat.reduceLeDiff, reduceCtorEq, Int.reduceLT, Int.reduceEq, Int.reduceLE, Int.reduceAdd, Int.reduceSub, Int.reduceToNat, Int.reduceNeg, Int.toNat_natCast, beq_self_eq_true, wrap64, undef, Nat.zero_add, Nat.add_zero, Int.zero_add, Int.add_zero, Int.sub_zero, St.loadN_other, St.cell_other]
        refine wJ_of (F.vector_Same_J ((ho9.sl dotE).ext dotE (heA.trans heB)) (hoB.sl dotE) (by omega)) ?_; rintro _ _ ⟨rfl, rfl⟩
        have e9B := e9A.trans heB
        simp (disch := omega) only [go_sem, ↓reduceIte, Nat.reduceEqDiff, Nat.reduceAdd, Nat.reduceMul, Nat.reduceSub, Nat.reduceLT, Nat.reduceLeDiff, Nat.reduceBEq, Nat.reduceLeDiff, reduceCtorEq, Int.reduceLT, Int.reduceEq, Int.reduceLE, Int.reduceAdd, Int.reduceSub, Int.reduceToNat, Int.reduceNeg, Int.toNat_natCast, beq_self_eq_true, wrap64, undef, Nat.zero_add, Nat.add_zero, Int.zero_add, Int.add_zero, Int.sub_zero, St.loadN_other, St.cell_other, decide_eq_true q3]
        refine wJ_of (F.vector_Join_J (v8'.ext dotE e9B) (v8'.ext dotE e9B) hv hv (by omega) (by omega)) ?_; rintro vC SC ⟨hoC, heC⟩
        have e9C := e9B.trans heC
        simp (disch := omega) only [go_sem, ↓reduceIte, Nat.reduceEqDiff, Nat.reduceAdd, Nat.reduceMul, Nat.reduceSub, Nat.reduceLT, Nat.reduceLeDiff, Nat.reduceBEq, Nat.reduceLeDiff, reduceCtorEq, Int.reduceLT, Int.reduceEq, Int.reduceLE, Int.reduceAdd, Int.reduceSub, Int.reduceToNat, Int.reduceNeg, Int.toNat_natCast, beq_self_eq_true, wrap64, undef, Nat.zero_add, Nat.add_zero, Int.zero_add, Int.add_zero, Int.sub_zero, St.loadN_other, St.cell_other]
        refine wJ_of (F.vector_Same_J (hoC.sl dotE) (v8'.ext dotE e9C) (by omega)) ?_; rintro _ _ ⟨rfl, rfl⟩
        simp (disch := omega) only [go_sem, ↓reduceIte, Nat.reduceEqDiff, Nat.reduceAdd, Nat.reduceMul, Nat.reduceSub, Nat.reduceLT, Nat.reduceLeDiff, Nat.reduceBEq, Nat.reduceLeDiff, reduceCtorEq, Int.reduceLT, Int.reduceEq, Int.reduceLE, Int.reduceAdd, Int.reduceSub, Int.reduceToNat, Int.reduceNeg, Int.toNat_natCast, beq_self_eq_true, wrap64, undef, Nat.zero_add, Nat.add_zero, Int.zero_add, Int.add_zero, Int.sub_zero, St.loadN_other, St.cell_other, decide_eq_true q4]
        refine wJ_of (F.vector_Join_J (v8'.ext dotE e9C) (m8'.ext dotE e9C) hv hm (by omega) (by omega)) ?_; rintro vD SD ⟨hoD, heD⟩
        have e9D := e9C.trans heD
        simp (disch := omega) only [go_sem, ↓reduceIte, Nat.reduceEqDiff, Nat.reduceAdd, Nat.reduceMul, Nat.reduceSub, Nat.reduceLT, Nat.reduceLeDiff, Nat.reduceBEq, Nat.reduceLeDiff, reduceCtorEq, Int.reduceLT, Int.reduceEq, Int.reduceLE, Int.reduceAdd, Int.reduceSub, Int.reduceToNat, Int.reduceNeg, Int.toNat_natCast, beq_self_eq_true, wrap64, undef, Nat.zero_add, Nat.add_zero, Int.zero_add, Int.add_zero, Int.sub_zero, St.loadN_other, St.cell_other]
        refine wJ_of (F.vector_Same_J (hoD.sl dotE) (v8'.ext dotE e9D) (by omega)) ?_; rintro _ _ ⟨rfl, rfl⟩
        have e4D := e8.trans e9D
        have hwj := ((hoj.ext dotE he6).ext dotE (e68.trans e9D)).wr
        obtain ⟨bj, cj, rfl⟩ := (hoj.sl dotE).len dotE
        have hkj : (joinV V W).length ≤ 200 := by omega
        simp (disch := omega) only [go_sem, ↓reduceIte, Nat.reduceEqDiff, Nat.reduceAdd, Nat.reduceMul, Nat.reduceSub, Nat.reduceLT, Nat.reduceLeDiff, Nat.reduceBEq, Nat.reduceLeDiff, reduceCtorEq, Int.reduceLT, Int.reduceEq, Int.reduceLE, Int.reduceAdd, Int.reduceSub, Int.reduceToNat, Int.reduceNeg, Int.toNat_natCast, beq_self_eq_true, wrap64, undef, Nat.zero_add, Nat.add_zero, Int.zero_add, Int.add_zero, Int.sub_zero, St.loadN_other, St.cell_other, decide_eq_true q5]
        clear hoj hsj j8' q1 q3 gj b1 b2 b5 j1 j3 hj
        generalize (joinV V W).length = k at *
        refine wC_at 0 (fun fr S' => fr 8 = vv ∧ fr 11 = vo ∧ fr 14 = .bool true ∧ fr 15 = .bool true ∧ fr 16 = .bool true ∧ fr 17 = .bool true ∧ S4.Ext S') ?_ ?_
        · refine wC_loop (fun n fr S' => ∃ i, n = k - i ∧ i ≤ k ∧ fr 8 = vv ∧ fr 11 = vo ∧ fr 12 = .slice bj k cj ∧ fr 14 = .bool true ∧ fr 15 = .bool true ∧ fr 16 = .bool true ∧ fr 17 = .bool true ∧ fr 18 = .int .i64 (i : Nat) ∧ S4.Ext S' ∧ WrT S4.n S' (.slice bj k cj) k) k
            ⟨0, by simp (disch := omega) only [go_sem, ↓reduceIte, Nat.reduceEqDiff, Nat.reduceAdd, Nat.reduceMul, Nat.reduceSub, Nat.reduceLT, Nat.reduceLeDiff, Nat.reduceBEq, Nat.reduceLeDiff, reduceCtorEq, Int.reduceLT, Int.reduceEq, Int.reduceLE, Int.reduceAdd, Int.reduceSub, Int.reduceToNat, Int.reduceNeg, Int.toNat_natCast, beq_self_eq_true, wrap64, undef, Nat.zero_add, Nat.add_zero, Int.zero_add, Int.add_zero, Int.sub_zero, St.loadN_other, St.cell_other]; exact ⟨by simp, by simp, e4D, hwj⟩⟩ ?_
          rintro n fr S' ⟨i, rfl, hi, h8, h11, h12, h14, h15, h16, h17, h18, he', hw'⟩
          simp (disch := omega) only [go_sem, ↓reduceIte, Nat.reduceEqDiff, Nat.reduceAdd, Nat.reduceMul, Nat.reduceSub, Nat.reduceLT, Nat.reduceLeDiff, Nat.reduceBEq, Nat.reduceLeDiff, reduceCtorEq, Int.reduceLT, Int.reduceEq, Int.reduceLE, Int.reduceAdd, Int.reduceSub, Int.reduceToNat, Int.reduceNeg, Int.toNat_natCast, beq_self_eq_true, wrap64, undef, Nat.zero_add, Nat.add_zero, Int.zero_add, Int.add_zero, Int.sub_zero, St.loadN_other, St.cell_other, F.osierlaw04_VectorLaws.l0, h8, h11, h12, h14, h15, h16, h17, h18]
          refine wcond_dec (fun hlt => ?_) (fun hge => ?_)
          · have hc : (0 : Int) ≤ (i : Int) ∧ (i : Int) < ((k : Nat) : Int) := by omega
            rcases hw' with h | ⟨b, c, cs, hv, hB, hob, hlen, hcap⟩
            · omega
            injection hv with hv1 hv2 hv3
            subst hv1 hv3
            simp (disch := omega) only [go_sem, ↓reduceIte, Nat.reduceEqDiff, Nat.reduceAdd, Nat.reduceMul, Nat.reduceSub, Nat.reduceLT, Nat.reduceLeDiff, Nat.reduceBEq, Nat.reduceLeDiff, reduceCtorEq, Int.reduceLT, Int.reduceEq, Int.reduceLE, Int.reduceAdd, Int.reduceSub, Int.reduceToNat, Int.reduceNeg, Int.toNat_natCast, beq_self_eq_true, wrap64, undef, Nat.zero_add, Nat.add_zero, Int.zero_add, Int.add_zero, Int.sub_zero, St.loadN_other, St.cell_other, h12, h18, hc]
            refine wst_of hob rfl rfl (by omega) (by omega) ?_
            simp (disch := omega) only [go_sem, ↓reduceIte, Nat.reduceEqDiff, Nat.reduceAdd, Nat.reduceMul, Nat.reduceSub, Nat.reduceLT, Nat.reduceLeDiff, Nat.reduceBEq, Nat.reduceLeDiff, reduceCtorEq, Int.reduceLT, Int.reduceEq, Int.reduceLE, Int.reduceAdd, Int.reduceSub, Int.reduceToNat, Int.reduceNeg, Int.toNat_natCast, beq_self_eq_true, wrap64, undef, Nat.zero_add, Nat.add_zero, Int.zero_add, Int.add_zero, Int.sub_zero, St.loadN_other, St.cell_other, h8, h11, h12, h14, h15, h16, h17, h18]
            refine ⟨k - (i + 1), by omega, i + 1, rfl, by omega, rfl, ⟨Nat.le_trans he'.n (by rw [St.put_n]; omega), fun k hk => ?_⟩, .inr ⟨b, _, _, rfl, hB, St.put_same _ _ _, ?_, hcap⟩⟩
            · rw [St.put_other _ _ _ (by omega)]
              exact he'.obj k hk
            · simp
              omega
          · simp (disch := omega) only [go_sem, ↓reduceIte, Nat.reduceEqDiff, Nat.reduceAdd, Nat.reduceMul, Nat.reduceSub, Nat.reduceLT, Nat.reduceLeDiff, Nat.reduceBEq, Nat.reduceLeDiff, reduceCtorEq, Int.reduceLT, Int.reduceEq, Int.reduceLE, Int.reduceAdd, Int.reduceSub, Int.reduceToNat, Int.reduceNeg, Int.toNat_natCast, beq_self_eq_true, wrap64, undef, Nat.zero_add, Nat.add_zero, Int.zero_add, Int.add_zero, Int.sub_zero, St.loadN_other, St.cell_other, h8, h11, h12, h14, h15, h16, h17, h18]
            exact he'
        rintro fr S' ⟨h8, h11, h14, h15, h16, h17, heE⟩
        simp (disch := omega) only [go_sem, ↓reduceIte, Nat.reduceEqDiff, Nat.reduceAdd, Nat.reduceMul, Nat.reduceSub, Nat.reduceLT, Nat.reduceLeDiff, Nat.reduceBEq, Nat.reduceLeDiff, reduceCtorEq, Int.reduceLT, Int.reduceEq, Int.reduceLE, Int.reduceAdd, Int.reduceSub, Int.reduceToNat, Int.reduceNeg, Int.toNat_natCast, beq_self_eq_true, wrap64, undef, Nat.zero_add, Nat.add_zero, Int.zero_add, Int.add_zero, Int.sub_zero, St.loadN_other, St.cell_other, h8, h11, h14, h15, h16, h17]
        refine wJ_of (F.osierref04_Same_J (hsv.ext dotE heE) (hso.ext dotE heE) (by omega)) ?_; rintro _ _ ⟨rfl, rfl⟩
        simp (disch := omega) only [go_sem, ↓reduceIte, Nat.reduceEqDiff, Nat.reduceAdd, Nat.reduceMul, Nat.reduceSub, Nat.reduceLT, Nat.reduceLeDiff, Nat.reduceBEq, Nat.reduceLeDiff, reduceCtorEq, Int.reduceLT, Int.reduceEq, Int.reduceLE, Int.reduceAdd, Int.reduceSub, Int.reduceToNat, Int.reduceNeg, Int.toNat_natCast, beq_self_eq_true, wrap64, undef, Nat.zero_add, Nat.add_zero, Int.zero_add, Int.add_zero, Int.sub_zero, St.loadN_other, St.cell_other]
  · simp (disch := omega) only [go_sem, ↓reduceIte, Nat.reduceEqDiff, Nat.reduceAdd, Nat.reduceMul, Nat.reduceSub, Nat.reduceLT, Nat.reduceLeDiff, Nat.reduceBEq, Nat.reduceLeDiff, reduceCtorEq, Int.reduceLT, Int.reduceEq, Int.reduceLE, Int.reduceAdd, Int.reduceSub, Int.reduceToNat, Int.reduceNeg, Int.toNat_natCast, beq_self_eq_true, wrap64, undef, Nat.zero_add, Nat.add_zero, Int.zero_add, Int.add_zero, Int.sub_zero, St.loadN_other, St.cell_other, c1]
    refine wJ_of (F.vector_Below_J x8' v8' (by omega) (by omega)) ?_; rintro _ _ ⟨rfl, rfl⟩
    by_cases c3 : belowP X V
    · simp (disch := omega) only [go_sem, ↓reduceIte, Nat.reduceEqDiff, Nat.reduceAdd, Nat.reduceMul, Nat.reduceSub, Nat.reduceLT, Nat.reduceLeDiff, Nat.reduceBEq, Nat.reduceLeDiff, reduceCtorEq, Int.reduceLT, Int.reduceEq, Int.reduceLE, Int.reduceAdd, Int.reduceSub, Int.reduceToNat, Int.reduceNeg, Int.toNat_natCast, beq_self_eq_true, wrap64, undef, Nat.zero_add, Nat.add_zero, Int.zero_add, Int.add_zero, Int.sub_zero, St.loadN_other, St.cell_other, c3]
      refine wJ_of (F.vector_Below_J x8' w8' (by omega) (by omega)) ?_; rintro _ _ ⟨rfl, rfl⟩
      by_cases c4 : belowP X W
      · simp (disch := omega) only [go_sem, ↓reduceIte, Nat.reduceEqDiff, Nat.reduceAdd, Nat.reduceMul, Nat.reduceSub, Nat.reduceLT, Nat.reduceLeDiff, Nat.reduceBEq, Nat.reduceLeDiff, reduceCtorEq, Int.reduceLT, Int.reduceEq, Int.reduceLE, Int.reduceAdd, Int.reduceSub, Int.reduceToNat, Int.reduceNeg, Int.toNat_natCast, beq_self_eq_true, wrap64, undef, Nat.zero_add, Nat.add_zero, Int.zero_add, Int.add_zero, Int.sub_zero, St.loadN_other, St.cell_other, c4]
        refine wJ_of (F.vector_Below_J x8' m8' (by omega) (by omega)) ?_; rintro _ _ ⟨rfl, rfl⟩
        simp (disch := omega) only [go_sem, ↓reduceIte, Nat.reduceEqDiff, Nat.reduceAdd, Nat.reduceMul, Nat.reduceSub, Nat.reduceLT, Nat.reduceLeDiff, Nat.reduceBEq, Nat.reduceLeDiff, reduceCtorEq, Int.reduceLT, Int.reduceEq, Int.reduceLE, Int.reduceAdd, Int.reduceSub, Int.reduceToNat, Int.reduceNeg, Int.toNat_natCast, beq_self_eq_true, wrap64, undef, Nat.zero_add, Nat.add_zero, Int.zero_add, Int.add_zero, Int.sub_zero, St.loadN_other, St.cell_other, b6 c3 c4]
        have j3 := jl (joinV V W) X
        have j4 := jl W X
        have j5 := jl V (joinV W X)
        have j6 := jl V V
        have j7 := jl V (meetV V W)
        refine wJ_of (F.vector_Join_J j8' x8' hj hx (by omega) (by omega)) ?_; rintro v9 S9 ⟨ho9, he9⟩
        simp (disch := omega) only [go_sem, ↓reduceIte, Nat.reduceEqDiff, Nat.reduceAdd, Nat.reduceMul, Nat.reduceSub, Nat.reduceLT, Nat.reduceLeDiff, Nat.reduceBEq, Nat.reduceLeDiff, reduceCtorEq, Int.reduceLT, Int.reduceEq, Int.reduceLE, Int.reduceAdd, Int.reduceSub, Int.reduceToNat, Int.reduceNeg, Int.toNat_natCast, beq_self_eq_true, wrap64, undef, Nat.zero_add, Nat.add_zero, Int.zero_add, Int.add_zero, Int.sub_zero, St.loadN_other, St.cell_other]
        refine wJ_of (F.vector_Join_J (w8'.ext dotE he9) (x8'.ext dotE he9) hw hx (by omega) (by omega)) ?_; rintro vA SA ⟨hoA, heA⟩
        simp (disch := omega) only [go_sem, ↓reduceIte, Nat.reduceEqDiff, Nat.reduceAdd, Nat.reduceMul, Nat.reduceSub, Nat.reduceLT, Nat.reduceLeDiff, Nat.reduceBEq, Nat.reduceLeDiff, reduceCtorEq, Int.reduceLT, Int.reduceEq, Int.reduceLE, Int.reduceAdd, Int.reduceSub, Int.reduceToNat, Int.reduceNeg, Int.toNat_natCast, beq_self_eq_true, wrap64, undef, Nat.zero_add, Nat.add_zero, Int.zero_add, Int.add_zero, Int.sub_zero, St.loadN_other, St.cell_other]
        have e9A := he9.trans heA
        refine wJ_of (F.vector_Join_J (v8'.ext dotE e9A) (hoA.sl dotE) hv (joinV_is hw hx) (by omega) (by omega)) ?_; rintro vB SB ⟨hoB, heB⟩
        simp (disch := omega) only [go_sem, ↓reduceIte, Nat.reduceEqDiff, Nat.reduceAdd, Nat.reduceMul, Nat.reduceSub, Nat.reduceLT, Nat.reduceLeDiff, Nat.reduceBEq, Nat.reduceLeDiff, reduceCtorEq, Int.reduceLT, Int.reduceEq, Int.reduceLE, Int.reduceAdd, Int.reduceSub, Int.reduceToNat, Int.reduceNeg, Int.toNat_natCast, beq_self_eq_true, wrap64, undef, Nat.zero_add, Nat.add_zero, Int.zero_add, Int.add_zero, Int.sub_zero, St.loadN_other, St.cell_other]
        refine wJ_of (F.vector_Same_J ((ho9.sl dotE).ext dotE (heA.trans heB)) (hoB.sl dotE) (by omega)) ?_; rintro _ _ ⟨rfl, rfl⟩
        have e9B := e9A.trans heB
        simp (disch := omega) only [go_sem, ↓reduceIte, Nat.reduceEqDiff, Nat.reduceAdd, Nat.reduceMul, Nat.reduceSub, Nat.reduceLT, Nat.reduceLeDiff, Nat.reduceBEq, Nat.reduceLeDiff, reduceCtorEq, Int.reduceLT, Int.reduceEq, Int.reduceLE, Int.reduceAdd, Int.reduceSub, Int.reduceToNat, Int.reduceNeg, Int.toNat_natCast, beq_self_eq_true, wrap64, undef, Nat.zero_add, Nat.add_zero, Int.zero_add, Int.add_zero, Int.sub_zero, St.loadN_other, St.cell_other, decide_eq_true q3]
        refine wJ_of (F.vector_Join_J (v8'.ext dotE e9B) (v8'.ext dotE e9B) hv hv (by omega) (by omega)) ?_; rintro vC SC ⟨hoC, heC⟩
        have e9C := e9B.trans heC
        simp (disch := omega) only [go_sem, ↓reduceIte, Nat.reduceEqDiff, Nat.reduceAdd, Nat.reduceMul, Nat.reduceSub, Nat.reduceLT, Nat.reduceLeDiff, Nat.reduceBEq, Nat.reduceLeDiff, reduceCtorEq, Int.reduceLT, Int.reduceEq, Int.reduceLE, Int.reduceAdd, Int.reduceSub, Int.reduceToNat, Int.reduceNeg, Int.toNat_natCast, beq_self_eq_true, wrap64, undef, Nat.zero_add, Nat.add_zero, Int.zero_add, Int.add_zero, Int.sub_zero, St.loadN_other, St.cell_other]
        refine wJ_of (F.vector_Same_J (hoC.sl dotE) (v8'.ext dotE e9C) (by omega)) ?_; rintro _ _ ⟨rfl, rfl⟩
        simp (disch := omega) only [go_sem, ↓reduceIte, Nat.reduceEqDiff, Nat.reduceAdd, Nat.reduceMul, Nat.reduceSub, Nat.reduceLT, Nat.reduceLeDiff, Nat.reduceBEq, Nat.reduceLeDiff, reduceCtorEq, Int.reduceLT, Int.reduceEq, Int.reduceLE, Int.reduceAdd, Int.reduceSub, Int.reduceToNat, Int.reduceNeg, Int.toNat_natCast, beq_self_eq_true, wrap64, undef, Nat.zero_add, Nat.add_zero, Int.zero_add, Int.add_zero, Int.sub_zero, St.loadN_other, St.cell_other, decide_eq_true q4]
        refine wJ_of (F.vector_Join_J (v8'.ext dotE e9C) (m8'.ext dotE e9C) hv hm (by omega) (by omega)) ?_; rintro vD SD ⟨hoD, heD⟩
        have e9D := e9C.trans heD
        simp (disch := omega) only [go_sem, ↓reduceIte, Nat.reduceEqDiff, Nat.reduceAdd, Nat.reduceMul, Nat.reduceSub, Nat.reduceLT, Nat.reduceLeDiff, Nat.reduceBEq, Nat.reduceLeDiff, reduceCtorEq, Int.reduceLT, Int.reduceEq, Int.reduceLE, Int.reduceAdd, Int.reduceSub, Int.reduceToNat, Int.reduceNeg, Int.toNat_natCast, beq_self_eq_true, wrap64, undef, Nat.zero_add, Nat.add_zero, Int.zero_add, Int.add_zero, Int.sub_zero, St.loadN_other, St.cell_other]
        refine wJ_of (F.vector_Same_J (hoD.sl dotE) (v8'.ext dotE e9D) (by omega)) ?_; rintro _ _ ⟨rfl, rfl⟩
        have e4D := e8.trans e9D
        have hwj := ((hoj.ext dotE he6).ext dotE (e68.trans e9D)).wr
        obtain ⟨bj, cj, rfl⟩ := (hoj.sl dotE).len dotE
        have hkj : (joinV V W).length ≤ 200 := by omega
        simp (disch := omega) only [go_sem, ↓reduceIte, Nat.reduceEqDiff, Nat.reduceAdd, Nat.reduceMul, Nat.reduceSub, Nat.reduceLT, Nat.reduceLeDiff, Nat.reduceBEq, Nat.reduceLeDiff, reduceCtorEq, Int.reduceLT, Int.reduceEq, Int.reduceLE, Int.reduceAdd, Int.reduceSub, Int.reduceToNat, Int.reduceNeg, Int.toNat_natCast, beq_self_eq_true, wrap64, undef, Nat.zero_add, Nat.add_zero, Int.zero_add, Int.add_zero, Int.sub_zero, St.loadN_other, St.cell_other, decide_eq_true q5]
        clear hoj hsj j8' q1 q3 gj b1 b2 b5 j1 j3 hj
        generalize (joinV V W).length = k at *
        refine wC_at 0 (fun fr S' => fr 8 = vv ∧ fr 11 = vo ∧ fr 14 = .bool true ∧ fr 15 = .bool true ∧ fr 16 = .bool true ∧ fr 17 = .bool true ∧ S4.Ext S') ?_ ?_
        · refine wC_loop (fun n fr S' => ∃ i, n = k - i ∧ i ≤ k ∧ fr 8 = vv ∧ fr 11 = vo ∧ fr 12 = .slice bj k cj ∧ fr 14 = .bool true ∧ fr 15 = .bool true ∧ fr 16 = .bool true ∧ fr 17 = .bool true ∧ fr 18 = .int .i64 (i : Nat) ∧ S4.Ext S' ∧ WrT S4.n S' (.slice bj k cj) k) k
            ⟨0, by simp (disch := omega) only [go_sem, ↓reduceIte, Nat.reduceEqDiff, Nat.reduceAdd, Nat.reduceMul, Nat.reduceSub, Nat.reduceLT, Nat.reduceLeDiff, Nat.reduceBEq, Nat.reduceLeDiff, reduceCtorEq, Int.reduceLT, Int.reduceEq, Int.reduceLE, Int.reduceAdd, Int.reduceSub, Int.reduceToNat, Int.reduceNeg, Int.toNat_natCast, beq_self_eq_true, wrap64, undef, Nat.zero_add, Nat.add_zero, Int.zero_add, Int.add_zero, Int.sub_zero, St.loadN_other, St.cell_other]; exact ⟨by simp, by simp, e4D, hwj⟩⟩ ?_
          rintro n fr S' ⟨i, rfl, hi, h8, h11, h12, h14, h15, h16, h17, h18, he', hw'⟩
          simp (disch := omega) only [go_sem, ↓reduceIte, Nat.reduceEqDiff, Nat.reduceAdd, Nat.reduceMul, Nat.reduceSub, Nat.reduceLT, Nat.reduceLeDiff, Nat.reduceBEq, Nat.reduceLeDiff, reduceCtorEq, Int.reduceLT, Int.reduceEq, Int.reduceLE, Int.reduceAdd, Int.reduceSub, Int.reduceToNat, Int.reduceNeg, Int.toNat_natCast, beq_self_eq_true, wrap64, undef, Nat.zero_add, Nat.add_zero, Int.zero_add, Int.add_zero, Int.sub_zero, St.loadN_other, St.cell_other, F.osierlaw04_VectorLaws.l0, h8, h11, h12, h14, h15, h16, h17, h18]
          refine wcond_dec (fun hlt => ?_) (fun hge => ?_)
          · have hc : (0 : Int) ≤ (i : Int) ∧ (i : Int) < ((k : Nat) : Int) := by omega
            rcases hw' with h | ⟨b, c, cs, hv, hB, hob, hlen, hcap⟩
            · omega
            injection hv with hv1 hv2 hv3
            subst hv1 hv3
            simp (disch := omega) only [go_sem, ↓reduceIte, Nat.reduceEqDiff, Nat.reduceAdd, Nat.reduceMul, Nat.reduceSub, Nat.reduceLT, Nat.reduceLeDiff, Nat.reduceBEq, Nat.reduceLeDiff, reduceCtorEq, Int.reduceLT, Int.reduceEq, Int.reduceLE, Int.reduceAdd, Int.reduceSub, Int.reduceToNat, Int.reduceNeg, Int.toNat_natCast, beq_self_eq_true, wrap64, undef, Nat.zero_add, Nat.add_zero, Int.zero_add, Int.add_zero, Int.sub_zero, St.loadN_other, St.cell_other, h12, h18, hc]
            refine wst_of hob rfl rfl (by omega) (by omega) ?_
            simp (disch := omega) only [go_sem, ↓reduceIte, Nat.reduceEqDiff, Nat.reduceAdd, Nat.reduceMul, Nat.reduceSub, Nat.reduceLT, Nat.reduceLeDiff, Nat.reduceBEq, Nat.reduceLeDiff, reduceCtorEq, Int.reduceLT, Int.reduceEq, Int.reduceLE, Int.reduceAdd, Int.reduceSub, Int.reduceToNat, Int.reduceNeg, Int.toNat_natCast, beq_self_eq_true, wrap64, undef, Nat.zero_add, Nat.add_zero, Int.zero_add, Int.add_zero, Int.sub_zero, St.loadN_other, St.cell_other, h8, h11, h12, h14, h15, h16, h17, h18]
            refine ⟨k - (i + 1), by omega, i + 1, rfl, by omega, rfl, ⟨Nat.le_trans he'.n (by rw [St.put_n]; omega), fun k hk => ?_⟩, .inr ⟨b, _, _, rfl, hB, St.put_same _ _ _, ?_, hcap⟩⟩
            · rw [St.put_other _ _ _ (by omega)]
              exact he'.obj k hk
            · simp
              omega
          · simp (disch := omega) only [go_sem, ↓reduceIte, Nat.reduceEqDiff, Nat.reduceAdd, Nat.reduceMul, Nat.reduceSub, Nat.reduceLT, Nat.reduceLeDiff, Nat.reduceBEq, Nat.reduceLeDiff, reduceCtorEq, Int.reduceLT, Int.reduceEq, Int.reduceLE, Int.reduceAdd, Int.reduceSub, Int.reduceToNat, Int.reduceNeg, Int.toNat_natCast, beq_self_eq_true, wrap64, undef, Nat.zero_add, Nat.add_zero, Int.zero_add, Int.add_zero, Int.sub_zero, St.loadN_other, St.cell_other, h8, h11, h12, h14, h15, h16, h17, h18]
            exact he'
        rintro fr S' ⟨h8, h11, h14, h15, h16, h17, heE⟩
        simp (disch := omega) only [go_sem, ↓reduceIte, Nat.reduceEqDiff, Nat.reduceAdd, Nat.reduceMul, Nat.reduceSub, Nat.reduceLT, Nat.reduceLeDiff, Nat.reduceBEq, Nat.reduceLeDiff, reduceCtorEq, Int.reduceLT, Int.reduceEq, Int.reduceLE, Int.reduceAdd, Int.reduceSub, Int.reduceToNat, Int.reduceNeg, Int.toNat_natCast, beq_self_eq_true, wrap64, undef, Nat.zero_add, Nat.add_zero, Int.zero_add, Int.add_zero, Int.sub_zero, St.loadN_other, St.cell_other, h8, h11, h14, h15, h16, h17]
        refine wJ_of (F.osierref04_Same_J (hsv.ext dotE heE) (hso.ext dotE heE) (by omega)) ?_; rintro _ _ ⟨rfl, rfl⟩
        simp (disch := omega) only [go_sem, ↓reduceIte, Nat.reduceEqDiff, Nat.reduceAdd, Nat.reduceMul, Nat.reduceSub, Nat.reduceLT, Nat.reduceLeDiff, Nat.reduceBEq, Nat.reduceLeDiff, reduceCtorEq, Int.reduceLT, Int.reduceEq, Int.reduceLE, Int.reduceAdd, Int.reduceSub, Int.reduceToNat, Int.reduceNeg, Int.toNat_natCast, beq_self_eq_true, wrap64, undef, Nat.zero_add, Nat.add_zero, Int.zero_add, Int.add_zero, Int.sub_zero, St.loadN_other, St.cell_other]
      · simp (disch := omega) only [go_sem, ↓reduceIte, Nat.reduceEqDiff, Nat.reduceAdd, Nat.reduceMul, Nat.reduceSub, Nat.reduceLT, Nat.reduceLeDiff, Nat.reduceBEq, Nat.reduceLeDiff, reduceCtorEq, Int.reduceLT, Int.reduceEq, Int.reduceLE, Int.reduceAdd, Int.reduceSub, Int.reduceToNat, Int.reduceNeg, Int.toNat_natCast, beq_self_eq_true, wrap64, undef, Nat.zero_add, Nat.add_zero, Int.zero_add, Int.add_zero, Int.sub_zero, St.loadN_other, St.cell_other, c4]
        have j3 := jl (joinV V W) X
        have j4 := jl W X
        have j5 := jl V (joinV W X)
        have j6 := jl V V
        have j7 := jl V (meetV V W)
        refine wJ_of (F.vector_Join_J j8' x8' hj hx (by omega) (by omega)) ?_; rintro v9 S9 ⟨ho9, he9⟩
        simp (disch := omega) only [go_sem, ↓reduceIte, Nat.reduceEqDiff, Nat.reduceAdd, Nat.reduceMul, Nat.reduceSub, Nat.reduceLT, Nat.reduceLeDiff, Nat.reduceBEq, Nat.reduceLeDiff, reduceCtorEq, Int.reduceLT, Int.reduceEq, Int.reduceLE, Int.reduceAdd, Int.reduceSub, Int.reduceToNat, Int.reduceNeg, Int.toNat_natCast, beq_self_eq_true, wrap64, undef, Nat.zero_add, Nat.add_zero, Int.zero_add, Int.add_zero, Int.sub_zero, St.loadN_other, St.cell_other]
        refine wJ_of (F.vector_Join_J (w8'.ext dotE he9) (x8'.ext dotE he9) hw hx (by omega) (by omega)) ?_; rintro vA SA ⟨hoA, heA⟩
        simp (disch := omega) only [go_sem, ↓reduceIte, Nat.reduceEqDiff, Nat.reduceAdd, Nat.reduceMul, Nat.reduceSub, Nat.reduceLT, Nat.reduceLeDiff, Nat.reduceBEq, Nat.reduceLeDiff, reduceCtorEq, Int.reduceLT, Int.reduceEq, Int.reduceLE, Int.reduceAdd, Int.reduceSub, Int.reduceToNat, Int.reduceNeg, Int.toNat_natCast, beq_self_eq_true, wrap64, undef, Nat.zero_add, Nat.add_zero, Int.zero_add, Int.add_zero, Int.sub_zero, St.loadN_other, St.cell_other]
        have e9A := he9.trans heA
        refine wJ_of (F.vector_Join_J (v8'.ext dotE e9A) (hoA.sl dotE) hv (joinV_is hw hx) (by omega) (by omega)) ?_; rintro vB SB ⟨hoB, heB⟩
        simp (disch := omega) only [go_sem, ↓reduceIte, Nat.reduceEqDiff, Nat.reduceAdd, Nat.reduceMul, Nat.reduceSub, Nat.reduceLT, Nat.reduceLeDiff, Nat.reduceBEq, Nat.reduceLeDiff, reduceCtorEq, Int.reduceLT, Int.reduceEq, Int.reduceLE, Int.reduceAdd, Int.reduceSub, Int.reduceToNat, Int.reduceNeg, Int.toNat_natCast, beq_self_eq_true, wrap64, undef, Nat.zero_add, Nat.add_zero, Int.zero_add, Int.add_zero, Int.sub_zero, St.loadN_other, St.cell_other]
        refine wJ_of (F.vector_Same_J ((ho9.sl dotE).ext dotE (heA.trans heB)) (hoB.sl dotE) (by omega)) ?_; rintro _ _ ⟨rfl, rfl⟩
        have e9B := e9A.trans heB
        simp (disch := omega) only [go_sem, ↓reduceIte, Nat.reduceEqDiff, Nat.reduceAdd, Nat.reduceMul, Nat.reduceSub, Nat.reduceLT, Nat.reduceLeDiff, Nat.reduceBEq, Nat.reduceLeDiff, reduceCtorEq, Int.reduceLT, Int.reduceEq, Int.reduceLE, Int.reduceAdd, Int.reduceSub, Int.reduceToNat, Int.reduceNeg, Int.toNat_natCast, beq_self_eq_true, wrap64, undef, Nat.zero_add, Nat.add_zero, Int.zero_add, Int.add_zero, Int.sub_zero, St.loadN_other, St.cell_other, decide_eq_true q3]
        refine wJ_of (F.vector_Join_J (v8'.ext dotE e9B) (v8'.ext dotE e9B) hv hv (by omega) (by omega)) ?_; rintro vC SC ⟨hoC, heC⟩
        have e9C := e9B.trans heC
        simp (disch := omega) only [go_sem, ↓reduceIte, Nat.reduceEqDiff, Nat.reduceAdd, Nat.reduceMul, Nat.reduceSub, Nat.reduceLT, Nat.reduceLeDiff, Nat.reduceBEq, Nat.reduceLeDiff, reduceCtorEq, Int.reduceLT, Int.reduceEq, Int.reduceLE, Int.reduceAdd, Int.reduceSub, Int.reduceToNat, Int.reduceNeg, Int.toNat_natCast, beq_self_eq_true, wrap64, undef, Nat.zero_add, Nat.add_zero, Int.zero_add, Int.add_zero, Int.sub_zero, St.loadN_other, St.cell_other]
        refine wJ_of (F.vector_Same_J (hoC.sl dotE) (v8'.ext dotE e9C) (by omega)) ?_; rintro _ _ ⟨rfl, rfl⟩
        simp (disch := omega) only [go_sem, ↓reduceIte, Nat.reduceEqDiff, Nat.reduceAdd, Nat.reduceMul, Nat.reduceSub, Nat.reduceLT, Nat.reduceLeDiff, Nat.reduceBEq, Nat.reduceLeDiff, reduceCtorEq, Int.reduceLT, Int.reduceEq, Int.reduceLE, Int.reduceAdd, Int.reduceSub, Int.reduceToNat, Int.reduceNeg, Int.toNat_natCast, beq_self_eq_true, wrap64, undef, Nat.zero_add, Nat.add_zero, Int.zero_add, Int.add_zero, Int.sub_zero, St.loadN_other, St.cell_other, decide_eq_true q4]
        refine wJ_of (F.vector_Join_J (v8'.ext dotE e9C) (m8'.ext dotE e9C) hv hm (by omega) (by omega)) ?_; rintro vD SD ⟨hoD, heD⟩
        have e9D := e9C.trans heD
        simp (disch := omega) only [go_sem, ↓reduceIte, Nat.reduceEqDiff, Nat.reduceAdd, Nat.reduceMul, Nat.reduceSub, Nat.reduceLT, Nat.reduceLeDiff, Nat.reduceBEq, Nat.reduceLeDiff, reduceCtorEq, Int.reduceLT, Int.reduceEq, Int.reduceLE, Int.reduceAdd, Int.reduceSub, Int.reduceToNat, Int.reduceNeg, Int.toNat_natCast, beq_self_eq_true, wrap64, undef, Nat.zero_add, Nat.add_zero, Int.zero_add, Int.add_zero, Int.sub_zero, St.loadN_other, St.cell_other]
        refine wJ_of (F.vector_Same_J (hoD.sl dotE) (v8'.ext dotE e9D) (by omega)) ?_; rintro _ _ ⟨rfl, rfl⟩
        have e4D := e8.trans e9D
        have hwj := ((hoj.ext dotE he6).ext dotE (e68.trans e9D)).wr
        obtain ⟨bj, cj, rfl⟩ := (hoj.sl dotE).len dotE
        have hkj : (joinV V W).length ≤ 200 := by omega
        simp (disch := omega) only [go_sem, ↓reduceIte, Nat.reduceEqDiff, Nat.reduceAdd, Nat.reduceMul, Nat.reduceSub, Nat.reduceLT, Nat.reduceLeDiff, Nat.reduceBEq, Nat.reduceLeDiff, reduceCtorEq, Int.reduceLT, Int.reduceEq, Int.reduceLE, Int.reduceAdd, Int.reduceSub, Int.reduceToNat, Int.reduceNeg, Int.toNat_natCast, beq_self_eq_true, wrap64, undef, Nat.zero_add, Nat.add_zero, Int.zero_add, Int.add_zero, Int.sub_zero, St.loadN_other, St.cell_other, decide_eq_true q5]
        clear hoj hsj j8' q1 q3 gj b1 b2 b5 j1 j3 hj
        generalize (joinV V W).length = k at *
        refine wC_at 0 (fun fr S' => fr 8 = vv ∧ fr 11 = vo ∧ fr 14 = .bool true ∧ fr 15 = .bool true ∧ fr 16 = .bool true ∧ fr 17 = .bool true ∧ S4.Ext S') ?_ ?_
        · refine wC_loop (fun n fr S' => ∃ i, n = k - i ∧ i ≤ k ∧ fr 8 = vv ∧ fr 11 = vo ∧ fr 12 = .slice bj k cj ∧ fr 14 = .bool true ∧ fr 15 = .bool true ∧ fr 16 = .bool true ∧ fr 17 = .bool true ∧ fr 18 = .int .i64 (i : Nat) ∧ S4.Ext S' ∧ WrT S4.n S' (.slice bj k cj) k) k
            ⟨0, by simp (disch := omega) only [go_sem, ↓reduceIte, Nat.reduceEqDiff, Nat.reduceAdd, Nat.reduceMul, Nat.reduceSub, Nat.reduceLT, Nat.reduceLeDiff, Nat.reduceBEq, Nat.reduceLeDiff, reduceCtorEq, Int.reduceLT, Int.reduceEq, Int.reduceLE, Int.reduceAdd, Int.reduceSub, Int.reduceToNat, Int.reduceNeg, Int.toNat_natCast, beq_self_eq_true, wrap64, undef, Nat.zero_add, Nat.add_zero, Int.zero_add, Int.add_zero, Int.sub_zero, St.loadN_other, St.cell_other]; exact ⟨by simp, by simp, e4D, hwj⟩⟩ ?_
          rintro n fr S' ⟨i, rfl, hi, h8, h11, h12, h14, h15, h16, h17, h18, he', hw'⟩
          simp (disch := omega) only [go_sem, ↓reduceIte, Nat.reduceEqDiff, Nat.reduceAdd, Nat.reduceMul, Nat.reduceSub, Nat.reduceLT, Nat.reduceLeDiff, Nat.reduceBEq, Nat.reduceLeDiff, reduceCtorEq, Int.reduceLT, Int.reduceEq, Int.reduceLE, Int.reduceAdd, Int.reduceSub, Int.reduceToNat, Int.reduceNeg, Int.toNat_natCast, beq_self_eq_true, wrap64, undef, Nat.zero_add, Nat.add_zero, Int.zero_add, Int.add_zero, Int.sub_zero, St.loadN_other, St.cell_other, F.osierlaw04_VectorLaws.l0, h8, h11, h12, h14, h15, h16, h17, h18]
          refine wcond_dec (fun hlt => ?_) (fun hge => ?_)
          · have hc : (0 : Int) ≤ (i : Int) ∧ (i : Int) < ((k : Nat) : Int) := by omega
            rcases hw' with h | ⟨b, c, cs, hv, hB, hob, hlen, hcap⟩
            · omega
            injection hv with hv1 hv2 hv3
            subst hv1 hv3
            simp (disch := omega) only [go_sem, ↓reduceIte, Nat.reduceEqDiff, Nat.reduceAdd, Nat.reduceMul, Nat.reduceSub, Nat.reduceLT, Nat.reduceLeDiff, Nat.reduceBEq, Nat.reduceLeDiff, reduceCtorEq, Int.reduceLT, Int.reduceEq, Int.reduceLE, Int.reduceAdd, Int.reduceSub, Int.reduceToNat, Int.reduceNeg, Int.toNat_natCast, beq_self_eq_true, wrap64, undef, Nat.zero_add, Nat.add_zero, Int.zero_add, Int.add_zero, Int.sub_zero, St.loadN_other, St.cell_other, h12, h18, hc]
            refine wst_of hob rfl rfl (by omega) (by omega) ?_
            simp (disch := omega) only [go_sem, ↓reduceIte, Nat.reduceEqDiff, Nat.reduceAdd, Nat.reduceMul, Nat.reduceSub, Nat.reduceLT, Nat.reduceLeDiff, Nat.reduceBEq, Nat.reduceLeDiff, reduceCtorEq, Int.reduceLT, Int.reduceEq, Int.reduceLE, Int.reduceAdd, Int.reduceSub, Int.reduceToNat, Int.reduceNeg, Int.toNat_natCast, beq_self_eq_true, wrap64, undef, Nat.zero_add, Nat.add_zero, Int.zero_add, Int.add_zero, Int.sub_zero, St.loadN_other, St.cell_other, h8, h11, h12, h14, h15, h16, h17, h18]
            refine ⟨k - (i + 1), by omega, i + 1, rfl, by omega, rfl, ⟨Nat.le_trans he'.n (by rw [St.put_n]; omega), fun k hk => ?_⟩, .inr ⟨b, _, _, rfl, hB, St.put_same _ _ _, ?_, hcap⟩⟩
            · rw [St.put_other _ _ _ (by omega)]
              exact he'.obj k hk
            · simp
              omega
          · simp (disch := omega) only [go_sem, ↓reduceIte, Nat.reduceEqDiff, Nat.reduceAdd, Nat.reduceMul, Nat.reduceSub, Nat.reduceLT, Nat.reduceLeDiff, Nat.reduceBEq, Nat.reduceLeDiff, reduceCtorEq, Int.reduceLT, Int.reduceEq, Int.reduceLE, Int.reduceAdd, Int.reduceSub, Int.reduceToNat, Int.reduceNeg, Int.toNat_natCast, beq_self_eq_true, wrap64, undef, Nat.zero_add, Nat.add_zero, Int.zero_add, Int.add_zero, Int.sub_zero, St.loadN_other, St.cell_other, h8, h11, h12, h14, h15, h16, h17, h18]
            exact he'
        rintro fr S' ⟨h8, h11, h14, h15, h16, h17, heE⟩
        simp (disch := omega) only [go_sem, ↓reduceIte, Nat.reduceEqDiff, Nat.reduceAdd, Nat.reduceMul, Nat.reduceSub, Nat.reduceLT, Nat.reduceLeDiff, Nat.reduceBEq, Nat.reduceLeDiff, reduceCtorEq, Int.reduceLT, Int.reduceEq, Int.reduceLE, Int.reduceAdd, Int.reduceSub, Int.reduceToNat, Int.reduceNeg, Int.toNat_natCast, beq_self_eq_true, wrap64, undef, Nat.zero_add, Nat.add_zero, Int.zero_add, Int.add_zero, Int.sub_zero, St.loadN_other, St.cell_other, h8, h11, h14, h15, h16, h17]
        refine wJ_of (F.osierref04_Same_J (hsv.ext dotE heE) (hso.ext dotE heE) (by omega)) ?_; rintro _ _ ⟨rfl, rfl⟩
        simp (disch := omega) only [go_sem, ↓reduceIte, Nat.reduceEqDiff, Nat.reduceAdd, Nat.reduceMul, Nat.reduceSub, Nat.reduceLT, Nat.reduceLeDiff, Nat.reduceBEq, Nat.reduceLeDiff, reduceCtorEq, Int.reduceLT, Int.reduceEq, Int.reduceLE, Int.reduceAdd, Int.reduceSub, Int.reduceToNat, Int.reduceNeg, Int.toNat_natCast, beq_self_eq_true, wrap64, undef, Nat.zero_add, Nat.add_zero, Int.zero_add, Int.add_zero, Int.sub_zero, St.loadN_other, St.cell_other]
    · simp (disch := omega) only [go_sem, ↓reduceIte, Nat.reduceEqDiff, Nat.reduceAdd, Nat.reduceMul, Nat.reduceSub, Nat.reduceLT, Nat.reduceLeDiff, Nat.reduceBEq, Nat.reduceLeDiff, reduceCtorEq, Int.reduceLT, Int.reduceEq, Int.reduceLE, Int.reduceAdd, Int.reduceSub, Int.reduceToNat, Int.reduceNeg, Int.toNat_natCast, beq_self_eq_true, wrap64, undef, Nat.zero_add, Nat.add_zero, Int.zero_add, Int.add_zero, Int.sub_zero, St.loadN_other, St.cell_other, c3]
      have j3 := jl (joinV V W) X
      have j4 := jl W X
      have j5 := jl V (joinV W X)
      have j6 := jl V V
      have j7 := jl V (meetV V W)
      refine wJ_of (F.vector_Join_J j8' x8' hj hx (by omega) (by omega)) ?_; rintro v9 S9 ⟨ho9, he9⟩
      simp (disch := omega) only [go_sem, ↓reduceIte, Nat.reduceEqDiff, Nat.reduceAdd, Nat.reduceMul, Nat.reduceSub, Nat.reduceLT, Nat.reduceLeDiff, Nat.reduceBEq, Nat.reduceLeDiff, reduceCtorEq, Int.reduceLT, Int.reduceEq, Int.reduceLE, Int.reduceAdd, Int.reduceSub, Int.reduceToNat, Int.reduceNeg, Int.toNat_natCast, beq_self_eq_true, wrap64, undef, Nat.zero_add, Nat.add_zero, Int.zero_add, Int.add_zero, Int.sub_zero, St.loadN_other, St.cell_other]
      refine wJ_of (F.vector_Join_J (w8'.ext dotE he9) (x8'.ext dotE he9) hw hx (by omega) (by omega)) ?_; rintro vA SA ⟨hoA, heA⟩
      simp (disch := omega) only [go_sem, ↓reduceIte, Nat.reduceEqDiff, Nat.reduceAdd, Nat.reduceMul, Nat.reduceSub, Nat.reduceLT, Nat.reduceLeDiff, Nat.reduceBEq, Nat.reduceLeDiff, reduceCtorEq, Int.reduceLT, Int.reduceEq, Int.reduceLE, Int.reduceAdd, Int.reduceSub, Int.reduceToNat, Int.reduceNeg, Int.toNat_natCast, beq_self_eq_true, wrap64, undef, Nat.zero_add, Nat.add_zero, Int.zero_add, Int.add_zero, Int.sub_zero, St.loadN_other, St.cell_other]
      have e9A := he9.trans heA
      refine wJ_of (F.vector_Join_J (v8'.ext dotE e9A) (hoA.sl dotE) hv (joinV_is hw hx) (by omega) (by omega)) ?_; rintro vB SB ⟨hoB, heB⟩
      simp (disch := omega) only [go_sem, ↓reduceIte, Nat.reduceEqDiff, Nat.reduceAdd, Nat.reduceMul, Nat.reduceSub, Nat.reduceLT, Nat.reduceLeDiff, Nat.reduceBEq, Nat.reduceLeDiff, reduceCtorEq, Int.reduceLT, Int.reduceEq, Int.reduceLE, Int.reduceAdd, Int.reduceSub, Int.reduceToNat, Int.reduceNeg, Int.toNat_natCast, beq_self_eq_true, wrap64, undef, Nat.zero_add, Nat.add_zero, Int.zero_add, Int.add_zero, Int.sub_zero, St.loadN_other, St.cell_other]
      refine wJ_of (F.vector_Same_J ((ho9.sl dotE).ext dotE (heA.trans heB)) (hoB.sl dotE) (by omega)) ?_; rintro _ _ ⟨rfl, rfl⟩
      have e9B := e9A.trans heB
      simp (disch := omega) only [go_sem, ↓reduceIte, Nat.reduceEqDiff, Nat.reduceAdd, Nat.reduceMul, Nat.reduceSub, Nat.reduceLT, Nat.reduceLeDiff, Nat.reduceBEq, Nat.reduceLeDiff, reduceCtorEq, Int.reduceLT, Int.reduceEq, Int.reduceLE, Int.reduceAdd, Int.reduceSub, Int.reduceToNat, Int.reduceNeg, Int.toNat_natCast, beq_self_eq_true, wrap64, undef, Nat.zero_add, Nat.add_zero, Int.zero_add, Int.add_zero, Int.sub_zero, St.loadN_other, St.cell_other, decide_eq_true q3]
      refine wJ_of (F.vector_Join_J (v8'.ext dotE e9B) (v8'.ext dotE e9B) hv hv (by omega) (by omega)) ?_; rintro vC SC ⟨hoC, heC⟩
      have e9C := e9B.trans heC
      simp (disch := omega) only [go_sem, ↓reduceIte, Nat.reduceEqDiff, Nat.reduceAdd, Nat.reduceMul, Nat.reduceSub, Nat.reduceLT, Nat.reduceLeDiff, Nat.reduceBEq, Nat.reduceLeDiff, reduceCtorEq, Int.reduceLT, Int.reduceEq, Int.reduceLE, Int.reduceAdd, Int.reduceSub, Int.reduceToNat, Int.reduceNeg, Int.toNat_natCast, beq_self_eq_true, wrap64, undef, Nat.zero_add, Nat.add_zero, Int.zero_add, Int.add_zero, Int.sub_zero, St.loadN_other, St.cell_other]
      refine wJ_of (F.vector_Same_J (hoC.sl dotE) (v8'.ext dotE e9C) (by omega)) ?_; rintro _ _ ⟨rfl, rfl⟩
      simp (disch := omega) only [go_sem, ↓reduceIte, Nat.reduceEqDiff, Nat.reduceAdd, Nat.reduceMul, Nat.reduceSub, Nat.reduceLT, Nat.reduceLeDiff, Nat.reduceBEq, Nat.reduceLeDiff, reduceCtorEq, Int.reduceLT, Int.reduceEq, Int.reduceLE, Int.reduceAdd, Int.reduceSub, Int.reduceToNat, Int.reduceNeg, Int.toNat_natCast, beq_self_eq_true, wrap64, undef, Nat.zero_add, Nat.add_zero, Int.zero_add, Int.add_zero, Int.sub_zero, St.loadN_other, St.cell_other, decide_eq_true q4]
      refine wJ_of (F.vector_Join_J (v8'.ext dotE e9C) (m8'.ext dotE e9C) hv hm (by omega) (by omega)) ?_; rintro vD SD ⟨hoD, heD⟩
      have e9D := e9C.trans heD
      simp (disch := omega) only [go_sem, ↓reduceIte, Nat.reduceEqDiff, Nat.reduceAdd, Nat.reduceMul, Nat.reduceSub, Nat.reduceLT, Nat.reduceLeDiff, Nat.reduceBEq, Nat.reduceLeDiff, reduceCtorEq, Int.reduceLT, Int.reduceEq, Int.reduceLE, Int.reduceAdd, Int.reduceSub, Int.reduceToNat, Int.reduceNeg, Int.toNat_natCast, beq_self_eq_true, wrap64, undef, Nat.zero_add, Nat.add_zero, Int.zero_add, Int.add_zero, Int.sub_zero, St.loadN_other, St.cell_other]
      refine wJ_of (F.vector_Same_J (hoD.sl dotE) (v8'.ext dotE e9D) (by omega)) ?_; rintro _ _ ⟨rfl, rfl⟩
      have e4D := e8.trans e9D
      have hwj := ((hoj.ext dotE he6).ext dotE (e68.trans e9D)).wr
      obtain ⟨bj, cj, rfl⟩ := (hoj.sl dotE).len dotE
      have hkj : (joinV V W).length ≤ 200 := by omega
      simp (disch := omega) only [go_sem, ↓reduceIte, Nat.reduceEqDiff, Nat.reduceAdd, Nat.reduceMul, Nat.reduceSub, Nat.reduceLT, Nat.reduceLeDiff, Nat.reduceBEq, Nat.reduceLeDiff, reduceCtorEq, Int.reduceLT, Int.reduceEq, Int.reduceLE, Int.reduceAdd, Int.reduceSub, Int.reduceToNat, Int.reduceNeg, Int.toNat_natCast, beq_self_eq_true, wrap64, undef, Nat.zero_add, Nat.add_zero, Int.zero_add, Int.add_zero, Int.sub_zero, St.loadN_other, St.cell_other, decide_eq_true q5]
      clear hoj hsj j8' q1 q3 gj b1 b2 b5 j1 j3 hj
      generalize (joinV V W).length = k at *
      refine wC_at 0 (fun fr S' => fr 8 = vv ∧ fr 11 = vo ∧ fr 14 = .bool true ∧ fr 15 = .bool true ∧ fr 16 = .bool true ∧ fr 17 = .bool true ∧ S4.Ext S') ?_ ?_
      · refine wC_loop (fun n fr S' => ∃ i, n = k - i ∧ i ≤ k ∧ fr 8 = vv ∧ fr 11 = vo ∧ fr 12 = .slice bj k cj ∧ fr 14 = .bool true ∧ fr 15 = .bool true ∧ fr 16 = .bool true ∧ fr 17 = .bool true ∧ fr 18 = .int .i64 (i : Nat) ∧ S4.Ext S' ∧ WrT S4.n S' (.slice bj k cj) k) k
          ⟨0, by simp (disch := omega) only [go_sem, ↓reduceIte, Nat.reduceEqDiff, Nat.reduceAdd, Nat.reduceMul, Nat.reduceSub, Nat.reduceLT, Nat.reduceLeDiff, Nat.reduceBEq, Nat.reduceLeDiff, reduceCtorEq, Int.reduceLT, Int.reduceEq, Int.reduceLE, Int.reduceAdd, Int.reduceSub, Int.reduceToNat, Int.reduceNeg, Int.toNat_natCast, beq_self_eq_true, wrap64, undef, Nat.zero_add, Nat.add_zero, Int.zero_add, Int.add_zero, Int.sub_zero, St.loadN_other, St.cell_other]; exact ⟨by simp, by simp, e4D, hwj⟩⟩ ?_
        rintro n fr S' ⟨i, rfl, hi, h8, h11, h12, h14, h15, h16, h17, h18, he', hw'⟩
        simp (disch := omega) only [go_sem, ↓reduceIte, Nat.reduceEqDiff, Nat.reduceAdd, Nat.reduceMul, Nat.reduceSub, Nat.reduceLT, Nat.reduceLeDiff, Nat.reduceBEq, Nat.reduceLeDiff, reduceCtorEq, Int.reduceLT, Int.reduceEq, Int.reduceLE, Int.reduceAdd, Int.reduceSub, Int.reduceToNat, Int.reduceNeg, Int.toNat_natCast, beq_self_eq_true, wrap64, undef, Nat.zero_add, Nat.add_zero, Int.zero_add, Int.add_zero, Int.sub_zero, St.loadN_other, St.cell_other, F.osierlaw04_VectorLaws.l0, h8, h11, h12, h14, h15, h16, h17, h18]
        refine wcond_dec (fun hlt => ?_) (fun hge => ?_)
        · have hc : (0 : Int) ≤ (i : Int) ∧ (i : Int) < ((k : Nat) : Int) := by omega
          rcases hw' with h | ⟨b, c, cs, hv, hB, hob, hlen, hcap⟩
          · omega
          injection hv with hv1 hv2 hv3
          subst hv1 hv3
          simp (disch := omega) only [go_sem, ↓reduceIte, Nat.reduceEqDiff, Nat.reduceAdd, Nat.reduceMul, Nat.reduceSub, Nat.reduceLT, Nat.reduceLeDiff, Nat.reduceBEq, Nat.reduceLeDiff, reduceCtorEq, Int.reduceLT, Int.reduceEq, Int.reduceLE, Int.reduceAdd, Int.reduceSub, Int.reduceToNat, Int.reduceNeg, Int.toNat_natCast, beq_self_eq_true, wrap64, undef, Nat.zero_add, Nat.add_zero, Int.zero_add, Int.add_zero, Int.sub_zero, St.loadN_other, St.cell_other, h12, h18, hc]
          refine wst_of hob rfl rfl (by omega) (by omega) ?_
          simp (disch := omega) only [go_sem, ↓reduceIte, Nat.reduceEqDiff, Nat.reduceAdd, Nat.reduceMul, Nat.reduceSub, Nat.reduceLT, Nat.reduceLeDiff, Nat.reduceBEq, Nat.reduceLeDiff, reduceCtorEq, Int.reduceLT, Int.reduceEq, Int.reduceLE, Int.reduceAdd, Int.reduceSub, Int.reduceToNat, Int.reduceNeg, Int.toNat_natCast, beq_self_eq_true, wrap64, undef, Nat.zero_add, Nat.add_zero, Int.zero_add, Int.add_zero, Int.sub_zero, St.loadN_other, St.cell_other, h8, h11, h12, h14, h15, h16, h17, h18]
          refine ⟨k - (i + 1), by omega, i + 1, rfl, by omega, rfl, ⟨Nat.le_trans he'.n (by rw [St.put_n]; omega), fun k hk => ?_⟩, .inr ⟨b, _, _, rfl, hB, St.put_same _ _ _, ?_, hcap⟩⟩
          · rw [St.put_other _ _ _ (by omega)]
            exact he'.obj k hk
          · simp
            omega
        · simp (disch := omega) only [go_sem, ↓reduceIte, Nat.reduceEqDiff, Nat.reduceAdd, Nat.reduceMul, Nat.reduceSub, Nat.reduceLT, Nat.reduceLeDiff, Nat.reduceBEq, Nat.reduceLeDiff, reduceCtorEq, Int.reduceLT, Int.reduceEq, Int.reduceLE, Int.reduceAdd, Int.reduceSub, Int.reduceToNat, Int.reduceNeg, Int.toNat_natCast, beq_self_eq_true, wrap64, undef, Nat.zero_add, Nat.add_zero, Int.zero_add, Int.add_zero, Int.sub_zero, St.loadN_other, St.cell_other, h8, h11, h12, h14, h15, h16, h17, h18]
          exact he'
      rintro fr S' ⟨h8, h11, h14, h15, h16, h17, heE⟩
      simp (disch := omega) only [go_sem, ↓reduceIte, Nat.reduceEqDiff, Nat.reduceAdd, Nat.reduceMul, Nat.reduceSub, Nat.reduceLT, Nat.reduceLeDiff, Nat.reduceBEq, Nat.reduceLeDiff, reduceCtorEq, Int.reduceLT, Int.reduceEq, Int.reduceLE, Int.reduceAdd, Int.reduceSub, Int.reduceToNat, Int.reduceNeg, Int.toNat_natCast, beq_self_eq_true, wrap64, undef, Nat.zero_add, Nat.add_zero, Int.zero_add, Int.add_zero, Int.sub_zero, St.loadN_other, St.cell_other, h8, h11, h14, h15, h16, h17]
      refine wJ_of (F.osierref04_Same_J (hsv.ext dotE heE) (hso.ext dotE heE) (by omega)) ?_; rintro _ _ ⟨rfl, rfl⟩
      simp (disch := omega) only [go_sem, ↓reduceIte, Nat.reduceEqDiff, Nat.reduceAdd, Nat.reduceMul, Nat.reduceSub, Nat.reduceLT, Nat.reduceLeDiff, Nat.reduceBEq, Nat.reduceLeDiff, reduceCtorEq, Int.reduceLT, Int.reduceEq, Int.reduceLE, Int.reduceAdd, Int.reduceSub, Int.reduceToNat, Int.reduceNeg, Int.toNat_natCast, beq_self_eq_true, wrap64, undef, Nat.zero_add, Nat.add_zero, Int.zero_add, Int.add_zero, Int.sub_zero, St.loadN_other, St.cell_other]
end Go.Osj
