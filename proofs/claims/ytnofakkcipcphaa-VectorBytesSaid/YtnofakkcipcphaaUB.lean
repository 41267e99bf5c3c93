/- Contracts of layers 1 and 3: a signed number, a dot, taken; the law DotsBytes. -/
import Derived.Test.YtnofakkcipcphaaUA
import Derived.Test.YtnofakkcipcphaaJ
set_option linter.unusedSimpArgs false
namespace Go.Osj
theorem rdU_good {bs : List Int} {e : Int} (hb : isB bs) (he : e ≠ 0 → bs = []) : isB (rdU bs e).2.1 ∧ ((rdU bs e).2.2 ≠ 0 → (rdU bs e).2.1 = []) ∧ (rdU bs e).1 < 18446744073709551616 ∧ (rdU bs e).2.1.length ≤ bs.length := by
  by_cases h0 : e = 0
  · subst h0
    cases bs with
    | nil => simp [rdU, isB]
    | cons b r =>
      obtain ⟨hb0, hb1⟩ := hb b (by simp)
      have hlr := leadK_range b.toNat
      obtain ⟨-, lf2, -, -⟩ := lead_first ⟨b.toNat, by omega⟩
      simp only at lf2
      simp only [rdU, ne_eq, not_true_eq_false, if_false]
      split
      · simp [isB]
      · split
        · refine ⟨fun x hx => hb x (List.mem_of_mem_drop hx), by simp, ?_, by simp⟩
          have h1 := valN_lt (xs := r.take (leadK b.toNat - 1)) (fun x hx => hb x (List.mem_cons_of_mem _ (List.mem_of_mem_take hx))) lf2
          have h2 : 2 ^ (8 * (r.take (leadK b.toNat - 1)).length + (8 - leadK b.toNat)) ≤ 2 ^ 64 := Nat.pow_le_pow_right (by decide) (by simp only [List.length_take]; omega)
          exact Nat.lt_of_lt_of_le h1 h2
        · simp [isB]
  · have := he h0
    subst this
    simp [rdU, h0, isB]
/-- a number with a sign, taken -/
def rdI (bs : List Int) (e : Int) : Int × List Int × Int := (unzz (rdU bs e).1, (rdU bs e).2)
theorem unzz_bits {n : Nat} (hn : n < 18446744073709551616) : bits .xor .i64 (IntKind.i64.wrap ((n : Int).fdiv (2 ^ min 1 64))) (IntKind.i64.wrap (0 - IntKind.i64.wrap (bits .and .u64 (n : Int) 1))) = unzz n := by
  have e1 := fdivN n (min 1 64) 2 (by decide)
  have e2 : bits .and .u64 (n : Int) 1 = ((n % 2 : Nat) : Int) := by
    have := bits_and_u64_nat n 1 hn (by decide)
    rw [Nat.and_one_is_mod] at this
    exact this
  rw [e1, e2, wrap64 (by omega) (by omega), wrap64 (n := ((n % 2 : Nat) : Int)) (by omega) (by omega)]
  unfold unzz
  by_cases h : n % 2 = 0
  · rw [if_pos h, h, show IntKind.i64.wrap (0 - ((0 : Nat) : Int)) = 0 from rfl, xor_i64_zero (by omega) (by omega)]
  · have h1 : n % 2 = 1 := by omega
    rw [if_neg h, h1, show IntKind.i64.wrap (0 - ((1 : Nat) : Int)) = -1 from rfl, xor_i64_neg1 (by omega) (by omega)]
theorem F.num_Reader_Int_J {S : St} {q B : Nat} {bs : List Int} {e : Int} (h : RdT S q B bs e) (hb : isB bs) (he : e ≠ 0 → bs = []) (hL : bs.length < 1000000000) :
    J PR F.num_Reader_Int [ptrV q] S fun v S' => v = .int .i64 (rdI bs e).1 ∧ RdT S' q B (rdI bs e).2.1 (rdI bs e).2.2 ∧ St.But (ptrV q) S S' := by
  refine J_by PR.mixed F.num_Reader_Int.ok (by simp) ?_
  simp (disch := omega) only [go_sem, ↓reduceIte, Nat.reduceEqDiff, Nat.reduceAdd, Nat.reduceMul, Nat.reduceSub, Nat.reduceLT, Nat.reduceLeDiff, Nat.reduceBEq, Nat.reduceLeDiff, reduceCtorEq, Int.reduceLT, Int.reduceEq, Int.reduceLE, Int.reduceAdd, Int.reduceSub, Int.reduceToNat, Int.reduceNeg, Int.toNat_natCast, beq_self_eq_true, wrap64, undef, Nat.zero_add, Nat.add_zero, Int.zero_add, Int.add_zero, Int.sub_zero, St.loadN_other, St.cell_other]
  refine wJ_of (F.num_Reader_Uint_J h hb he hL) ?_; rintro _ S1 ⟨rfl, hr, hbt⟩
  have hg := (rdU_good hb he).2.2.1
  have hz := unzz_bits hg
  simp (disch := omega) only [go_sem, ↓reduceIte, Nat.reduceEqDiff, Nat.reduceAdd, Nat.reduceMul, Nat.reduceSub, Nat.reduceLT, Nat.reduceLeDiff, Nat.reduceBEq, Nat.reduceLeDiff, reduceCtorEq, Int.reduceLT, Int.reduceEq, Int.reduceLE, Int.reduceAdd, Int.reduceSub, Int.reduceToNat, Int.reduceNeg, Int.toNat_natCast, beq_self_eq_true, wrap64, undef, Nat.zero_add, Nat.add_zero, Int.zero_add, Int.add_zero, Int.sub_zero, St.loadN_other, St.cell_other, hz]
  exact ⟨rfl, hr, hbt⟩
theorem F.osierref01_R_Int_J {S : St} {q B : Nat} {bs : List Int} {e : Int} (h : RdT S q B bs e) (hb : isB bs) (he : e ≠ 0 → bs = []) (hL : bs.length < 1000000000) :
    J PR F.osierref01_R_Int [ptrV q] S fun v S' => v = .int .i64 (rdI bs e).1 ∧ RdT S' q B (rdI bs e).2.1 (rdI bs e).2.2 ∧ St.But (ptrV q) S S' := by
  refine J_by PR.mixed F.osierref01_R_Int.ok (by simp) ?_
  simp (disch := omega) only [go_sem, ↓reduceIte, Nat.reduceEqDiff, Nat.reduceAdd, Nat.reduceMul, Nat.reduceSub, Nat.reduceLT, Nat.reduceLeDiff, Nat.reduceBEq, Nat.reduceLeDiff, reduceCtorEq, Int.reduceLT, Int.reduceEq, Int.reduceLE, Int.reduceAdd, Int.reduceSub, Int.reduceToNat, Int.reduceNeg, Int.toNat_natCast, beq_self_eq_true, wrap64, undef, Nat.zero_add, Nat.add_zero, Int.zero_add, Int.add_zero, Int.sub_zero, St.loadN_other, St.cell_other]
  refine wJ_of (F.osierref01_R_Uint_J h hb hL) ?_; rintro _ S1 ⟨rfl, hr, hbt⟩
  have hg := (rdU_good hb he).2.2.1
  unfold rdI unzz
  generalize (rdU bs e).1 = n at *
  have e1 : ((n : Nat) : Int).tmod 2 = ((n % 2 : Nat) : Int) := tmodN n 2
  have e2 : ((n : Nat) : Int).tdiv 2 = ((n / 2 : Nat) : Int) := tdivN n 2
  simp (disch := omega) only [go_sem, ↓reduceIte, Nat.reduceEqDiff, Nat.reduceAdd, Nat.reduceMul, Nat.reduceSub, Nat.reduceLT, Nat.reduceLeDiff, Nat.reduceBEq, Nat.reduceLeDiff, reduceCtorEq, Int.reduceLT, Int.reduceEq, Int.reduceLE, Int.reduceAdd, Int.reduceSub, Int.reduceToNat, Int.reduceNeg, Int.toNat_natCast, beq_self_eq_true, wrap64, undef, Nat.zero_add, Nat.add_zero, Int.zero_add, Int.add_zero, Int.sub_zero, St.loadN_other, St.cell_other, e1, e2]
  refine wcond_dec (fun h => ?_) (fun h => ?_)
  · simp (disch := omega) only [go_sem, ↓reduceIte, Nat.reduceEqDiff, Nat.reduceAdd, Nat.reduceMul, Nat.reduceSub, Nat.reduceLT, Nat.reduceLeDiff, Nat.reduceBEq, Nat.reduceLeDiff, reduceCtorEq, Int.reduceLT, Int.reduceEq, Int.reduceLE, Int.reduceAdd, Int.reduceSub, Int.reduceToNat, Int.reduceNeg, Int.toNat_natCast, beq_self_eq_true, wrap64, undef, Nat.zero_add, Nat.add_zero, Int.zero_add, Int.add_zero, Int.sub_zero, St.loadN_other, St.cell_other, e2, wrapu64]
    rw [if_pos (by omega)]
    exact ⟨rfl, hr, hbt⟩
  · simp (disch := omega) only [go_sem, ↓reduceIte, Nat.reduceEqDiff, Nat.reduceAdd, Nat.reduceMul, Nat.reduceSub, Nat.reduceLT, Nat.reduceLeDiff, Nat.reduceBEq, Nat.reduceLeDiff, reduceCtorEq, Int.reduceLT, Int.reduceEq, Int.reduceLE, Int.reduceAdd, Int.reduceSub, Int.reduceToNat, Int.reduceNeg, Int.toNat_natCast, beq_self_eq_true, wrap64, undef, Nat.zero_add, Nat.add_zero, Int.zero_add, Int.add_zero, Int.sub_zero, St.loadN_other, St.cell_other, e2, wrapu64]
    rw [if_neg (by omega)]
    refine ⟨?_, hr, hbt⟩
    congr 1
    omega
theorem rdI_good {bs : List Int} {e : Int} (hb : isB bs) (he : e ≠ 0 → bs = []) : isB (rdI bs e).2.1 ∧ ((rdI bs e).2.2 ≠ 0 → (rdI bs e).2.1 = []) ∧ (rdI bs e).2.1.length ≤ bs.length :=
  let h := rdU_good hb he; ⟨h.1, h.2.1, h.2.2.2⟩
/-- a dot, taken -/
def rdD (bs : List Int) (e : Int) : Dot × List Int × Int := (if (rdI (rdI bs e).2.1 (rdI bs e).2.2).2.2 ≠ 0 then (0, 0) else ((rdI bs e).1, (rdI (rdI bs e).2.1 (rdI bs e).2.2).1), (rdI (rdI bs e).2.1 (rdI bs e).2.2).2)
theorem rdD_good {bs : List Int} {e : Int} (hb : isB bs) (he : e ≠ 0 → bs = []) : isB (rdD bs e).2.1 ∧ ((rdD bs e).2.2 ≠ 0 → (rdD bs e).2.1 = []) ∧ (rdD bs e).2.1.length ≤ bs.length := by
  obtain ⟨h1, h2, h3⟩ := rdI_good hb he
  obtain ⟨g1, g2, g3⟩ := rdI_good h1 h2
  exact ⟨g1, g2, Nat.le_trans g3 h3⟩
theorem F.dots_Take_J {S : St} {q B : Nat} {bs : List Int} {e : Int} (h : RdT S q B bs e) (hBn : B ≤ S.n) (hb : isB bs) (he : e ≠ 0 → bs = []) (hL : bs.length < 1000000000) :
    J PR F.dots_Take [ptrV q] S fun v S' => v = dotV (rdD bs e).1 ∧ RdT S' q B (rdD bs e).2.1 (rdD bs e).2.2 ∧ St.But (ptrV q) S S' := by
  have hq := h.lt
  obtain ⟨h1, h2, h3⟩ := rdI_good hb he
  refine J_by PR.mixed F.dots_Take.ok (by simp) ?_
  simp (disch := omega) only [go_sem, ↓reduceIte, Nat.reduceEqDiff, Nat.reduceAdd, Nat.reduceMul, Nat.reduceSub, Nat.reduceLT, Nat.reduceLeDiff, Nat.reduceBEq, Nat.reduceLeDiff, reduceCtorEq, Int.reduceLT, Int.reduceEq, Int.reduceLE, Int.reduceAdd, Int.reduceSub, Int.reduceToNat, Int.reduceNeg, Int.toNat_natCast, beq_self_eq_true, wrap64, undef, Nat.zero_add, Nat.add_zero, Int.zero_add, Int.add_zero, Int.sub_zero, St.loadN_other, St.cell_other]
  refine wfresh_of fun x hx => ?_
  simp (disch := omega) only [go_sem, ↓reduceIte, Nat.reduceEqDiff, Nat.reduceAdd, Nat.reduceMul, Nat.reduceSub, Nat.reduceLT, Nat.reduceLeDiff, Nat.reduceBEq, Nat.reduceLeDiff, reduceCtorEq, Int.reduceLT, Int.reduceEq, Int.reduceLE, Int.reduceAdd, Int.reduceSub, Int.reduceToNat, Int.reduceNeg, Int.toNat_natCast, beq_self_eq_true, wrap64, undef, Nat.zero_add, Nat.add_zero, Int.zero_add, Int.add_zero, Int.sub_zero, St.loadN_other, St.cell_other]
  have he1 := (St.Ext.refl S).put hx (.cells true 2 [.int .i64 0, .int .i64 0])
  have hxn := St.lt_put_self S x (.cells true 2 [.int .i64 0, .int .i64 0])
  refine wJ_of (F.num_Reader_Int_J (h.but he1) hb he hL) ?_; rintro _ S2 ⟨rfl, hr2, hb2⟩
  have hx2 : S2.obj x = some (.cells true 2 [.int .i64 0, .int .i64 0]) := (hb2.obj x hxn (by simp [blkOf]; omega)).trans (St.put_same _ _ _)
  simp (disch := omega) only [go_sem, ↓reduceIte, Nat.reduceEqDiff, Nat.reduceAdd, Nat.reduceMul, Nat.reduceSub, Nat.reduceLT, Nat.reduceLeDiff, Nat.reduceBEq, Nat.reduceLeDiff, reduceCtorEq, Int.reduceLT, Int.reduceEq, Int.reduceLE, Int.reduceAdd, Int.reduceSub, Int.reduceToNat, Int.reduceNeg, Int.toNat_natCast, beq_self_eq_true, wrap64, undef, Nat.zero_add, Nat.add_zero, Int.zero_add, Int.add_zero, Int.sub_zero, St.loadN_other, St.cell_other]
  refine wJ_of (F.num_Reader_Int_J hr2 h1 h2 (by omega)) ?_; rintro _ S3 ⟨rfl, hr3, hb3⟩
  have hn2 := hb2.n
  have hn3 := hb3.n
  have hn1 := he1.n
  have hx3 : S3.obj x = some (.cells true 2 [.int .i64 0, .int .i64 0]) := (hb3.obj x (by omega) (by simp [blkOf]; omega)).trans hx2
  simp (disch := omega) only [go_sem, ↓reduceIte, Nat.reduceEqDiff, Nat.reduceAdd, Nat.reduceMul, Nat.reduceSub, Nat.reduceLT, Nat.reduceLeDiff, Nat.reduceBEq, Nat.reduceLeDiff, reduceCtorEq, Int.reduceLT, Int.reduceEq, Int.reduceLE, Int.reduceAdd, Int.reduceSub, Int.reduceToNat, Int.reduceNeg, Int.toNat_natCast, beq_self_eq_true, wrap64, undef, Nat.zero_add, Nat.add_zero, Int.zero_add, Int.add_zero, Int.sub_zero, St.loadN_other, St.cell_other]
  refine wfresh_of fun y hy => ?_
  simp (disch := omega) only [go_sem, ↓reduceIte, Nat.reduceEqDiff, Nat.reduceAdd, Nat.reduceMul, Nat.reduceSub, Nat.reduceLT, Nat.reduceLeDiff, Nat.reduceBEq, Nat.reduceLeDiff, reduceCtorEq, Int.reduceLT, Int.reduceEq, Int.reduceLE, Int.reduceAdd, Int.reduceSub, Int.reduceToNat, Int.reduceNeg, Int.toNat_natCast, beq_self_eq_true, wrap64, undef, Nat.zero_add, Nat.add_zero, Int.zero_add, Int.add_zero, Int.sub_zero, St.loadN_other, St.cell_other]
  have he4 := (St.Ext.refl S3).put hy (.cells true 2 [.int .i64 (rdI bs e).1, .int .i64 (rdI (rdI bs e).2.1 (rdI bs e).2.2).1])
  have hx4 : (S3.put y (.cells true 2 [.int .i64 (rdI bs e).1, .int .i64 (rdI (rdI bs e).2.1 (rdI bs e).2.2).1])).obj x = some (.cells true 2 [.int .i64 0, .int .i64 0]) := (he4.obj x (by omega)).trans hx3
  have hr4 := hr3.but he4
  have hb4 : St.But (ptrV q) S (S3.put y (.cells true 2 [.int .i64 (rdI bs e).1, .int .i64 (rdI (rdI bs e).2.1 (rdI bs e).2.2).1])) := ((he1.toBut.trans hb2).trans hb3).trans he4.toBut
  refine wJ_of (F.num_Reader_Err_J hr4) ?_; rintro _ _ ⟨rfl, rfl⟩
  have ly : (S3.put y (.cells true 2 [.int .i64 (rdI bs e).1, .int .i64 (rdI (rdI bs e).2.1 (rdI bs e).2.2).1])).loadN ⟨y, 0, none⟩ 2 = some [.int .i64 (rdI bs e).1, .int .i64 (rdI (rdI bs e).2.1 (rdI bs e).2.2).1] := by simp (disch := omega) only [go_sem, ↓reduceIte, Nat.reduceEqDiff, Nat.reduceAdd, Nat.reduceMul, Nat.reduceSub, Nat.reduceLT, Nat.reduceLeDiff, Nat.reduceBEq, Nat.reduceLeDiff, reduceCtorEq, Int.reduceLT, Int.reduceEq, Int.reduceLE, Int.reduceAdd, Int.reduceSub, Int.reduceToNat, Int.reduceNeg, Int.toNat_natCast, beq_self_eq_true, wrap64, undef, Nat.zero_add, Nat.add_zero, Int.zero_add, Int.add_zero, Int.sub_zero, St.loadN_other, St.cell_other]
  have hfin : ∀ cs, RdT ((S3.put y (.cells true 2 [.int .i64 (rdI bs e).1, .int .i64 (rdI (rdI bs e).2.1 (rdI bs e).2.2).1])).put x (.cells true 2 cs)) q B (rdD bs e).2.1 (rdD bs e).2.2 ∧ St.But (ptrV q) S ((S3.put y (.cells true 2 [.int .i64 (rdI bs e).1, .int .i64 (rdI (rdI bs e).2.1 (rdI bs e).2.2).1])).put x (.cells true 2 cs)) := by
    intro cs
    refine ⟨hr4.keep (by simp only [St.put_n]; omega) (St.put_other _ _ _ (by omega)) fun i hi _ => St.put_other _ _ _ (by omega), ⟨Nat.le_trans hb4.n (by simp only [St.put_n]; omega), fun i hi hne => ?_⟩⟩
    rw [St.put_other _ _ _ (by omega)]
    exact hb4.obj i hi hne
  have hrd : (rdD bs e).1 = if (rdI (rdI bs e).2.1 (rdI bs e).2.2).2.2 ≠ 0 then (0, 0) else ((rdI bs e).1, (rdI (rdI bs e).2.1 (rdI bs e).2.2).1) := rfl
  generalize S3.put y (.cells true 2 [.int .i64 (rdI bs e).1, .int .i64 (rdI (rdI bs e).2.1 (rdI bs e).2.2).1]) = S4 at *
  simp (disch := omega) only [go_sem, ↓reduceIte, Nat.reduceEqDiff, Nat.reduceAdd, Nat.reduceMul, Nat.reduceSub, Nat.reduceLT, Nat.reduceLeDiff, Nat.reduceBEq, Nat.reduceLeDiff, reduceCtorEq, Int.reduceLT, Int.reduceEq, Int.reduceLE, Int.reduceAdd, Int.reduceSub, Int.reduceToNat, Int.reduceNeg, Int.toNat_natCast, beq_self_eq_true, wrap64, undef, Nat.zero_add, Nat.add_zero, Int.zero_add, Int.add_zero, Int.sub_zero, St.loadN_other, St.cell_other]
  refine wcond_ndec (fun hz => ?_) (fun hz => ?_)
  · simp (disch := omega) only [go_sem, ↓reduceIte, Nat.reduceEqDiff, Nat.reduceAdd, Nat.reduceMul, Nat.reduceSub, Nat.reduceLT, Nat.reduceLeDiff, Nat.reduceBEq, Nat.reduceLeDiff, reduceCtorEq, Int.reduceLT, Int.reduceEq, Int.reduceLE, Int.reduceAdd, Int.reduceSub, Int.reduceToNat, Int.reduceNeg, Int.toNat_natCast, beq_self_eq_true, wrap64, undef, Nat.zero_add, Nat.add_zero, Int.zero_add, Int.add_zero, Int.sub_zero, St.loadN_other, St.cell_other]
    refine wst_of hx4 rfl rfl (by simp) (by simp) ?_
    simp (disch := omega) only [go_sem, ↓reduceIte, Nat.reduceEqDiff, Nat.reduceAdd, Nat.reduceMul, Nat.reduceSub, Nat.reduceLT, Nat.reduceLeDiff, Nat.reduceBEq, Nat.reduceLeDiff, reduceCtorEq, Int.reduceLT, Int.reduceEq, Int.reduceLE, Int.reduceAdd, Int.reduceSub, Int.reduceToNat, Int.reduceNeg, Int.toNat_natCast, beq_self_eq_true, wrap64, undef, Nat.zero_add, Nat.add_zero, Int.zero_add, Int.add_zero, Int.sub_zero, St.loadN_other, St.cell_other]
    rw [hrd, if_pos hz]
    exact ⟨rfl, hfin _⟩
  · simp (disch := omega) only [go_sem, ↓reduceIte, Nat.reduceEqDiff, Nat.reduceAdd, Nat.reduceMul, Nat.reduceSub, Nat.reduceLT, Nat.reduceLeDiff, Nat.reduceBEq, Nat.reduceLeDiff, reduceCtorEq, Int.reduceLT, Int.reduceEq, Int.reduceLE, Int.reduceAdd, Int.reduceSub, Int.reduceToNat, Int.reduceNeg, Int.toNat_natCast, beq_self_eq_true, wrap64, undef, Nat.zero_add, Nat.add_zero, Int.zero_add, Int.add_zero, Int.sub_zero, St.loadN_other, St.cell_other, ly]
    refine wst_of hx4 rfl rfl (by simp) (by simp) ?_
    simp (disch := omega) only [go_sem, ↓reduceIte, Nat.reduceEqDiff, Nat.reduceAdd, Nat.reduceMul, Nat.reduceSub, Nat.reduceLT, Nat.reduceLeDiff, Nat.reduceBEq, Nat.reduceLeDiff, reduceCtorEq, Int.reduceLT, Int.reduceEq, Int.reduceLE, Int.reduceAdd, Int.reduceSub, Int.reduceToNat, Int.reduceNeg, Int.toNat_natCast, beq_self_eq_true, wrap64, undef, Nat.zero_add, Nat.add_zero, Int.zero_add, Int.add_zero, Int.sub_zero, St.loadN_other, St.cell_other]
    rw [hrd, if_neg (by simpa using hz)]
    exact ⟨rfl, hfin _⟩
theorem F.osierref03_Take_J {S : St} {q B : Nat} {bs : List Int} {e : Int} (h : RdT S q B bs e) (hBn : B ≤ S.n) (hb : isB bs) (he : e ≠ 0 → bs = []) (hL : bs.length < 1000000000) :
    J PR F.osierref03_Take [ptrV q] S fun v S' => v = dotV (rdD bs e).1 ∧ RdT S' q B (rdD bs e).2.1 (rdD bs e).2.2 ∧ St.But (ptrV q) S S' := by
  have hq := h.lt
  obtain ⟨h1, h2, h3⟩ := rdI_good hb he
  refine J_by PR.mixed F.osierref03_Take.ok (by simp) ?_
  simp (disch := omega) only [go_sem, ↓reduceIte, Nat.reduceEqDiff, Nat.reduceAdd, Nat.reduceMul, Nat.reduceSub, Nat.reduceLT, Nat.reduceLeDiff, Nat.reduceBEq, Nat.reduceLeDiff, reduceCtorEq, Int.reduceLT, Int.reduceEq, Int.reduceLE, Int.reduceAdd, Int.reduceSub, Int.reduceToNat, Int.reduceNeg, Int.toNat_natCast, beq_self_eq_true, wrap64, undef, Nat.zero_add, Nat.add_zero, Int.zero_add, Int.add_zero, Int.sub_zero, St.loadN_other, St.cell_other]
  refine wfresh_of fun x hx => ?_
  simp (disch := omega) only [go_sem, ↓reduceIte, Nat.reduceEqDiff, Nat.reduceAdd, Nat.reduceMul, Nat.reduceSub, Nat.reduceLT, Nat.reduceLeDiff, Nat.reduceBEq, Nat.reduceLeDiff, reduceCtorEq, Int.reduceLT, Int.reduceEq, Int.reduceLE, Int.reduceAdd, Int.reduceSub, Int.reduceToNat, Int.reduceNeg, Int.toNat_natCast, beq_self_eq_true, wrap64, undef, Nat.zero_add, Nat.add_zero, Int.zero_add, Int.add_zero, Int.sub_zero, St.loadN_other, St.cell_other]
  have he1 := (St.Ext.refl S).put hx (.cells true 2 [.int .i64 0, .int .i64 0])
  have hxn := St.lt_put_self S x (.cells true 2 [.int .i64 0, .int .i64 0])
  refine wJ_of (F.osierref01_R_Int_J (h.but he1) hb he hL) ?_; rintro _ S2 ⟨rfl, hr2, hb2⟩
  have hx2 : S2.obj x = some (.cells true 2 [.int .i64 0, .int .i64 0]) := (hb2.obj x hxn (by simp [blkOf]; omega)).trans (St.put_same _ _ _)
  simp (disch := omega) only [go_sem, ↓reduceIte, Nat.reduceEqDiff, Nat.reduceAdd, Nat.reduceMul, Nat.reduceSub, Nat.reduceLT, Nat.reduceLeDiff, Nat.reduceBEq, Nat.reduceLeDiff, reduceCtorEq, Int.reduceLT, Int.reduceEq, Int.reduceLE, Int.reduceAdd, Int.reduceSub, Int.reduceToNat, Int.reduceNeg, Int.toNat_natCast, beq_self_eq_true, wrap64, undef, Nat.zero_add, Nat.add_zero, Int.zero_add, Int.add_zero, Int.sub_zero, St.loadN_other, St.cell_other]
  refine wJ_of (F.osierref01_R_Int_J hr2 h1 h2 (by omega)) ?_; rintro _ S3 ⟨rfl, hr3, hb3⟩
  have hn2 := hb2.n
  have hn3 := hb3.n
  have hn1 := he1.n
  have hx4 : S3.obj x = some (.cells true 2 [.int .i64 0, .int .i64 0]) := (hb3.obj x (by omega) (by simp [blkOf]; omega)).trans hx2
  have hb4 : St.But (ptrV q) S S3 := (he1.toBut.trans hb2).trans hb3
  have hfin : ∀ cs, RdT (S3.put x (.cells true 2 cs)) q B (rdD bs e).2.1 (rdD bs e).2.2 ∧ St.But (ptrV q) S (S3.put x (.cells true 2 cs)) := by
    intro cs
    refine ⟨hr3.keep (by simp only [St.put_n]; omega) (St.put_other _ _ _ (by omega)) fun i hi _ => St.put_other _ _ _ (by omega), ⟨Nat.le_trans hb4.n (by simp only [St.put_n]; omega), fun i hi hne => ?_⟩⟩
    rw [St.put_other _ _ _ (by omega)]
    exact hb4.obj i hi hne
  have hrd : (rdD bs e).1 = if (rdI (rdI bs e).2.1 (rdI bs e).2.2).2.2 ≠ 0 then (0, 0) else ((rdI bs e).1, (rdI (rdI bs e).2.1 (rdI bs e).2.2).1) := rfl
  have c1 := hr3.cell1
  simp (disch := omega) only [go_sem, ↓reduceIte, Nat.reduceEqDiff, Nat.reduceAdd, Nat.reduceMul, Nat.reduceSub, Nat.reduceLT, Nat.reduceLeDiff, Nat.reduceBEq, Nat.reduceLeDiff, reduceCtorEq, Int.reduceLT, Int.reduceEq, Int.reduceLE, Int.reduceAdd, Int.reduceSub, Int.reduceToNat, Int.reduceNeg, Int.toNat_natCast, beq_self_eq_true, wrap64, undef, Nat.zero_add, Nat.add_zero, Int.zero_add, Int.add_zero, Int.sub_zero, St.loadN_other, St.cell_other, c1]
  refine wcond_ndec (fun hz => ?_) (fun hz => ?_)
  · simp (disch := omega) only [go_sem, ↓reduceIte, Nat.reduceEqDiff, Nat.reduceAdd, Nat.reduceMul, Nat.reduceSub, Nat.reduceLT, Nat.reduceLeDiff, Nat.reduceBEq, Nat.reduceLeDiff, reduceCtorEq, Int.reduceLT, Int.reduceEq, Int.reduceLE, Int.reduceAdd, Int.reduceSub, Int.reduceToNat, Int.reduceNeg, Int.toNat_natCast, beq_self_eq_true, wrap64, undef, Nat.zero_add, Nat.add_zero, Int.zero_add, Int.add_zero, Int.sub_zero, St.loadN_other, St.cell_other]
    refine wst_of hx4 rfl rfl (by simp) (by simp) ?_
    simp (disch := omega) only [go_sem, ↓reduceIte, Nat.reduceEqDiff, Nat.reduceAdd, Nat.reduceMul, Nat.reduceSub, Nat.reduceLT, Nat.reduceLeDiff, Nat.reduceBEq, Nat.reduceLeDiff, reduceCtorEq, Int.reduceLT, Int.reduceEq, Int.reduceLE, Int.reduceAdd, Int.reduceSub, Int.reduceToNat, Int.reduceNeg, Int.toNat_natCast, beq_self_eq_true, wrap64, undef, Nat.zero_add, Nat.add_zero, Int.zero_add, Int.add_zero, Int.sub_zero, St.loadN_other, St.cell_other]
    rw [hrd, if_pos hz]
    exact ⟨rfl, hfin _⟩
  · simp (disch := omega) only [go_sem, ↓reduceIte, Nat.reduceEqDiff, Nat.reduceAdd, Nat.reduceMul, Nat.reduceSub, Nat.reduceLT, Nat.reduceLeDiff, Nat.reduceBEq, Nat.reduceLeDiff, reduceCtorEq, Int.reduceLT, Int.reduceEq, Int.reduceLE, Int.reduceAdd, Int.reduceSub, Int.reduceToNat, Int.reduceNeg, Int.toNat_natCast, beq_self_eq_true, wrap64, undef, Nat.zero_add, Nat.add_zero, Int.zero_add, Int.add_zero, Int.sub_zero, St.loadN_other, St.cell_other]
    refine wst_of hx4 rfl rfl (by simp) (by simp) ?_
    simp (disch := omega) only [go_sem, ↓reduceIte, Nat.reduceEqDiff, Nat.reduceAdd, Nat.reduceMul, Nat.reduceSub, Nat.reduceLT, Nat.reduceLeDiff, Nat.reduceBEq, Nat.reduceLeDiff, reduceCtorEq, Int.reduceLT, Int.reduceEq, Int.reduceLE, Int.reduceAdd, Int.reduceSub, Int.reduceToNat, Int.reduceNeg, Int.toNat_natCast, beq_self_eq_true, wrap64, undef, Nat.zero_add, Nat.add_zero, Int.zero_add, Int.add_zero, Int.sub_zero, St.loadN_other, St.cell_other]
    rw [hrd, if_neg (by simpa using hz)]
    exact ⟨rfl, hfin _⟩
end Go.Osj
