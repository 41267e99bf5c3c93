/- The law VectorBytes. -/
import Derived.Test.YtnofakkcipcphaaC4
import Derived.Test.YtnofakkcipcphaaUC
set_option linter.unusedSimpArgs false
namespace Go.Osj
def encD (d : Dot) : List Int := encI d.1 ++ encI d.2
def encDs (xs : List Dot) : List Int := xs.flatMap encD
def encV (xs : List Dot) : List Int := encN xs.length ++ encDs xs
theorem encDs_snoc (xs : List Dot) (d : Dot) : encDs (xs ++ [d]) = encDs xs ++ encD d := by simp [encDs]
theorem encN_pos (n : Nat) : 1 ≤ (encN n).length := by rw [encN_len]; exact (sizeN_range n).1
theorem encD_len (d : Dot) : 2 ≤ (encD d).length ∧ (encD d).length ≤ 18 := by
  have h1 := encI_len d.1
  have h2 := encI_len d.2
  have h3 := encN_pos (zzN d.1)
  have h4 := encN_pos (zzN d.2)
  unfold encD
  rw [List.length_append]
  unfold encI at *
  omega
theorem encDs_len (xs : List Dot) : 2 * xs.length ≤ (encDs xs).length ∧ (encDs xs).length ≤ 18 * xs.length := by
  induction xs with
  | nil => simp [encDs]
  | cons d xs ih =>
    have := encD_len d
    have e : encDs (d :: xs) = encD d ++ encDs xs := rfl
    rw [e, List.length_append, List.length_cons]
    omega
theorem may_inI {d : Dot} (h : mayP d) : inI d.1 ∧ inI d.2 := by unfold mayP at h; unfold inI; omega
theorem isB_encD {d : Dot} (h : mayP d) : isB (encD d) := isB_append (isB_enc (zzN_lt (may_inI h).1)) (isB_enc (zzN_lt (may_inI h).2))
theorem isB_encDs {xs : List Dot} (h : ∀ d ∈ xs, mayP d) : isB (encDs xs) := by
  intro b hb
  obtain ⟨d, hd, hb⟩ := List.mem_flatMap.1 hb
  exact isB_encD (h d hd) b hb

theorem F.vector_Put_J {S : St} {l k : Value} {bs : List Int} {xs : List Dot} (hl : SlT byteE S l bs) (hk : SlT dotE S k xs) (hx : ∀ d ∈ xs, mayP d) (hL : bs.length < 100000) (hL2 : xs.length < 100000) :
    J PR F.vector_Put [l, k] S fun v S' => OwnT byteE S.n S' v (bs ++ encV xs) ∧ S.Ext S' := by
  obtain ⟨base, cap, rfl⟩ := hk.len dotE
  refine J_by PR.mixed F.vector_Put.ok (by simp) ?_
  simp (disch := omega) only [go_sem, ↓reduceIte, Nat.reduceEqDiff, Nat.reduceAdd, Nat.reduceMul, Nat.reduceSub, Nat.reduceLT, Nat.reduceLeDiff, Nat.reduceBEq, Nat.reduceLeDiff, reduceCtorEq, Int.reduceLT, Int.reduceEq, Int.reduceLE, Int.reduceAdd, Int.reduceSub, Int.reduceToNat, Int.reduceNeg, Int.toNat_natCast, beq_self_eq_true, wrap64, undef, Nat.zero_add, Nat.add_zero, Int.zero_add, Int.add_zero, Int.sub_zero, St.loadN_other, St.cell_other, wrapu64]
  refine wJ_of (F.num_Uint_J hl (by omega) (by omega)) ?_; rintro v1 S1 ⟨ho1, he1⟩
  have hn9 : (encN xs.length).length ≤ 9 := by rw [encN_len]; exact (sizeN_range _).2
  simp (disch := omega) only [go_sem, ↓reduceIte, Nat.reduceEqDiff, Nat.reduceAdd, Nat.reduceMul, Nat.reduceSub, Nat.reduceLT, Nat.reduceLeDiff, Nat.reduceBEq, Nat.reduceLeDiff, reduceCtorEq, Int.reduceLT, Int.reduceEq, Int.reduceLE, Int.reduceAdd, Int.reduceSub, Int.reduceToNat, Int.reduceNeg, Int.toNat_natCast, beq_self_eq_true, wrap64, undef, Nat.zero_add, Nat.add_zero, Int.zero_add, Int.add_zero, Int.sub_zero, St.loadN_other, St.cell_other]
  refine wC_loop (fun n fr S' => ∃ (i : Nat) (v : Value), n = xs.length - i ∧ i ≤ xs.length ∧ fr 0 = v ∧ fr 12 = .slice base xs.length cap ∧ fr 13 = .int .i64 xs.length ∧ fr 14 = .int .i64 (i : Nat) ∧ S.Ext S' ∧ OwnT byteE S.n S' v (bs ++ (encN xs.length ++ encDs (xs.take i)))) xs.length
    ⟨0, v1, by simp (disch := omega) only [go_sem, ↓reduceIte, Nat.reduceEqDiff, Nat.reduceAdd, Nat.reduceMul, Nat.reduceSub, Nat.reduceLT, Nat.reduceLeDiff, Nat.reduceBEq, Nat.reduceLeDiff, reduceCtorEq, Int.reduceLT, Int.reduceEq, Int.reduceLE, Int.reduceAdd, Int.reduceSub, Int.reduceToNat, Int.reduceNeg, Int.toNat_natCast, beq_self_eq_true, wrap64, undef, Nat.zero_add, Nat.add_zero, Int.zero_add, Int.add_zero, Int.sub_zero, St.loadN_other, St.cell_other]; exact ⟨by simp, by simp, he1, by simpa [encDs] using ho1⟩⟩ ?_
  rintro n fr S2 ⟨i, v, rfl, hi, h0, h12, h13, h14, he, ho⟩
  simp (disch := omega) only [go_sem, ↓reduceIte, Nat.reduceEqDiff, Nat.reduceAdd, Nat.reduceMul, Nat.reduceSub, Nat.reduceLT, Nat.reduceLeDiff, Nat.reduceBEq, Nat.reduceLeDiff, reduceCtorEq, Int.reduceLT, Int.reduceEq, Int.reduceLE, Int.reduceAdd, Int.reduceSub, Int.reduceToNat, Int.reduceNeg, Int.toNat_natCast, beq_self_eq_true, wrap64, undef, Nat.zero_add, Nat.add_zero, Int.zero_add, Int.add_zero, Int.sub_zero, St.loadN_other, St.cell_other, F.vector_Put.l0, h0, h12, h13, h14]
  refine wcond_dec (fun hlt => ?_) (fun hge => ?_)
  · have hlx : i < xs.length := by omega
    obtain ⟨b, off, rfl, hb, hx0⟩ := (hk.ext dotE he).dot hlx
    have c1 : (0 : Int) ≤ (i : Int) ∧ (i : Int) < (xs.length : Int) := by omega
    simp (disch := omega) only [go_sem, ↓reduceIte, Nat.reduceEqDiff, Nat.reduceAdd, Nat.reduceMul, Nat.reduceSub, Nat.reduceLT, Nat.reduceLeDiff, Nat.reduceBEq, Nat.reduceLeDiff, reduceCtorEq, Int.reduceLT, Int.reduceEq, Int.reduceLE, Int.reduceAdd, Int.reduceSub, Int.reduceToNat, Int.reduceNeg, Int.toNat_natCast, beq_self_eq_true, wrap64, undef, Nat.zero_add, Nat.add_zero, Int.zero_add, Int.add_zero, Int.sub_zero, St.loadN_other, St.cell_other, h0, h12, h13, h14, c1, hx0]
    refine wfresh_of fun w hw => ?_
    simp (disch := omega) only [go_sem, ↓reduceIte, Nat.reduceEqDiff, Nat.reduceAdd, Nat.reduceMul, Nat.reduceSub, Nat.reduceLT, Nat.reduceLeDiff, Nat.reduceBEq, Nat.reduceLeDiff, reduceCtorEq, Int.reduceLT, Int.reduceEq, Int.reduceLE, Int.reduceAdd, Int.reduceSub, Int.reduceToNat, Int.reduceNeg, Int.toNat_natCast, beq_self_eq_true, wrap64, undef, Nat.zero_add, Nat.add_zero, Int.zero_add, Int.add_zero, Int.sub_zero, St.loadN_other, St.cell_other, h0, h12, h13, h14]
    have he3 := he.put hw (.cells true 2 [.int .i64 xs[i].1, .int .i64 xs[i].2])
    have hm := may_inI (hx xs[i] (List.getElem_mem _))
    have hlen := (encDs_len (xs.take i)).2
    simp only [List.length_take] at hlen
    refine wJ_of (F.dots_Put_J (ho.ext byteE ((St.Ext.refl S2).put hw _) |>.sl byteE) hm.1 hm.2 (by simp only [List.length_append]; omega)) ?_; rintro v3 S3 ⟨ho3, he4⟩
    simp (disch := omega) only [go_sem, ↓reduceIte, Nat.reduceEqDiff, Nat.reduceAdd, Nat.reduceMul, Nat.reduceSub, Nat.reduceLT, Nat.reduceLeDiff, Nat.reduceBEq, Nat.reduceLeDiff, reduceCtorEq, Int.reduceLT, Int.reduceEq, Int.reduceLE, Int.reduceAdd, Int.reduceSub, Int.reduceToNat, Int.reduceNeg, Int.toNat_natCast, beq_self_eq_true, wrap64, undef, Nat.zero_add, Nat.add_zero, Int.zero_add, Int.add_zero, Int.sub_zero, St.loadN_other, St.cell_other, h12, h13, h14]
    refine ⟨xs.length - (i + 1), by omega, i + 1, _, rfl, by omega, rfl, rfl, he3.trans he4, ?_⟩
    rw [take_snoc (List.getElem?_eq_getElem hlx), encDs_snoc]
    have := ho3.mono byteE (B' := S.n) he3.n
    simpa [encD] using this
  · simp (disch := omega) only [go_sem, ↓reduceIte, Nat.reduceEqDiff, Nat.reduceAdd, Nat.reduceMul, Nat.reduceSub, Nat.reduceLT, Nat.reduceLeDiff, Nat.reduceBEq, Nat.reduceLeDiff, reduceCtorEq, Int.reduceLT, Int.reduceEq, Int.reduceLE, Int.reduceAdd, Int.reduceSub, Int.reduceToNat, Int.reduceNeg, Int.toNat_natCast, beq_self_eq_true, wrap64, undef, Nat.zero_add, Nat.add_zero, Int.zero_add, Int.add_zero, Int.sub_zero, St.loadN_other, St.cell_other, h0]
    rw [List.take_of_length_le (by omega)] at ho
    exact ⟨ho, he⟩
theorem F.osierref04_Put_J {S : St} {k : Value} {xs : List Dot} (hk : SlT dotE S k xs) (hx : ∀ d ∈ xs, mayP d) (hL2 : xs.length < 100000) :
    J PR F.osierref04_Put [k] S fun v S' => OwnT byteE S.n S' v (encV xs) ∧ S.Ext S' := by
  obtain ⟨base, cap, rfl⟩ := hk.len dotE
  refine J_by PR.mixed F.osierref04_Put.ok (by simp) ?_
  simp (disch := omega) only [go_sem, ↓reduceIte, Nat.reduceEqDiff, Nat.reduceAdd, Nat.reduceMul, Nat.reduceSub, Nat.reduceLT, Nat.reduceLeDiff, Nat.reduceBEq, Nat.reduceLeDiff, reduceCtorEq, Int.reduceLT, Int.reduceEq, Int.reduceLE, Int.reduceAdd, Int.reduceSub, Int.reduceToNat, Int.reduceNeg, Int.toNat_natCast, beq_self_eq_true, wrap64, undef, Nat.zero_add, Nat.add_zero, Int.zero_add, Int.add_zero, Int.sub_zero, St.loadN_other, St.cell_other, wrapu64]
  refine wJ_of (F.osierref01_Uint_J (by omega)) ?_; rintro v1 S1 ⟨ho1, he1⟩
  have hn9 : (encN xs.length).length ≤ 9 := by rw [encN_len]; exact (sizeN_range _).2
  simp (disch := omega) only [go_sem, ↓reduceIte, Nat.reduceEqDiff, Nat.reduceAdd, Nat.reduceMul, Nat.reduceSub, Nat.reduceLT, Nat.reduceLeDiff, Nat.reduceBEq, Nat.reduceLeDiff, reduceCtorEq, Int.reduceLT, Int.reduceEq, Int.reduceLE, Int.reduceAdd, Int.reduceSub, Int.reduceToNat, Int.reduceNeg, Int.toNat_natCast, beq_self_eq_true, wrap64, undef, Nat.zero_add, Nat.add_zero, Int.zero_add, Int.add_zero, Int.sub_zero, St.loadN_other, St.cell_other]
  refine wC_loop (fun n fr S' => ∃ (i : Nat) (v : Value), n = xs.length - i ∧ i ≤ xs.length ∧ fr 0 = .slice base xs.length cap ∧ fr 3 = v ∧ fr 4 = .int .i64 (i : Nat) ∧ S.Ext S' ∧ OwnT byteE S.n S' v (encN xs.length ++ encDs (xs.take i))) xs.length
    ⟨0, v1, by simp (disch := omega) only [go_sem, ↓reduceIte, Nat.reduceEqDiff, Nat.reduceAdd, Nat.reduceMul, Nat.reduceSub, Nat.reduceLT, Nat.reduceLeDiff, Nat.reduceBEq, Nat.reduceLeDiff, reduceCtorEq, Int.reduceLT, Int.reduceEq, Int.reduceLE, Int.reduceAdd, Int.reduceSub, Int.reduceToNat, Int.reduceNeg, Int.toNat_natCast, beq_self_eq_true, wrap64, undef, Nat.zero_add, Nat.add_zero, Int.zero_add, Int.add_zero, Int.sub_zero, St.loadN_other, St.cell_other]; exact ⟨by simp, by simp, he1, by simpa [encDs] using ho1⟩⟩ ?_
  rintro n fr S2 ⟨i, v, rfl, hi, h0, h3, h4, he, ho⟩
  simp (disch := omega) only [go_sem, ↓reduceIte, Nat.reduceEqDiff, Nat.reduceAdd, Nat.reduceMul, Nat.reduceSub, Nat.reduceLT, Nat.reduceLeDiff, Nat.reduceBEq, Nat.reduceLeDiff, reduceCtorEq, Int.reduceLT, Int.reduceEq, Int.reduceLE, Int.reduceAdd, Int.reduceSub, Int.reduceToNat, Int.reduceNeg, Int.toNat_natCast, beq_self_eq_true, wrap64, undef, Nat.zero_add, Nat.add_zero, Int.zero_add, Int.add_zero, Int.sub_zero, St.loadN_other, St.cell_other, F.osierref04_Put.l0, h0, h3, h4]
  refine wcond_dec (fun hlt => ?_) (fun hge => ?_)
  · have hlx : i < xs.length := by omega
    obtain ⟨b, off, rfl, hb, hx0⟩ := (hk.ext dotE he).dot hlx
    have c1 : (0 : Int) ≤ (i : Int) ∧ (i : Int) < (xs.length : Int) := by omega
    simp (disch := omega) only [go_sem, ↓reduceIte, Nat.reduceEqDiff, Nat.reduceAdd, Nat.reduceMul, Nat.reduceSub, Nat.reduceLT, Nat.reduceLeDiff, Nat.reduceBEq, Nat.reduceLeDiff, reduceCtorEq, Int.reduceLT, Int.reduceEq, Int.reduceLE, Int.reduceAdd, Int.reduceSub, Int.reduceToNat, Int.reduceNeg, Int.toNat_natCast, beq_self_eq_true, wrap64, undef, Nat.zero_add, Nat.add_zero, Int.zero_add, Int.add_zero, Int.sub_zero, St.loadN_other, St.cell_other, h0, h3, h4, c1, hx0]
    have hm := may_inI (hx xs[i] (List.getElem_mem _))
    have hlen := (encDs_len (xs.take i)).2
    simp only [List.length_take] at hlen
    have hdl := (encD_len xs[i]).2
    refine wJ_of (F.osierref03_Put_J hm.1 hm.2) ?_; rintro v3 S3 ⟨ho3, he4⟩
    simp (disch := omega) only [go_sem, ↓reduceIte, Nat.reduceEqDiff, Nat.reduceAdd, Nat.reduceMul, Nat.reduceSub, Nat.reduceLT, Nat.reduceLeDiff, Nat.reduceBEq, Nat.reduceLeDiff, reduceCtorEq, Int.reduceLT, Int.reduceEq, Int.reduceLE, Int.reduceAdd, Int.reduceSub, Int.reduceToNat, Int.reduceNeg, Int.toNat_natCast, beq_self_eq_true, wrap64, undef, Nat.zero_add, Nat.add_zero, Int.zero_add, Int.add_zero, Int.sub_zero, St.loadN_other, St.cell_other, h0, h3, h4]
    refine wE_app byteE (ys := encD xs[i]) (ho.ext byteE he4) (ho3.sl byteE) rfl rfl (he.trans he4).n (by simp only [List.length_append]; omega) (by simp only [List.length_append]; omega) fun v8 S8 ho8 hb8 hv8 => ?_
    simp (disch := omega) only [go_sem, ↓reduceIte, Nat.reduceEqDiff, Nat.reduceAdd, Nat.reduceMul, Nat.reduceSub, Nat.reduceLT, Nat.reduceLeDiff, Nat.reduceBEq, Nat.reduceLeDiff, reduceCtorEq, Int.reduceLT, Int.reduceEq, Int.reduceLE, Int.reduceAdd, Int.reduceSub, Int.reduceToNat, Int.reduceNeg, Int.toNat_natCast, beq_self_eq_true, wrap64, undef, Nat.zero_add, Nat.add_zero, Int.zero_add, Int.add_zero, Int.sub_zero, St.loadN_other, St.cell_other, h0, h3, h4]
    refine ⟨xs.length - (i + 1), by omega, i + 1, _, rfl, by omega, rfl, rfl, (he.trans he4).but hb8 (ho.fresh byteE), ?_⟩
    rw [take_snoc (List.getElem?_eq_getElem hlx), encDs_snoc]
    simpa using ho8
  · simp (disch := omega) only [go_sem, ↓reduceIte, Nat.reduceEqDiff, Nat.reduceAdd, Nat.reduceMul, Nat.reduceSub, Nat.reduceLT, Nat.reduceLeDiff, Nat.reduceBEq, Nat.reduceLeDiff, reduceCtorEq, Int.reduceLT, Int.reduceEq, Int.reduceLE, Int.reduceAdd, Int.reduceSub, Int.reduceToNat, Int.reduceNeg, Int.toNat_natCast, beq_self_eq_true, wrap64, undef, Nat.zero_add, Nat.add_zero, Int.zero_add, Int.add_zero, Int.sub_zero, St.loadN_other, St.cell_other, h3]
    rw [List.take_of_length_le (by omega)] at ho
    exact ⟨ho, he⟩

/-! ### taken -/
theorem rdU_err {bs : List Int} {e : Int} (h : (rdU bs e).2.2 ≠ 0) : (rdU bs e).1 = 0 := by
  by_cases h0 : e = 0
  · subst h0
    cases bs with
    | nil => simp [rdU]
    | cons b r =>
      simp only [rdU, ne_eq, not_true_eq_false, if_false] at h ⊢
      split
      · rfl
      · rename_i h1
        rw [if_neg h1] at h
        split
        · rename_i h2
          rw [if_pos h2] at h
          simp at h
        · rfl
  · simp [rdU, h0]
/-- a count of things of two bytes at least, taken -/
def rdC (bs : List Int) (e : Int) : Nat × List Int × Int := if (rdU bs e).2.1.length / 2 < (rdU bs e).1 then (0, [], 10) else rdU bs e
theorem rdC_good {bs : List Int} {e : Int} (hb : isB bs) (he : e ≠ 0 → bs = []) : isB (rdC bs e).2.1 ∧ ((rdC bs e).2.2 ≠ 0 → (rdC bs e).2.1 = []) ∧ (rdC bs e).1 ≤ bs.length ∧ (rdC bs e).2.1.length ≤ bs.length := by
  obtain ⟨h1, h2, h3, h4⟩ := rdU_good hb he
  unfold rdC
  split
  · simp [isB]
  · exact ⟨h1, h2, by omega, h4⟩
theorem F.num_Reader_Count_J {S : St} {q B : Nat} {bs : List Int} {e : Int} (h : RdT S q B bs e) (hb : isB bs) (he : e ≠ 0 → bs = []) (hL : bs.length < 1000000000) :
    J PR F.num_Reader_Count [ptrV q, .int .i64 2] S fun v S' => v = .int .i64 (rdC bs e).1 ∧ RdT S' q B (rdC bs e).2.1 (rdC bs e).2.2 ∧ St.But (ptrV q) S S' := by
  refine J_by PR.mixed F.num_Reader_Count.ok (by simp) ?_
  simp (disch := omega) only [go_sem, ↓reduceIte, Nat.reduceEqDiff, Nat.reduceAdd, Nat.reduceMul, Nat.reduceSub, Nat.reduceLT, Nat.reduceLeDiff, Nat.reduceBEq, Nat.reduceLeDiff, reduceCtorEq, Int.reduceLT, Int.reduceEq, Int.reduceLE, Int.reduceAdd, Int.reduceSub, Int.reduceToNat, Int.reduceNeg, Int.toNat_natCast, beq_self_eq_true, wrap64, undef, Nat.zero_add, Nat.add_zero, Int.zero_add, Int.add_zero, Int.sub_zero, St.loadN_other, St.cell_other]
  refine wJ_of (F.num_Reader_Uint_J h hb he hL) ?_; rintro _ S1 ⟨rfl, hr, hbt⟩
  obtain ⟨g1, g2, g3, g4⟩ := rdU_good hb he
  have gerr := rdU_err (bs := bs) (e := e)
  simp (disch := omega) only [go_sem, ↓reduceIte, Nat.reduceEqDiff, Nat.reduceAdd, Nat.reduceMul, Nat.reduceSub, Nat.reduceLT, Nat.reduceLeDiff, Nat.reduceBEq, Nat.reduceLeDiff, reduceCtorEq, Int.reduceLT, Int.reduceEq, Int.reduceLE, Int.reduceAdd, Int.reduceSub, Int.reduceToNat, Int.reduceNeg, Int.toNat_natCast, beq_self_eq_true, wrap64, undef, Nat.zero_add, Nat.add_zero, Int.zero_add, Int.add_zero, Int.sub_zero, St.loadN_other, St.cell_other]
  refine wJ_of (F.num_Reader_Left_J hr) ?_; rintro _ _ ⟨rfl, rfl⟩
  unfold rdC
  generalize rdU bs e = u at *
  obtain ⟨n, bs2, e2⟩ := u
  simp only at *
  have e1 : ((bs2.length : Nat) : Int).tdiv 2 = ((bs2.length / 2 : Nat) : Int) := tdivN _ 2
  have e3 : IntKind.i64.wrap ((bs2.length / 2 : Nat) : Int) = ((bs2.length / 2 : Nat) : Int) := wrap64 (by omega) (by omega)
  have hmx : max (2 : Int) 1 = 2 := by decide
  simp (disch := omega) only [go_sem, ↓reduceIte, Nat.reduceEqDiff, Nat.reduceAdd, Nat.reduceMul, Nat.reduceSub, Nat.reduceLT, Nat.reduceLeDiff, Nat.reduceBEq, Nat.reduceLeDiff, reduceCtorEq, Int.reduceLT, Int.reduceEq, Int.reduceLE, Int.reduceAdd, Int.reduceSub, Int.reduceToNat, Int.reduceNeg, Int.toNat_natCast, beq_self_eq_true, wrap64, undef, Nat.zero_add, Nat.add_zero, Int.zero_add, Int.add_zero, Int.sub_zero, St.loadN_other, St.cell_other, hmx, e1, e3, wrapu64]
  refine wcond_dec (fun hc => ?_) (fun hc => ?_)
  · simp (disch := omega) only [go_sem, ↓reduceIte, Nat.reduceEqDiff, Nat.reduceAdd, Nat.reduceMul, Nat.reduceSub, Nat.reduceLT, Nat.reduceLeDiff, Nat.reduceBEq, Nat.reduceLeDiff, reduceCtorEq, Int.reduceLT, Int.reduceEq, Int.reduceLE, Int.reduceAdd, Int.reduceSub, Int.reduceToNat, Int.reduceNeg, Int.toNat_natCast, beq_self_eq_true, wrap64, undef, Nat.zero_add, Nat.add_zero, Int.zero_add, Int.add_zero, Int.sub_zero, St.loadN_other, St.cell_other]
    refine wJ_of (F.num_Reader_Fail_J (x := 10) hr (by decide)) ?_; rintro _ S3 ⟨rfl, hr3, hb3⟩
    simp (disch := omega) only [go_sem, ↓reduceIte, Nat.reduceEqDiff, Nat.reduceAdd, Nat.reduceMul, Nat.reduceSub, Nat.reduceLT, Nat.reduceLeDiff, Nat.reduceBEq, Nat.reduceLeDiff, reduceCtorEq, Int.reduceLT, Int.reduceEq, Int.reduceLE, Int.reduceAdd, Int.reduceSub, Int.reduceToNat, Int.reduceNeg, Int.toNat_natCast, beq_self_eq_true, wrap64, undef, Nat.zero_add, Nat.add_zero, Int.zero_add, Int.add_zero, Int.sub_zero, St.loadN_other, St.cell_other]
    have hn : e2 = 0 := by
      by_cases h0 : e2 = 0
      · exact h0
      · have := gerr h0
        omega
    rw [if_pos (by omega)]
    subst hn
    exact ⟨rfl, by simpa using hr3, hbt.trans hb3⟩
  · simp (disch := omega) only [go_sem, ↓reduceIte, Nat.reduceEqDiff, Nat.reduceAdd, Nat.reduceMul, Nat.reduceSub, Nat.reduceLT, Nat.reduceLeDiff, Nat.reduceBEq, Nat.reduceLeDiff, reduceCtorEq, Int.reduceLT, Int.reduceEq, Int.reduceLE, Int.reduceAdd, Int.reduceSub, Int.reduceToNat, Int.reduceNeg, Int.toNat_natCast, beq_self_eq_true, wrap64, undef, Nat.zero_add, Nat.add_zero, Int.zero_add, Int.add_zero, Int.sub_zero, St.loadN_other, St.cell_other]
    rw [if_neg (by omega)]
    exact ⟨rfl, hr, hbt⟩
theorem F.osierref01_R_Count_J {S : St} {q B : Nat} {bs : List Int} {e : Int} (h : RdT S q B bs e) (hb : isB bs) (he : e ≠ 0 → bs = []) (hL : bs.length < 1000000000) :
    J PR F.osierref01_R_Count [ptrV q, .int .i64 2] S fun v S' => v = .int .i64 (rdC bs e).1 ∧ RdT S' q B (rdC bs e).2.1 (rdC bs e).2.2 ∧ St.But (ptrV q) S S' := by
  refine J_by PR.mixed F.osierref01_R_Count.ok (by simp) ?_
  simp (disch := omega) only [go_sem, ↓reduceIte, Nat.reduceEqDiff, Nat.reduceAdd, Nat.reduceMul, Nat.reduceSub, Nat.reduceLT, Nat.reduceLeDiff, Nat.reduceBEq, Nat.reduceLeDiff, reduceCtorEq, Int.reduceLT, Int.reduceEq, Int.reduceLE, Int.reduceAdd, Int.reduceSub, Int.reduceToNat, Int.reduceNeg, Int.toNat_natCast, beq_self_eq_true, wrap64, undef, Nat.zero_add, Nat.add_zero, Int.zero_add, Int.add_zero, Int.sub_zero, St.loadN_other, St.cell_other]
  refine wJ_of (F.osierref01_R_Uint_J h hb hL) ?_; rintro _ S1 ⟨rfl, hr, hbt⟩
  obtain ⟨g1, g2, g3, g4⟩ := rdU_good hb he
  have gerr := rdU_err (bs := bs) (e := e)
  obtain ⟨v, c0, -, hs, -⟩ := hr.cell0
  obtain ⟨bv, cv, rfl⟩ := hs.len byteE
  unfold rdC
  generalize rdU bs e = u at *
  obtain ⟨n, bs2, e2⟩ := u
  simp only at *
  have e1 : ((bs2.length : Nat) : Int).tdiv 2 = ((bs2.length / 2 : Nat) : Int) := tdivN _ 2
  have e3 : IntKind.i64.wrap ((bs2.length / 2 : Nat) : Int) = ((bs2.length / 2 : Nat) : Int) := wrap64 (by omega) (by omega)
  simp (disch := omega) only [go_sem, ↓reduceIte, Nat.reduceEqDiff, Nat.reduceAdd, Nat.reduceMul, Nat.reduceSub, Nat.reduceLT, Nat.reduceLeDiff, Nat.reduceBEq, Nat.reduceLeDiff, reduceCtorEq, Int.reduceLT, Int.reduceEq, Int.reduceLE, Int.reduceAdd, Int.reduceSub, Int.reduceToNat, Int.reduceNeg, Int.toNat_natCast, beq_self_eq_true, wrap64, undef, Nat.zero_add, Nat.add_zero, Int.zero_add, Int.add_zero, Int.sub_zero, St.loadN_other, St.cell_other, c0, e1, e3, wrapu64]
  refine wcond_dec (fun hc => ?_) (fun hc => ?_)
  · simp (disch := omega) only [go_sem, ↓reduceIte, Nat.reduceEqDiff, Nat.reduceAdd, Nat.reduceMul, Nat.reduceSub, Nat.reduceLT, Nat.reduceLeDiff, Nat.reduceBEq, Nat.reduceLeDiff, reduceCtorEq, Int.reduceLT, Int.reduceEq, Int.reduceLE, Int.reduceAdd, Int.reduceSub, Int.reduceToNat, Int.reduceNeg, Int.toNat_natCast, beq_self_eq_true, wrap64, undef, Nat.zero_add, Nat.add_zero, Int.zero_add, Int.add_zero, Int.sub_zero, St.loadN_other, St.cell_other]
    refine wJ_of (F.osierref01_R_Fail_J (x := 10) hr (by decide)) ?_; rintro _ S3 ⟨rfl, hr3, hb3⟩
    simp (disch := omega) only [go_sem, ↓reduceIte, Nat.reduceEqDiff, Nat.reduceAdd, Nat.reduceMul, Nat.reduceSub, Nat.reduceLT, Nat.reduceLeDiff, Nat.reduceBEq, Nat.reduceLeDiff, reduceCtorEq, Int.reduceLT, Int.reduceEq, Int.reduceLE, Int.reduceAdd, Int.reduceSub, Int.reduceToNat, Int.reduceNeg, Int.toNat_natCast, beq_self_eq_true, wrap64, undef, Nat.zero_add, Nat.add_zero, Int.zero_add, Int.add_zero, Int.sub_zero, St.loadN_other, St.cell_other]
    have hn : e2 = 0 := by
      by_cases h0 : e2 = 0
      · exact h0
      · have := gerr h0
        omega
    rw [if_pos (by omega)]
    subst hn
    exact ⟨rfl, by simpa using hr3, hbt.trans hb3⟩
  · simp (disch := omega) only [go_sem, ↓reduceIte, Nat.reduceEqDiff, Nat.reduceAdd, Nat.reduceMul, Nat.reduceSub, Nat.reduceLT, Nat.reduceLeDiff, Nat.reduceBEq, Nat.reduceLeDiff, reduceCtorEq, Int.reduceLT, Int.reduceEq, Int.reduceLE, Int.reduceAdd, Int.reduceSub, Int.reduceToNat, Int.reduceNeg, Int.toNat_natCast, beq_self_eq_true, wrap64, undef, Nat.zero_add, Nat.add_zero, Int.zero_add, Int.add_zero, Int.sub_zero, St.loadN_other, St.cell_other]
    rw [if_neg (by omega)]
    exact ⟨rfl, hr, hbt⟩
/-- so many dots, taken -/
def rdL (bs : List Int) (e : Int) : Nat → List Dot × List Int × Int
  | 0 => ([], bs, e)
  | n + 1 => ((rdL bs e n).1 ++ [(rdD (rdL bs e n).2.1 (rdL bs e n).2.2).1], (rdD (rdL bs e n).2.1 (rdL bs e n).2.2).2)
theorem rdL_good {bs : List Int} {e : Int} (hb : isB bs) (he : e ≠ 0 → bs = []) : ∀ n, isB (rdL bs e n).2.1 ∧ ((rdL bs e n).2.2 ≠ 0 → (rdL bs e n).2.1 = []) ∧ (rdL bs e n).2.1.length ≤ bs.length ∧ (rdL bs e n).1.length = n
  | 0 => ⟨hb, he, Nat.le_refl _, rfl⟩
  | n + 1 => by
    obtain ⟨h1, h2, h3, h4⟩ := rdL_good hb he n
    obtain ⟨g1, g2, g3⟩ := rdD_good h1 h2
    exact ⟨g1, g2, Nat.le_trans g3 h3, by simp [rdL, h4]⟩
/-- a vector, taken -/
def rdV (bs : List Int) (e : Int) : List Dot × List Int × Int :=
  if (rdL (rdC bs e).2.1 (rdC bs e).2.2 (rdC bs e).1).2.2 = 0 then
    if isV (rdL (rdC bs e).2.1 (rdC bs e).2.2 (rdC bs e).1).1 then rdL (rdC bs e).2.1 (rdC bs e).2.2 (rdC bs e).1 else ([], [], 11)
  else ([], (rdL (rdC bs e).2.1 (rdC bs e).2.2 (rdC bs e).1).2)
theorem OwnT.ptr {S S' : St} {q B : Nat} {v : Value} {xs : List Dot} (h : OwnT dotE B S v xs) (hq : q < B) (hb : St.But (ptrV q) S S') : OwnT dotE B S' v xs :=
  h.but dotE hb fun j hj => by have := (h.blk dotE j hj).1; simp [blkOf]; omega
theorem F.vector_Take_J {S : St} {q B : Nat} {bs : List Int} {e : Int} (h : RdT S q B bs e) (hBn : B ≤ S.n) (hb : isB bs) (he : e ≠ 0 → bs = []) (hL : bs.length < 100000) :
    J PR F.vector_Take [ptrV q] S fun v S' => OwnT dotE S.n S' v (rdV bs e).1 ∧ RdT S' q B (rdV bs e).2.1 (rdV bs e).2.2 ∧ St.But (ptrV q) S S' := by
  have hq := h.lt
  obtain ⟨h1, h2, h3, h3'⟩ := rdC_good hb he
  have hlg := rdL_good h1 h2
  refine J_by PR.mixed F.vector_Take.ok (by simp) ?_
  simp (disch := omega) only [go_sem, ↓reduceIte, Nat.reduceEqDiff, Nat.reduceAdd, Nat.reduceMul, Nat.reduceSub, Nat.reduceLT, Nat.reduceLeDiff, Nat.reduceBEq, Nat.reduceLeDiff, reduceCtorEq, Int.reduceLT, Int.reduceEq, Int.reduceLE, Int.reduceAdd, Int.reduceSub, Int.reduceToNat, Int.reduceNeg, Int.toNat_natCast, beq_self_eq_true, wrap64, undef, Nat.zero_add, Nat.add_zero, Int.zero_add, Int.add_zero, Int.sub_zero, St.loadN_other, St.cell_other]
  refine wfresh_of fun y hy => ?_
  simp (disch := omega) only [go_sem, ↓reduceIte, Nat.reduceEqDiff, Nat.reduceAdd, Nat.reduceMul, Nat.reduceSub, Nat.reduceLT, Nat.reduceLeDiff, Nat.reduceBEq, Nat.reduceLeDiff, reduceCtorEq, Int.reduceLT, Int.reduceEq, Int.reduceLE, Int.reduceAdd, Int.reduceSub, Int.reduceToNat, Int.reduceNeg, Int.toNat_natCast, beq_self_eq_true, wrap64, undef, Nat.zero_add, Nat.add_zero, Int.zero_add, Int.add_zero, Int.sub_zero, St.loadN_other, St.cell_other]
  have he1 := (St.Ext.refl S).put hy (.cells true 0 [])
  have ho1 : OwnT dotE S.n (S.put y (.cells true 0 [])) (.slice (some ⟨y, 0, none⟩) 0 0) [] := OwnT.mk dotE (xs := []) hy (St.lt_put_self _ _ _) (Nat.le_refl 0) (St.put_same _ _ _)
  refine wJ_of (F.num_Reader_Count_J (h.but he1) hb he (by omega)) ?_; rintro _ S1 ⟨rfl, hr1, hb1⟩
  have ho2 := ho1.ptr hq hb1
  have hbt1 := he1.toBut.trans hb1
  simp (disch := omega) only [go_sem, ↓reduceIte, Nat.reduceEqDiff, Nat.reduceAdd, Nat.reduceMul, Nat.reduceSub, Nat.reduceLT, Nat.reduceLeDiff, Nat.reduceBEq, Nat.reduceLeDiff, reduceCtorEq, Int.reduceLT, Int.reduceEq, Int.reduceLE, Int.reduceAdd, Int.reduceSub, Int.reduceToNat, Int.reduceNeg, Int.toNat_natCast, beq_self_eq_true, wrap64, undef, Nat.zero_add, Nat.add_zero, Int.zero_add, Int.add_zero, Int.sub_zero, St.loadN_other, St.cell_other]
  refine wC_at 0 (fun fr S' => ∃ v, fr 0 = ptrV q ∧ fr 3 = v ∧ OwnT dotE S.n S' v (rdL (rdC bs e).2.1 (rdC bs e).2.2 (rdC bs e).1).1 ∧ RdT S' q B (rdL (rdC bs e).2.1 (rdC bs e).2.2 (rdC bs e).1).2.1 (rdL (rdC bs e).2.1 (rdC bs e).2.2 (rdC bs e).1).2.2 ∧ St.But (ptrV q) S S') ?_ ?_
  · refine wC_loop (fun n fr S' => ∃ (i : Nat) (v : Value), n = (rdC bs e).1 - i ∧ i ≤ (rdC bs e).1 ∧ fr 0 = ptrV q ∧ fr 3 = v ∧ fr 6 = .int .i64 ((rdC bs e).1 : Nat) ∧ fr 7 = .int .i64 (i : Nat) ∧
      OwnT dotE S.n S' v (rdL (rdC bs e).2.1 (rdC bs e).2.2 i).1 ∧ RdT S' q B (rdL (rdC bs e).2.1 (rdC bs e).2.2 i).2.1 (rdL (rdC bs e).2.1 (rdC bs e).2.2 i).2.2 ∧ St.But (ptrV q) S S') (rdC bs e).1
      ⟨0, .slice (some ⟨y,  0,  none⟩) 0 0, by simp (disch := omega) only [go_sem, ↓reduceIte, Nat.reduceEqDiff, Nat.reduceAdd, Nat.reduceMul, Nat.reduceSub, Nat.reduceLT, Nat.reduceLeDiff, Nat.reduceBEq, Nat.reduceLeDiff, reduceCtorEq, Int.reduceLT, Int.reduceEq, Int.reduceLE, Int.reduceAdd, Int.reduceSub, Int.reduceToNat, Int.reduceNeg, Int.toNat_natCast, beq_self_eq_true, wrap64, undef, Nat.zero_add, Nat.add_zero, Int.zero_add, Int.add_zero, Int.sub_zero, St.loadN_other, St.cell_other]; exact ⟨by simp, by simp, ho2, hr1, hbt1⟩⟩ ?_
    rintro n fr S2 ⟨i, v, rfl, hi, g0, g3, g6, g7, ho, hr, hbt⟩
    simp (disch := omega) only [go_sem, ↓reduceIte, Nat.reduceEqDiff, Nat.reduceAdd, Nat.reduceMul, Nat.reduceSub, Nat.reduceLT, Nat.reduceLeDiff, Nat.reduceBEq, Nat.reduceLeDiff, reduceCtorEq, Int.reduceLT, Int.reduceEq, Int.reduceLE, Int.reduceAdd, Int.reduceSub, Int.reduceToNat, Int.reduceNeg, Int.toNat_natCast, beq_self_eq_true, wrap64, undef, Nat.zero_add, Nat.add_zero, Int.zero_add, Int.add_zero, Int.sub_zero, St.loadN_other, St.cell_other, F.vector_Take.l0, g0, g3, g6, g7]
    refine wcond_dec (fun hlt => ?_) (fun hge => ?_)
    · obtain ⟨k1, k2, k3, k4⟩ := hlg i
      have hn2 := hbt.n
      simp (disch := omega) only [go_sem, ↓reduceIte, Nat.reduceEqDiff, Nat.reduceAdd, Nat.reduceMul, Nat.reduceSub, Nat.reduceLT, Nat.reduceLeDiff, Nat.reduceBEq, Nat.reduceLeDiff, reduceCtorEq, Int.reduceLT, Int.reduceEq, Int.reduceLE, Int.reduceAdd, Int.reduceSub, Int.reduceToNat, Int.reduceNeg, Int.toNat_natCast, beq_self_eq_true, wrap64, undef, Nat.zero_add, Nat.add_zero, Int.zero_add, Int.add_zero, Int.sub_zero, St.loadN_other, St.cell_other, g0, g3, g6, g7]
      refine wJ_of (F.dots_Take_J hr (by omega) k1 k2 (by omega)) ?_; rintro _ S3 ⟨rfl, hr3, hb3⟩
      have ho3 := ho.ptr hq hb3
      have hn3 := hb3.n
      simp (disch := omega) only [go_sem, ↓reduceIte, Nat.reduceEqDiff, Nat.reduceAdd, Nat.reduceMul, Nat.reduceSub, Nat.reduceLT, Nat.reduceLeDiff, Nat.reduceBEq, Nat.reduceLeDiff, reduceCtorEq, Int.reduceLT, Int.reduceEq, Int.reduceLE, Int.reduceAdd, Int.reduceSub, Int.reduceToNat, Int.reduceNeg, Int.toNat_natCast, beq_self_eq_true, wrap64, undef, Nat.zero_add, Nat.add_zero, Int.zero_add, Int.add_zero, Int.sub_zero, St.loadN_other, St.cell_other, g0, g3, g6, g7]
      refine wfresh_of fun u hu => ?_
      simp (disch := omega) only [go_sem, ↓reduceIte, Nat.reduceEqDiff, Nat.reduceAdd, Nat.reduceMul, Nat.reduceSub, Nat.reduceLT, Nat.reduceLeDiff, Nat.reduceBEq, Nat.reduceLeDiff, reduceCtorEq, Int.reduceLT, Int.reduceEq, Int.reduceLE, Int.reduceAdd, Int.reduceSub, Int.reduceToNat, Int.reduceNeg, Int.toNat_natCast, beq_self_eq_true, wrap64, undef, Nat.zero_add, Nat.add_zero, Int.zero_add, Int.add_zero, Int.sub_zero, St.loadN_other, St.cell_other, g0, g3, g6, g7]
      have he4 := (St.Ext.refl S3).put hu (.cells true 2 [.int .i64 (rdD (rdL (rdC bs e).2.1 (rdC bs e).2.2 i).2.1 (rdL (rdC bs e).2.1 (rdC bs e).2.2 i).2.2).1.1, .int .i64 (rdD (rdL (rdC bs e).2.1 (rdC bs e).2.2 i).2.1 (rdL (rdC bs e).2.1 (rdC bs e).2.2 i).2.2).1.2])
      have hn4 := he4.n
      refine wE_app dotE (ys := [(rdD (rdL (rdC bs e).2.1 (rdC bs e).2.2 i).2.1 (rdL (rdC bs e).2.1 (rdC bs e).2.2 i).2.2).1]) (ho3.ext dotE he4) (SlT.lit dotE (xs := [(rdD (rdL (rdC bs e).2.1 (rdC bs e).2.2 i).2.1 (rdL (rdC bs e).2.1 (rdC bs e).2.2 i).2.2).1])) rfl rfl (by omega) (by rw [k4]; simp; omega) (by rw [k4]; simp; omega) fun v8 S8 ho8 hb8 hv8 => ?_
      have hn8 := hb8.n
      have hbl : ∀ j, blkOf v = some j → S.n ≤ j := ho.fresh dotE
      have hr4 := hr3.but he4
      have hr8 : RdT S8 q B _ _ := hr4.keep hb8.n (hb8.obj q hr4.lt fun h => by have := hbl q h; omega) fun j hj hj2 => hb8.obj j hj2 fun h => by have := hbl j h; omega
      simp (disch := omega) only [go_sem, ↓reduceIte, Nat.reduceEqDiff, Nat.reduceAdd, Nat.reduceMul, Nat.reduceSub, Nat.reduceLT, Nat.reduceLeDiff, Nat.reduceBEq, Nat.reduceLeDiff, reduceCtorEq, Int.reduceLT, Int.reduceEq, Int.reduceLE, Int.reduceAdd, Int.reduceSub, Int.reduceToNat, Int.reduceNeg, Int.toNat_natCast, beq_self_eq_true, wrap64, undef, Nat.zero_add, Nat.add_zero, Int.zero_add, Int.add_zero, Int.sub_zero, St.loadN_other, St.cell_other, g0, g3, g6, g7]
      refine ⟨(rdC bs e).1 - (i + 1), by omega, i + 1, _, rfl, by omega, rfl, rfl, ho8, hr8, ⟨by omega, fun j hj hne => ?_⟩⟩
      rw [hb8.obj j (by omega) (fun h => by have := hbl j h; omega), he4.obj j (by omega), hb3.obj j (by omega) hne]
      exact hbt.obj j hj hne
    · simp (disch := omega) only [go_sem, ↓reduceIte, Nat.reduceEqDiff, Nat.reduceAdd, Nat.reduceMul, Nat.reduceSub, Nat.reduceLT, Nat.reduceLeDiff, Nat.reduceBEq, Nat.reduceLeDiff, reduceCtorEq, Int.reduceLT, Int.reduceEq, Int.reduceLE, Int.reduceAdd, Int.reduceSub, Int.reduceToNat, Int.reduceNeg, Int.toNat_natCast, beq_self_eq_true, wrap64, undef, Nat.zero_add, Nat.add_zero, Int.zero_add, Int.add_zero, Int.sub_zero, St.loadN_other, St.cell_other, g0, g3]
      have hik : i = (rdC bs e).1 := by omega
      rw [hik] at ho hr
      exact ⟨_, rfl, ho, hr, hbt⟩
  rintro fr S5 ⟨v, g0, g3, ho5, hr5, hb5⟩
  obtain ⟨k1, k2, k3, k4⟩ := hlg (rdC bs e).1
  unfold rdV
  generalize rdL (rdC bs e).2.1 (rdC bs e).2.2 (rdC bs e).1 = u at *
  obtain ⟨ds, bs2, e2⟩ := u
  simp only at *
  obtain ⟨bv, cv, rfl⟩ := (ho5.sl dotE).len dotE
  simp (disch := omega) only [go_sem, ↓reduceIte, Nat.reduceEqDiff, Nat.reduceAdd, Nat.reduceMul, Nat.reduceSub, Nat.reduceLT, Nat.reduceLeDiff, Nat.reduceBEq, Nat.reduceLeDiff, reduceCtorEq, Int.reduceLT, Int.reduceEq, Int.reduceLE, Int.reduceAdd, Int.reduceSub, Int.reduceToNat, Int.reduceNeg, Int.toNat_natCast, beq_self_eq_true, wrap64, undef, Nat.zero_add, Nat.add_zero, Int.zero_add, Int.add_zero, Int.sub_zero, St.loadN_other, St.cell_other, g0, g3]
  refine wJ_of (F.num_Reader_Err_J hr5) ?_; rintro _ _ ⟨rfl, rfl⟩
  by_cases h0 : e2 = 0
  · subst h0
    rw [if_pos rfl]
    simp (disch := omega) only [go_sem, ↓reduceIte, Nat.reduceEqDiff, Nat.reduceAdd, Nat.reduceMul, Nat.reduceSub, Nat.reduceLT, Nat.reduceLeDiff, Nat.reduceBEq, Nat.reduceLeDiff, reduceCtorEq, Int.reduceLT, Int.reduceEq, Int.reduceLE, Int.reduceAdd, Int.reduceSub, Int.reduceToNat, Int.reduceNeg, Int.toNat_natCast, beq_self_eq_true, wrap64, undef, Nat.zero_add, Nat.add_zero, Int.zero_add, Int.add_zero, Int.sub_zero, St.loadN_other, St.cell_other, g0, g3]
    refine wJ_of (F.vector_May_J (ho5.sl dotE) (by omega)) ?_; rintro _ _ ⟨rfl, rfl⟩
    by_cases hv : isV ds
    · rw [if_pos hv]
      simp (disch := omega) only [go_sem, ↓reduceIte, Nat.reduceEqDiff, Nat.reduceAdd, Nat.reduceMul, Nat.reduceSub, Nat.reduceLT, Nat.reduceLeDiff, Nat.reduceBEq, Nat.reduceLeDiff, reduceCtorEq, Int.reduceLT, Int.reduceEq, Int.reduceLE, Int.reduceAdd, Int.reduceSub, Int.reduceToNat, Int.reduceNeg, Int.toNat_natCast, beq_self_eq_true, wrap64, undef, Nat.zero_add, Nat.add_zero, Int.zero_add, Int.add_zero, Int.sub_zero, St.loadN_other, St.cell_other, g0, g3, hv]
      refine wJ_of (F.num_Reader_Err_J hr5) ?_; rintro _ _ ⟨rfl, rfl⟩
      simp (disch := omega) only [go_sem, ↓reduceIte, Nat.reduceEqDiff, Nat.reduceAdd, Nat.reduceMul, Nat.reduceSub, Nat.reduceLT, Nat.reduceLeDiff, Nat.reduceBEq, Nat.reduceLeDiff, reduceCtorEq, Int.reduceLT, Int.reduceEq, Int.reduceLE, Int.reduceAdd, Int.reduceSub, Int.reduceToNat, Int.reduceNeg, Int.toNat_natCast, beq_self_eq_true, wrap64, undef, Nat.zero_add, Nat.add_zero, Int.zero_add, Int.add_zero, Int.sub_zero, St.loadN_other, St.cell_other, g0, g3]
      exact ⟨ho5, hr5, hb5⟩
    · rw [if_neg hv]
      simp (disch := omega) only [go_sem, ↓reduceIte, Nat.reduceEqDiff, Nat.reduceAdd, Nat.reduceMul, Nat.reduceSub, Nat.reduceLT, Nat.reduceLeDiff, Nat.reduceBEq, Nat.reduceLeDiff, reduceCtorEq, Int.reduceLT, Int.reduceEq, Int.reduceLE, Int.reduceAdd, Int.reduceSub, Int.reduceToNat, Int.reduceNeg, Int.toNat_natCast, beq_self_eq_true, wrap64, undef, Nat.zero_add, Nat.add_zero, Int.zero_add, Int.add_zero, Int.sub_zero, St.loadN_other, St.cell_other, g0, g3, hv]
      refine wJ_of (F.num_Reader_Fail_J (x := 11) hr5 (by decide)) ?_; rintro _ S6 ⟨rfl, hr6, hb6⟩
      simp (disch := omega) only [go_sem, ↓reduceIte, Nat.reduceEqDiff, Nat.reduceAdd, Nat.reduceMul, Nat.reduceSub, Nat.reduceLT, Nat.reduceLeDiff, Nat.reduceBEq, Nat.reduceLeDiff, reduceCtorEq, Int.reduceLT, Int.reduceEq, Int.reduceLE, Int.reduceAdd, Int.reduceSub, Int.reduceToNat, Int.reduceNeg, Int.toNat_natCast, beq_self_eq_true, wrap64, undef, Nat.zero_add, Nat.add_zero, Int.zero_add, Int.add_zero, Int.sub_zero, St.loadN_other, St.cell_other, g0, g3]
      refine wJ_of (F.num_Reader_Err_J hr6) ?_; rintro _ _ ⟨rfl, rfl⟩
      simp (disch := omega) only [go_sem, ↓reduceIte, Nat.reduceEqDiff, Nat.reduceAdd, Nat.reduceMul, Nat.reduceSub, Nat.reduceLT, Nat.reduceLeDiff, Nat.reduceBEq, Nat.reduceLeDiff, reduceCtorEq, Int.reduceLT, Int.reduceEq, Int.reduceLE, Int.reduceAdd, Int.reduceSub, Int.reduceToNat, Int.reduceNeg, Int.toNat_natCast, beq_self_eq_true, wrap64, undef, Nat.zero_add, Nat.add_zero, Int.zero_add, Int.add_zero, Int.sub_zero, St.loadN_other, St.cell_other, g0, g3]
      exact ⟨OwnT.nil dotE _ _, by simpa using hr6, hb5.trans hb6⟩
  · rw [if_neg h0]
    simp (disch := omega) only [go_sem, ↓reduceIte, Nat.reduceEqDiff, Nat.reduceAdd, Nat.reduceMul, Nat.reduceSub, Nat.reduceLT, Nat.reduceLeDiff, Nat.reduceBEq, Nat.reduceLeDiff, reduceCtorEq, Int.reduceLT, Int.reduceEq, Int.reduceLE, Int.reduceAdd, Int.reduceSub, Int.reduceToNat, Int.reduceNeg, Int.toNat_natCast, beq_self_eq_true, wrap64, undef, Nat.zero_add, Nat.add_zero, Int.zero_add, Int.add_zero, Int.sub_zero, St.loadN_other, St.cell_other, g0, g3, h0]
    refine wJ_of (F.num_Reader_Err_J hr5) ?_; rintro _ _ ⟨rfl, rfl⟩
    simp (disch := omega) only [go_sem, ↓reduceIte, Nat.reduceEqDiff, Nat.reduceAdd, Nat.reduceMul, Nat.reduceSub, Nat.reduceLT, Nat.reduceLeDiff, Nat.reduceBEq, Nat.reduceLeDiff, reduceCtorEq, Int.reduceLT, Int.reduceEq, Int.reduceLE, Int.reduceAdd, Int.reduceSub, Int.reduceToNat, Int.reduceNeg, Int.toNat_natCast, beq_self_eq_true, wrap64, undef, Nat.zero_add, Nat.add_zero, Int.zero_add, Int.add_zero, Int.sub_zero, St.loadN_other, St.cell_other, g0, g3, h0]
    exact ⟨OwnT.nil dotE _ _, hr5, hb5⟩
theorem F.osierref04_Take_J {S : St} {q B : Nat} {bs : List Int} {e : Int} (h : RdT S q B bs e) (hBn : B ≤ S.n) (hb : isB bs) (he : e ≠ 0 → bs = []) (hL : bs.length < 100000) :
    J PR F.osierref04_Take [ptrV q] S fun v S' => OwnT dotE S.n S' v (rdV bs e).1 ∧ RdT S' q B (rdV bs e).2.1 (rdV bs e).2.2 ∧ St.But (ptrV q) S S' := by
  have hq := h.lt
  obtain ⟨h1, h2, h3, h3'⟩ := rdC_good hb he
  have hlg := rdL_good h1 h2
  refine J_by PR.mixed F.osierref04_Take.ok (by simp) ?_
  simp (disch := omega) only [go_sem, ↓reduceIte, Nat.reduceEqDiff, Nat.reduceAdd, Nat.reduceMul, Nat.reduceSub, Nat.reduceLT, Nat.reduceLeDiff, Nat.reduceBEq, Nat.reduceLeDiff, reduceCtorEq, Int.reduceLT, Int.reduceEq, Int.reduceLE, Int.reduceAdd, Int.reduceSub, Int.reduceToNat, Int.reduceNeg, Int.toNat_natCast, beq_self_eq_true, wrap64, undef, Nat.zero_add, Nat.add_zero, Int.zero_add, Int.add_zero, Int.sub_zero, St.loadN_other, St.cell_other]
  refine wJ_of (F.osierref01_R_Count_J h hb he (by omega)) ?_; rintro _ S1 ⟨rfl, hr1, hbt1⟩
  have ho2 : OwnT dotE S.n S1 (.slice none 0 0) [] := OwnT.nil ..
  simp (disch := omega) only [go_sem, ↓reduceIte, Nat.reduceEqDiff, Nat.reduceAdd, Nat.reduceMul, Nat.reduceSub, Nat.reduceLT, Nat.reduceLeDiff, Nat.reduceBEq, Nat.reduceLeDiff, reduceCtorEq, Int.reduceLT, Int.reduceEq, Int.reduceLE, Int.reduceAdd, Int.reduceSub, Int.reduceToNat, Int.reduceNeg, Int.toNat_natCast, beq_self_eq_true, wrap64, undef, Nat.zero_add, Nat.add_zero, Int.zero_add, Int.add_zero, Int.sub_zero, St.loadN_other, St.cell_other]
  refine wC_at 0 (fun fr S' => ∃ v, fr 0 = ptrV q ∧ fr 4 = v ∧ OwnT dotE S.n S' v (rdL (rdC bs e).2.1 (rdC bs e).2.2 (rdC bs e).1).1 ∧ RdT S' q B (rdL (rdC bs e).2.1 (rdC bs e).2.2 (rdC bs e).1).2.1 (rdL (rdC bs e).2.1 (rdC bs e).2.2 (rdC bs e).1).2.2 ∧ St.But (ptrV q) S S') ?_ ?_
  · refine wC_loop (fun n fr S' => ∃ (i : Nat) (v : Value), n = (rdC bs e).1 - i ∧ i ≤ (rdC bs e).1 ∧ fr 0 = ptrV q ∧ fr 4 = v ∧ fr 3 = .int .i64 ((rdC bs e).1 : Nat) ∧ fr 5 = .int .i64 (i : Nat) ∧
      OwnT dotE S.n S' v (rdL (rdC bs e).2.1 (rdC bs e).2.2 i).1 ∧ RdT S' q B (rdL (rdC bs e).2.1 (rdC bs e).2.2 i).2.1 (rdL (rdC bs e).2.1 (rdC bs e).2.2 i).2.2 ∧ St.But (ptrV q) S S') (rdC bs e).1
      ⟨0, .slice none 0 0, by simp (disch := omega) only [go_sem, ↓reduceIte, Nat.reduceEqDiff, Nat.reduceAdd, Nat.reduceMul, Nat.reduceSub, Nat.reduceLT, Nat.reduceLeDiff, Nat.reduceBEq, Nat.reduceLeDiff, reduceCtorEq, Int.reduceLT, Int.reduceEq, Int.reduceLE, Int.reduceAdd, Int.reduceSub, Int.reduceToNat, Int.reduceNeg, Int.toNat_natCast, beq_self_eq_true, wrap64, undef, Nat.zero_add, Nat.add_zero, Int.zero_add, Int.add_zero, Int.sub_zero, St.loadN_other, St.cell_other]; exact ⟨by simp, by simp, ho2, hr1, hbt1⟩⟩ ?_
    rintro n fr S2 ⟨i, v, rfl, hi, g0, g3, g6, g7, ho, hr, hbt⟩
    simp (disch := omega) only [go_sem, ↓reduceIte, Nat.reduceEqDiff, Nat.reduceAdd, Nat.reduceMul, Nat.reduceSub, Nat.reduceLT, Nat.reduceLeDiff, Nat.reduceBEq, Nat.reduceLeDiff, reduceCtorEq, Int.reduceLT, Int.reduceEq, Int.reduceLE, Int.reduceAdd, Int.reduceSub, Int.reduceToNat, Int.reduceNeg, Int.toNat_natCast, beq_self_eq_true, wrap64, undef, Nat.zero_add, Nat.add_zero, Int.zero_add, Int.add_zero, Int.sub_zero, St.loadN_other, St.cell_other, F.osierref04_Take.l0, g0, g3, g6, g7]
    refine wcond_dec (fun hlt => ?_) (fun hge => ?_)
    · obtain ⟨k1, k2, k3, k4⟩ := hlg i
      have hn2 := hbt.n
      simp (disch := omega) only [go_sem, ↓reduceIte, Nat.reduceEqDiff, Nat.reduceAdd, Nat.reduceMul, Nat.reduceSub, Nat.reduceLT, Nat.reduceLeDiff, Nat.reduceBEq, Nat.reduceLeDiff, reduceCtorEq, Int.reduceLT, Int.reduceEq, Int.reduceLE, Int.reduceAdd, Int.reduceSub, Int.reduceToNat, Int.reduceNeg, Int.toNat_natCast, beq_self_eq_true, wrap64, undef, Nat.zero_add, Nat.add_zero, Int.zero_add, Int.add_zero, Int.sub_zero, St.loadN_other, St.cell_other, g0, g3, g6, g7]
      refine wJ_of (F.osierref03_Take_J hr (by omega) k1 k2 (by omega)) ?_; rintro _ S3 ⟨rfl, hr3, hb3⟩
      have ho3 := ho.ptr hq hb3
      have hn3 := hb3.n
      simp (disch := omega) only [go_sem, ↓reduceIte, Nat.reduceEqDiff, Nat.reduceAdd, Nat.reduceMul, Nat.reduceSub, Nat.reduceLT, Nat.reduceLeDiff, Nat.reduceBEq, Nat.reduceLeDiff, reduceCtorEq, Int.reduceLT, Int.reduceEq, Int.reduceLE, Int.reduceAdd, Int.reduceSub, Int.reduceToNat, Int.reduceNeg, Int.toNat_natCast, beq_self_eq_true, wrap64, undef, Nat.zero_add, Nat.add_zero, Int.zero_add, Int.add_zero, Int.sub_zero, St.loadN_other, St.cell_other, g0, g3, g6, g7]
      refine wfresh_of fun u hu => ?_
      simp (disch := omega) only [go_sem, ↓reduceIte, Nat.reduceEqDiff, Nat.reduceAdd, Nat.reduceMul, Nat.reduceSub, Nat.reduceLT, Nat.reduceLeDiff, Nat.reduceBEq, Nat.reduceLeDiff, reduceCtorEq, Int.reduceLT, Int.reduceEq, Int.reduceLE, Int.reduceAdd, Int.reduceSub, Int.reduceToNat, Int.reduceNeg, Int.toNat_natCast, beq_self_eq_true, wrap64, undef, Nat.zero_add, Nat.add_zero, Int.zero_add, Int.add_zero, Int.sub_zero, St.loadN_other, St.cell_other, g0, g3, g6, g7]
      have he4 := (St.Ext.refl S3).put hu (.cells true 2 [.int .i64 (rdD (rdL (rdC bs e).2.1 (rdC bs e).2.2 i).2.1 (rdL (rdC bs e).2.1 (rdC bs e).2.2 i).2.2).1.1, .int .i64 (rdD (rdL (rdC bs e).2.1 (rdC bs e).2.2 i).2.1 (rdL (rdC bs e).2.1 (rdC bs e).2.2 i).2.2).1.2])
      have hn4 := he4.n
      refine wE_app dotE (ys := [(rdD (rdL (rdC bs e).2.1 (rdC bs e).2.2 i).2.1 (rdL (rdC bs e).2.1 (rdC bs e).2.2 i).2.2).1]) (ho3.ext dotE he4) (SlT.lit dotE (xs := [(rdD (rdL (rdC bs e).2.1 (rdC bs e).2.2 i).2.1 (rdL (rdC bs e).2.1 (rdC bs e).2.2 i).2.2).1])) rfl rfl (by omega) (by rw [k4]; simp; omega) (by rw [k4]; simp; omega) fun v8 S8 ho8 hb8 hv8 => ?_
      have hn8 := hb8.n
      have hbl : ∀ j, blkOf v = some j → S.n ≤ j := ho.fresh dotE
      have hr4 := hr3.but he4
      have hr8 : RdT S8 q B _ _ := hr4.keep hb8.n (hb8.obj q hr4.lt fun h => by have := hbl q h; omega) fun j hj hj2 => hb8.obj j hj2 fun h => by have := hbl j h; omega
      simp (disch := omega) only [go_sem, ↓reduceIte, Nat.reduceEqDiff, Nat.reduceAdd, Nat.reduceMul, Nat.reduceSub, Nat.reduceLT, Nat.reduceLeDiff, Nat.reduceBEq, Nat.reduceLeDiff, reduceCtorEq, Int.reduceLT, Int.reduceEq, Int.reduceLE, Int.reduceAdd, Int.reduceSub, Int.reduceToNat, Int.reduceNeg, Int.toNat_natCast, beq_self_eq_true, wrap64, undef, Nat.zero_add, Nat.add_zero, Int.zero_add, Int.add_zero, Int.sub_zero, St.loadN_other, St.cell_other, g0, g3, g6, g7]
      refine ⟨(rdC bs e).1 - (i + 1), by omega, i + 1, _, rfl, by omega, rfl, rfl, ho8, hr8, ⟨by omega, fun j hj hne => ?_⟩⟩
      rw [hb8.obj j (by omega) (fun h => by have := hbl j h; omega), he4.obj j (by omega), hb3.obj j (by omega) hne]
      exact hbt.obj j hj hne
    · simp (disch := omega) only [go_sem, ↓reduceIte, Nat.reduceEqDiff, Nat.reduceAdd, Nat.reduceMul, Nat.reduceSub, Nat.reduceLT, Nat.reduceLeDiff, Nat.reduceBEq, Nat.reduceLeDiff, reduceCtorEq, Int.reduceLT, Int.reduceEq, Int.reduceLE, Int.reduceAdd, Int.reduceSub, Int.reduceToNat, Int.reduceNeg, Int.toNat_natCast, beq_self_eq_true, wrap64, undef, Nat.zero_add, Nat.add_zero, Int.zero_add, Int.add_zero, Int.sub_zero, St.loadN_other, St.cell_other, g0, g3]
      have hik : i = (rdC bs e).1 := by omega
      rw [hik] at ho hr
      exact ⟨_, rfl, ho, hr, hbt⟩
  rintro fr S5 ⟨v, g0, g3, ho5, hr5, hb5⟩
  obtain ⟨k1, k2, k3, k4⟩ := hlg (rdC bs e).1
  unfold rdV
  generalize rdL (rdC bs e).2.1 (rdC bs e).2.2 (rdC bs e).1 = u at *
  obtain ⟨ds, bs2, e2⟩ := u
  simp only at *
  obtain ⟨bv, cv, rfl⟩ := (ho5.sl dotE).len dotE
  have c5 := hr5.cell1
  by_cases h0 : e2 = 0
  · subst h0
    rw [if_pos rfl]
    simp (disch := omega) only [go_sem, ↓reduceIte, Nat.reduceEqDiff, Nat.reduceAdd, Nat.reduceMul, Nat.reduceSub, Nat.reduceLT, Nat.reduceLeDiff, Nat.reduceBEq, Nat.reduceLeDiff, reduceCtorEq, Int.reduceLT, Int.reduceEq, Int.reduceLE, Int.reduceAdd, Int.reduceSub, Int.reduceToNat, Int.reduceNeg, Int.toNat_natCast, beq_self_eq_true, wrap64, undef, Nat.zero_add, Nat.add_zero, Int.zero_add, Int.add_zero, Int.sub_zero, St.loadN_other, St.cell_other, g0, g3, c5]
    refine wJ_of (F.osierref04_May_J (ho5.sl dotE) (by omega)) ?_; rintro _ _ ⟨rfl, rfl⟩
    by_cases hv : isV ds
    · rw [if_pos hv]
      simp (disch := omega) only [go_sem, ↓reduceIte, Nat.reduceEqDiff, Nat.reduceAdd, Nat.reduceMul, Nat.reduceSub, Nat.reduceLT, Nat.reduceLeDiff, Nat.reduceBEq, Nat.reduceLeDiff, reduceCtorEq, Int.reduceLT, Int.reduceEq, Int.reduceLE, Int.reduceAdd, Int.reduceSub, Int.reduceToNat, Int.reduceNeg, Int.toNat_natCast, beq_self_eq_true, wrap64, undef, Nat.zero_add, Nat.add_zero, Int.zero_add, Int.add_zero, Int.sub_zero, St.loadN_other, St.cell_other, g0, g3, hv, c5]
      exact ⟨ho5, hr5, hb5⟩
    · rw [if_neg hv]
      simp (disch := omega) only [go_sem, ↓reduceIte, Nat.reduceEqDiff, Nat.reduceAdd, Nat.reduceMul, Nat.reduceSub, Nat.reduceLT, Nat.reduceLeDiff, Nat.reduceBEq, Nat.reduceLeDiff, reduceCtorEq, Int.reduceLT, Int.reduceEq, Int.reduceLE, Int.reduceAdd, Int.reduceSub, Int.reduceToNat, Int.reduceNeg, Int.toNat_natCast, beq_self_eq_true, wrap64, undef, Nat.zero_add, Nat.add_zero, Int.zero_add, Int.add_zero, Int.sub_zero, St.loadN_other, St.cell_other, g0, g3, hv, c5]
      refine wJ_of (F.osierref01_R_Fail_J (x := 11) hr5 (by decide)) ?_; rintro _ S6 ⟨rfl, hr6, hb6⟩
      have c6 := hr6.cell1
      simp only [if_true] at c6
      simp (disch := omega) only [go_sem, ↓reduceIte, Nat.reduceEqDiff, Nat.reduceAdd, Nat.reduceMul, Nat.reduceSub, Nat.reduceLT, Nat.reduceLeDiff, Nat.reduceBEq, Nat.reduceLeDiff, reduceCtorEq, Int.reduceLT, Int.reduceEq, Int.reduceLE, Int.reduceAdd, Int.reduceSub, Int.reduceToNat, Int.reduceNeg, Int.toNat_natCast, beq_self_eq_true, wrap64, undef, Nat.zero_add, Nat.add_zero, Int.zero_add, Int.add_zero, Int.sub_zero, St.loadN_other, St.cell_other, g0, g3, c6]
      exact ⟨OwnT.nil dotE _ _, by simpa using hr6, hb5.trans hb6⟩
  · rw [if_neg h0]
    simp (disch := omega) only [go_sem, ↓reduceIte, Nat.reduceEqDiff, Nat.reduceAdd, Nat.reduceMul, Nat.reduceSub, Nat.reduceLT, Nat.reduceLeDiff, Nat.reduceBEq, Nat.reduceLeDiff, reduceCtorEq, Int.reduceLT, Int.reduceEq, Int.reduceLE, Int.reduceAdd, Int.reduceSub, Int.reduceToNat, Int.reduceNeg, Int.toNat_natCast, beq_self_eq_true, wrap64, undef, Nat.zero_add, Nat.add_zero, Int.zero_add, Int.add_zero, Int.sub_zero, St.loadN_other, St.cell_other, g0, g3, c5, h0]
    exact ⟨OwnT.nil dotE _ _, hr5, hb5⟩
end Go.Osj
