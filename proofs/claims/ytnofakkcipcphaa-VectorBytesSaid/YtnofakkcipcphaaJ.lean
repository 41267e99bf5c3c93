/- The laws DotsJoins and DotsLaws. -/
import Derived.Test.YtnofakkcipcphaaI
set_option linter.unusedSimpArgs false
namespace Go.Osj
/-! ### places -/
theorem placesN_facts (xs : List Dot) : ∀ n, n ≤ xs.length → ((placesN xs n).map Prod.fst).Nodup ∧ (∀ d, d ∈ (placesN xs n).map Prod.fst ↔ d ∈ xs.take n) ∧
    (∀ d k, alook d (placesN xs n) = some k → k < n ∧ xs[k]? = some d) ∧ ∀ i d, i < n → xs[i]? = some d → ∃ k, alook d (placesN xs n) = some k ∧ k ≤ i
  | 0, _ => ⟨by simp [placesN], by simp [placesN], by simp [placesN, alook], by simp⟩
  | n + 1, hn => by
    obtain ⟨h1, h2, h3, h4⟩ := placesN_facts xs n (by omega)
    have hx : xs[n]? = some xs[n] := by simp
    rw [take_snoc hx]
    simp only [placesN, hx]
    cases hq : alook xs[n] (placesN xs n) with
    | some j =>
      simp only [Option.isSome_some, if_true]
      refine ⟨h1, fun d => ?_, fun d k hk => ?_, fun i d hi hd => ?_⟩
      · rw [h2, List.mem_append, List.mem_singleton]
        constructor
        · exact .inl
        · rintro (h | h)
          · exact h
          · subst h
            rw [← h2]
            exact alook_isSome.1 (by rw [hq]; rfl)
      · obtain ⟨g1, g2⟩ := h3 d k hk
        exact ⟨by omega, g2⟩
      · by_cases hin : i < n
        · exact h4 i d hin hd
        · have : i = n := by omega
          subst this
          rw [hx] at hd
          injection hd with hd
          subst hd
          exact ⟨j, hq, by have := (h3 _ _ hq).1; omega⟩
    | none =>
      simp only [Option.isSome_none, Bool.false_eq_true, if_false]
      obtain ⟨g1, g2⟩ := aset_keys (k := xs[n]) (v := n) h1
      refine ⟨g1, fun d => ?_, fun d k hk => ?_, fun i d hi hd => ?_⟩
      · rw [g2, h2, List.mem_append, List.mem_singleton]
        exact Or.comm
      · rw [alook_aset] at hk
        split at hk
        · rename_i he
          injection hk with hk
          subst hk he
          exact ⟨by omega, hx⟩
        · obtain ⟨g1, g2⟩ := h3 d k hk
          exact ⟨by omega, g2⟩
      · rw [alook_aset]
        by_cases hdn : d = xs[n]
        · rw [if_pos hdn]
          refine ⟨n, rfl, ?_⟩
          by_cases hin : i < n
          · obtain ⟨k, hk, -⟩ := h4 i d hin hd
            rw [hdn, hq] at hk
            cases hk
          · omega
        · rw [if_neg hdn]
          by_cases hin : i < n
          · exact h4 i d hin hd
          · have : i = n := by omega
            subst this
            rw [hx] at hd
            injection hd with hd
            exact absurd hd.symm hdn
theorem placesN_len (xs : List Dot) : (placesN xs xs.length).length = (risen xs).length := by
  obtain ⟨h1, h2, -, -⟩ := placesN_facts xs xs.length (Nat.le_refl _)
  rw [List.take_length] at h2
  have hn : (risen xs).Nodup := (risen_ris xs).1.imp fun {a b} h e => by subst e; exact lessP_irrefl a h
  have hp : ((placesN xs xs.length).map Prod.fst).Perm (risen xs) := (List.perm_ext_iff_of_nodup h1 hn).2 fun d => by rw [h2, (risen_ris xs).2]
  simpa using hp.length_eq
theorem chosen_true (xs ys : List Dot) : chosen xs ys true = risen (xs.filter fun d => decide (d ∈ ys)) := by
  unfold chosen
  congr 1
  refine List.filter_congr fun d _ => ?_
  simp
theorem chosen_false (xs ys : List Dot) : chosen xs ys false = risen (xs.filter fun d => decide (d ∉ ys)) := by
  unfold chosen
  congr 1
  refine List.filter_congr fun d _ => ?_
  by_cases h : d ∈ ys <;> simp [h]

theorem F.osierlaw03_DotsJoins.J {S : St} {l k : Value} {xs ys : List Dot} (hl : SlT dotE S l xs) (hk : SlT dotE S k ys) : J PR F.osierlaw03_DotsJoins [l, k] S fun v _ => v = .bool true := by
  obtain ⟨ba, ca, rfl⟩ := hl.len dotE
  obtain ⟨bb, cb, rfl⟩ := hk.len dotE
  refine J_by PR.mixed F.osierlaw03_DotsJoins.ok (by simp) ?_
  simp (disch := omega) only [go_sem, ↓reduceIte, Nat.reduceEqDiff, Nat.reduceAdd, Nat.reduceMul, Nat.reduceSub, Nat.reduceLT, Nat.reduceLeDiff, Nat.reduceBEq, Nat.reduceLeDiff, reduceCtorEq, Int.reduceLT, Int.reduceEq, Int.reduceLE, Int.reduceAdd, Int.reduceSub, Int.reduceToNat, Int.reduceNeg, Int.toNat_natCast, beq_self_eq_true, wrap64, undef, Nat.zero_add, Nat.add_zero, Int.zero_add, Int.add_zero, Int.sub_zero, St.loadN_other, St.cell_other]
  refine wJ_of F.osierlaw03_awake_P ?_; rintro _ _ ⟨rfl, rfl⟩
  by_cases h1 : (200 : Int) < (xs.length : Int)
  · simp (disch := omega) only [go_sem, ↓reduceIte, Nat.reduceEqDiff, Nat.reduceAdd, Nat.reduceMul, Nat.reduceSub, Nat.reduceLT, Nat.reduceLeDiff, Nat.reduceBEq, Nat.reduceLeDiff, reduceCtorEq, Int.reduceLT, Int.reduceEq, Int.reduceLE, Int.reduceAdd, Int.reduceSub, Int.reduceToNat, Int.reduceNeg, Int.toNat_natCast, beq_self_eq_true, wrap64, undef, Nat.zero_add, Nat.add_zero, Int.zero_add, Int.add_zero, Int.sub_zero, St.loadN_other, St.cell_other, h1]
  by_cases h2 : (200 : Int) < (ys.length : Int)
  · simp (disch := omega) only [go_sem, ↓reduceIte, Nat.reduceEqDiff, Nat.reduceAdd, Nat.reduceMul, Nat.reduceSub, Nat.reduceLT, Nat.reduceLeDiff, Nat.reduceBEq, Nat.reduceLeDiff, reduceCtorEq, Int.reduceLT, Int.reduceEq, Int.reduceLE, Int.reduceAdd, Int.reduceSub, Int.reduceToNat, Int.reduceNeg, Int.toNat_natCast, beq_self_eq_true, wrap64, undef, Nat.zero_add, Nat.add_zero, Int.zero_add, Int.add_zero, Int.sub_zero, St.loadN_other, St.cell_other, h1, h2]
  simp (disch := omega) only [go_sem, ↓reduceIte, Nat.reduceEqDiff, Nat.reduceAdd, Nat.reduceMul, Nat.reduceSub, Nat.reduceLT, Nat.reduceLeDiff, Nat.reduceBEq, Nat.reduceLeDiff, reduceCtorEq, Int.reduceLT, Int.reduceEq, Int.reduceLE, Int.reduceAdd, Int.reduceSub, Int.reduceToNat, Int.reduceNeg, Int.toNat_natCast, beq_self_eq_true, wrap64, undef, Nat.zero_add, Nat.add_zero, Int.zero_add, Int.add_zero, Int.sub_zero, St.loadN_other, St.cell_other, h1, h2]
  refine wE_app dotE (OwnT.nil dotE S.n _) hl rfl rfl (Nat.le_refl _) (by simp; omega) (by simp; omega) fun v1 S1 ho1 hb1 hv1 => ?_
  have he1 := (St.Ext.refl S).but hb1 (by simp [blkOf])
  simp (disch := omega) only [go_sem, ↓reduceIte, Nat.reduceEqDiff, Nat.reduceAdd, Nat.reduceMul, Nat.reduceSub, Nat.reduceLT, Nat.reduceLeDiff, Nat.reduceBEq, Nat.reduceLeDiff, reduceCtorEq, Int.reduceLT, Int.reduceEq, Int.reduceLE, Int.reduceAdd, Int.reduceSub, Int.reduceToNat, Int.reduceNeg, Int.toNat_natCast, beq_self_eq_true, wrap64, undef, Nat.zero_add, Nat.add_zero, Int.zero_add, Int.add_zero, Int.sub_zero, St.loadN_other, St.cell_other]
  refine wE_app dotE ho1 (hk.ext dotE he1) rfl rfl he1.n (by simp; omega) (by simp; omega) fun va S2 hoa hb2 hv2 => ?_
  have he2 := he1.but hb2 (ho1.fresh dotE)
  rw [List.nil_append] at hoa
  have hn : (xs ++ ys).length = xs.length + ys.length := by simp
  generalize hzs : xs ++ ys = zs at hoa hn
  simp (disch := omega) only [go_sem, ↓reduceIte, Nat.reduceEqDiff, Nat.reduceAdd, Nat.reduceMul, Nat.reduceSub, Nat.reduceLT, Nat.reduceLeDiff, Nat.reduceBEq, Nat.reduceLeDiff, reduceCtorEq, Int.reduceLT, Int.reduceEq, Int.reduceLE, Int.reduceAdd, Int.reduceSub, Int.reduceToNat, Int.reduceNeg, Int.toNat_natCast, beq_self_eq_true, wrap64, undef, Nat.zero_add, Nat.add_zero, Int.zero_add, Int.add_zero, Int.sub_zero, St.loadN_other, St.cell_other]
  refine wJ_of (F.dots_Rising.J (hl.ext dotE he2) (by omega)) ?_; rintro v3 S3 ⟨ho3, he3⟩
  simp (disch := omega) only [go_sem, ↓reduceIte, Nat.reduceEqDiff, Nat.reduceAdd, Nat.reduceMul, Nat.reduceSub, Nat.reduceLT, Nat.reduceLeDiff, Nat.reduceBEq, Nat.reduceLeDiff, reduceCtorEq, Int.reduceLT, Int.reduceEq, Int.reduceLE, Int.reduceAdd, Int.reduceSub, Int.reduceToNat, Int.reduceNeg, Int.toNat_natCast, beq_self_eq_true, wrap64, undef, Nat.zero_add, Nat.add_zero, Int.zero_add, Int.add_zero, Int.sub_zero, St.loadN_other, St.cell_other]
  refine wJ_of (F.osierref03_Rising.J (hl.ext dotE (he2.trans he3)) (by omega)) ?_; rintro v4 S4 ⟨ho4, he4⟩
  have hr := risen_len xs
  simp (disch := omega) only [go_sem, ↓reduceIte, Nat.reduceEqDiff, Nat.reduceAdd, Nat.reduceMul, Nat.reduceSub, Nat.reduceLT, Nat.reduceLeDiff, Nat.reduceBEq, Nat.reduceLeDiff, reduceCtorEq, Int.reduceLT, Int.reduceEq, Int.reduceLE, Int.reduceAdd, Int.reduceSub, Int.reduceToNat, Int.reduceNeg, Int.toNat_natCast, beq_self_eq_true, wrap64, undef, Nat.zero_add, Nat.add_zero, Int.zero_add, Int.add_zero, Int.sub_zero, St.loadN_other, St.cell_other]
  refine wJ_of (F.osierref03_Same.J ((ho3.sl dotE).ext dotE he4) (ho4.sl dotE) (by omega)) ?_; rintro _ _ ⟨rfl, rfl⟩
  have e24 := he3.trans he4
  simp (disch := omega) only [go_sem, ↓reduceIte, Nat.reduceEqDiff, Nat.reduceAdd, Nat.reduceMul, Nat.reduceSub, Nat.reduceLT, Nat.reduceLeDiff, Nat.reduceBEq, Nat.reduceLeDiff, reduceCtorEq, Int.reduceLT, Int.reduceEq, Int.reduceLE, Int.reduceAdd, Int.reduceSub, Int.reduceToNat, Int.reduceNeg, Int.toNat_natCast, beq_self_eq_true, wrap64, undef, Nat.zero_add, Nat.add_zero, Int.zero_add, Int.add_zero, Int.sub_zero, St.loadN_other, St.cell_other]
  refine wJ_of (F.dots_Union.J (hl.ext dotE (he2.trans e24)) (hk.ext dotE (he2.trans e24)) (by omega) (by omega)) ?_; rintro v5 S5 ⟨ho5, he5⟩
  rw [hzs] at ho5
  simp (disch := omega) only [go_sem, ↓reduceIte, Nat.reduceEqDiff, Nat.reduceAdd, Nat.reduceMul, Nat.reduceSub, Nat.reduceLT, Nat.reduceLeDiff, Nat.reduceBEq, Nat.reduceLeDiff, reduceCtorEq, Int.reduceLT, Int.reduceEq, Int.reduceLE, Int.reduceAdd, Int.reduceSub, Int.reduceToNat, Int.reduceNeg, Int.toNat_natCast, beq_self_eq_true, wrap64, undef, Nat.zero_add, Nat.add_zero, Int.zero_add, Int.add_zero, Int.sub_zero, St.loadN_other, St.cell_other]
  have e25 := e24.trans he5
  refine wJ_of (F.osierref03_Rising.J ((hoa.sl dotE).ext dotE e25) (by omega)) ?_; rintro v6 S6 ⟨ho6, he6⟩
  have hrz := risen_len zs
  simp (disch := omega) only [go_sem, ↓reduceIte, Nat.reduceEqDiff, Nat.reduceAdd, Nat.reduceMul, Nat.reduceSub, Nat.reduceLT, Nat.reduceLeDiff, Nat.reduceBEq, Nat.reduceLeDiff, reduceCtorEq, Int.reduceLT, Int.reduceEq, Int.reduceLE, Int.reduceAdd, Int.reduceSub, Int.reduceToNat, Int.reduceNeg, Int.toNat_natCast, beq_self_eq_true, wrap64, undef, Nat.zero_add, Nat.add_zero, Int.zero_add, Int.add_zero, Int.sub_zero, St.loadN_other, St.cell_other]
  refine wJ_of (F.osierref03_Same.J ((ho5.sl dotE).ext dotE he6) (ho6.sl dotE) (by omega)) ?_; rintro _ _ ⟨rfl, rfl⟩
  have e26 := e25.trans he6
  simp (disch := omega) only [go_sem, ↓reduceIte, Nat.reduceEqDiff, Nat.reduceAdd, Nat.reduceMul, Nat.reduceSub, Nat.reduceLT, Nat.reduceLeDiff, Nat.reduceBEq, Nat.reduceLeDiff, reduceCtorEq, Int.reduceLT, Int.reduceEq, Int.reduceLE, Int.reduceAdd, Int.reduceSub, Int.reduceToNat, Int.reduceNeg, Int.toNat_natCast, beq_self_eq_true, wrap64, undef, Nat.zero_add, Nat.add_zero, Int.zero_add, Int.add_zero, Int.sub_zero, St.loadN_other, St.cell_other]
  refine wJ_of (F.dots_Meet.J (hl.ext dotE (he2.trans e26)) (hk.ext dotE (he2.trans e26)) (by omega) (by omega)) ?_; rintro v7 S7 ⟨ho7, he7⟩
  simp (disch := omega) only [go_sem, ↓reduceIte, Nat.reduceEqDiff, Nat.reduceAdd, Nat.reduceMul, Nat.reduceSub, Nat.reduceLT, Nat.reduceLeDiff, Nat.reduceBEq, Nat.reduceLeDiff, reduceCtorEq, Int.reduceLT, Int.reduceEq, Int.reduceLE, Int.reduceAdd, Int.reduceSub, Int.reduceToNat, Int.reduceNeg, Int.toNat_natCast, beq_self_eq_true, wrap64, undef, Nat.zero_add, Nat.add_zero, Int.zero_add, Int.add_zero, Int.sub_zero, St.loadN_other, St.cell_other]
  have e27 := e26.trans he7
  refine wJ_of (F.osierref03_Choose.J (t := true) (hl.ext dotE (he2.trans e27)) (hk.ext dotE (he2.trans e27)) (by omega) (by omega)) ?_; rintro v8 S8 ⟨ho8, he8⟩
  rw [chosen_true] at ho8
  have hf1 : (risen (xs.filter fun d => decide (d ∈ ys))).length ≤ xs.length := Nat.le_trans (risen_len _) (List.length_filter_le _ _)
  simp (disch := omega) only [go_sem, ↓reduceIte, Nat.reduceEqDiff, Nat.reduceAdd, Nat.reduceMul, Nat.reduceSub, Nat.reduceLT, Nat.reduceLeDiff, Nat.reduceBEq, Nat.reduceLeDiff, reduceCtorEq, Int.reduceLT, Int.reduceEq, Int.reduceLE, Int.reduceAdd, Int.reduceSub, Int.reduceToNat, Int.reduceNeg, Int.toNat_natCast, beq_self_eq_true, wrap64, undef, Nat.zero_add, Nat.add_zero, Int.zero_add, Int.add_zero, Int.sub_zero, St.loadN_other, St.cell_other]
  refine wJ_of (F.osierref03_Same.J ((ho7.sl dotE).ext dotE he8) (ho8.sl dotE) (by omega)) ?_; rintro _ _ ⟨rfl, rfl⟩
  have e28 := e27.trans he8
  simp (disch := omega) only [go_sem, ↓reduceIte, Nat.reduceEqDiff, Nat.reduceAdd, Nat.reduceMul, Nat.reduceSub, Nat.reduceLT, Nat.reduceLeDiff, Nat.reduceBEq, Nat.reduceLeDiff, reduceCtorEq, Int.reduceLT, Int.reduceEq, Int.reduceLE, Int.reduceAdd, Int.reduceSub, Int.reduceToNat, Int.reduceNeg, Int.toNat_natCast, beq_self_eq_true, wrap64, undef, Nat.zero_add, Nat.add_zero, Int.zero_add, Int.add_zero, Int.sub_zero, St.loadN_other, St.cell_other]
  refine wJ_of (F.dots_Minus.J (hl.ext dotE (he2.trans e28)) (hk.ext dotE (he2.trans e28)) (by omega) (by omega)) ?_; rintro v9 S9 ⟨ho9, he9⟩
  simp (disch := omega) only [go_sem, ↓reduceIte, Nat.reduceEqDiff, Nat.reduceAdd, Nat.reduceMul, Nat.reduceSub, Nat.reduceLT, Nat.reduceLeDiff, Nat.reduceBEq, Nat.reduceLeDiff, reduceCtorEq, Int.reduceLT, Int.reduceEq, Int.reduceLE, Int.reduceAdd, Int.reduceSub, Int.reduceToNat, Int.reduceNeg, Int.toNat_natCast, beq_self_eq_true, wrap64, undef, Nat.zero_add, Nat.add_zero, Int.zero_add, Int.add_zero, Int.sub_zero, St.loadN_other, St.cell_other]
  have e29 := e28.trans he9
  refine wJ_of (F.osierref03_Choose.J (t := false) (hl.ext dotE (he2.trans e29)) (hk.ext dotE (he2.trans e29)) (by omega) (by omega)) ?_; rintro vA SA ⟨hoA, heA⟩
  rw [chosen_false] at hoA
  have hf2 : (risen (xs.filter fun d => decide (d ∉ ys))).length ≤ xs.length := Nat.le_trans (risen_len _) (List.length_filter_le _ _)
  simp (disch := omega) only [go_sem, ↓reduceIte, Nat.reduceEqDiff, Nat.reduceAdd, Nat.reduceMul, Nat.reduceSub, Nat.reduceLT, Nat.reduceLeDiff, Nat.reduceBEq, Nat.reduceLeDiff, reduceCtorEq, Int.reduceLT, Int.reduceEq, Int.reduceLE, Int.reduceAdd, Int.reduceSub, Int.reduceToNat, Int.reduceNeg, Int.toNat_natCast, beq_self_eq_true, wrap64, undef, Nat.zero_add, Nat.add_zero, Int.zero_add, Int.add_zero, Int.sub_zero, St.loadN_other, St.cell_other]
  refine wJ_of (F.osierref03_Same.J ((ho9.sl dotE).ext dotE heA) (hoA.sl dotE) (by omega)) ?_; rintro _ _ ⟨rfl, rfl⟩
  have e2A := e29.trans heA
  simp (disch := omega) only [go_sem, ↓reduceIte, Nat.reduceEqDiff, Nat.reduceAdd, Nat.reduceMul, Nat.reduceSub, Nat.reduceLT, Nat.reduceLeDiff, Nat.reduceBEq, Nat.reduceLeDiff, reduceCtorEq, Int.reduceLT, Int.reduceEq, Int.reduceLE, Int.reduceAdd, Int.reduceSub, Int.reduceToNat, Int.reduceNeg, Int.toNat_natCast, beq_self_eq_true, wrap64, undef, Nat.zero_add, Nat.add_zero, Int.zero_add, Int.add_zero, Int.sub_zero, St.loadN_other, St.cell_other]
  refine wJ_of (F.dots_Places.J ((hoa.sl dotE).ext dotE e2A) (by omega)) ?_; rintro _ SB ⟨b, rfl, hb, hm, heB⟩
  have hml := hm.mlenV dotKE natV
  have e2B := e2A.trans heB
  simp (disch := omega) only [go_sem, ↓reduceIte, Nat.reduceEqDiff, Nat.reduceAdd, Nat.reduceMul, Nat.reduceSub, Nat.reduceLT, Nat.reduceLeDiff, Nat.reduceBEq, Nat.reduceLeDiff, reduceCtorEq, Int.reduceLT, Int.reduceEq, Int.reduceLE, Int.reduceAdd, Int.reduceSub, Int.reduceToNat, Int.reduceNeg, Int.toNat_natCast, beq_self_eq_true, wrap64, undef, Nat.zero_add, Nat.add_zero, Int.zero_add, Int.add_zero, Int.sub_zero, St.loadN_other, St.cell_other, hml]
  refine wJ_of (F.osierref03_Rising.J ((hoa.sl dotE).ext dotE e2B) (by omega)) ?_; rintro vC SC ⟨hoC, heC⟩
  obtain ⟨bC, cC, rfl⟩ := (hoC.sl dotE).len dotE
  have hpl := placesN_len zs
  obtain ⟨-, -, hp3, hp4⟩ := placesN_facts zs zs.length (Nat.le_refl _)
  have hmC := hm.ext dotKE natV heC
  have hsC := (hoa.sl dotE).ext dotE (e2B.trans heC)
  obtain ⟨bz, cz, rfl⟩ := hsC.len dotE
  simp (disch := omega) only [go_sem, ↓reduceIte, Nat.reduceEqDiff, Nat.reduceAdd, Nat.reduceMul, Nat.reduceSub, Nat.reduceLT, Nat.reduceLeDiff, Nat.reduceBEq, Nat.reduceLeDiff, reduceCtorEq, Int.reduceLT, Int.reduceEq, Int.reduceLE, Int.reduceAdd, Int.reduceSub, Int.reduceToNat, Int.reduceNeg, Int.toNat_natCast, beq_self_eq_true, wrap64, undef, Nat.zero_add, Nat.add_zero, Int.zero_add, Int.add_zero, Int.sub_zero, St.loadN_other, St.cell_other, hpl]
  refine wC_loop (fun n fr S' => ∃ j, n = j ∧ j ≤ zs.length ∧ S' = SC ∧ fr 6 = .slice bz zs.length cz ∧ fr 11 = .map (some b) ∧ fr 12 = .int .i64 ((j : Int) - 1)) zs.length ⟨zs.length, by simp (disch := omega) only [go_sem, ↓reduceIte, Nat.reduceEqDiff, Nat.reduceAdd, Nat.reduceMul, Nat.reduceSub, Nat.reduceLT, Nat.reduceLeDiff, Nat.reduceBEq, Nat.reduceLeDiff, reduceCtorEq, Int.reduceLT, Int.reduceEq, Int.reduceLE, Int.reduceAdd, Int.reduceSub, Int.reduceToNat, Int.reduceNeg, Int.toNat_natCast, beq_self_eq_true, wrap64, undef, Nat.zero_add, Nat.add_zero, Int.zero_add, Int.add_zero, Int.sub_zero, St.loadN_other, St.cell_other]; simp⟩ ?_
  rintro j fr S' ⟨_, rfl, hj, rfl, h6, h11, h12⟩
  simp (disch := omega) only [go_sem, ↓reduceIte, Nat.reduceEqDiff, Nat.reduceAdd, Nat.reduceMul, Nat.reduceSub, Nat.reduceLT, Nat.reduceLeDiff, Nat.reduceBEq, Nat.reduceLeDiff, reduceCtorEq, Int.reduceLT, Int.reduceEq, Int.reduceLE, Int.reduceAdd, Int.reduceSub, Int.reduceToNat, Int.reduceNeg, Int.toNat_natCast, beq_self_eq_true, wrap64, undef, Nat.zero_add, Nat.add_zero, Int.zero_add, Int.add_zero, Int.sub_zero, St.loadN_other, St.cell_other, F.osierlaw03_DotsJoins.l0, h6, h11, h12]
  refine wcond_dec (fun hlt => ?_) (fun hge => ?_)
  · obtain ⟨i, rfl⟩ : ∃ i, j = i + 1 := ⟨j - 1, by omega⟩
    have e1 : ((i + 1 : Nat) : Int) - 1 = (i : Int) := by omega
    have hli : i < zs.length := by omega
    obtain ⟨p, hp, hpi⟩ := hp4 i zs[i] hli (by simp)
    obtain ⟨hpn, hpe⟩ := hp3 _ _ hp
    have hpe' : zs[p] = zs[i] := by rw [List.getElem?_eq_getElem hpn] at hpe; simpa using hpe
    obtain ⟨bq, off, rfl, hbq, hld⟩ := hsC.dot hli
    obtain ⟨bq', off', hbb, hbq', hld'⟩ := hsC.dot hpn
    simp only [Option.some.injEq, Addr.mk.injEq, and_true] at hbb
    obtain ⟨rfl, rfl⟩ := hbb
    have hc : (0 : Int) ≤ (i : Int) ∧ (i : Int) < (zs.length : Int) := by omega
    have hc2 : (0 : Int) ≤ (p : Int) ∧ (p : Int) < (zs.length : Int) := by omega
    have hlk := fun z ok k => (hmC.lookV dotKE natV z ok k : lookV _ [.i .i64, .i .i64] true z ok _ (dotV k) = _)
    have hgt : ¬ ((i : Int) < (p : Int)) := by omega
    simp (disch := omega) only [go_sem, ↓reduceIte, Nat.reduceEqDiff, Nat.reduceAdd, Nat.reduceMul, Nat.reduceSub, Nat.reduceLT, Nat.reduceLeDiff, Nat.reduceBEq, Nat.reduceLeDiff, reduceCtorEq, Int.reduceLT, Int.reduceEq, Int.reduceLE, Int.reduceAdd, Int.reduceSub, Int.reduceToNat, Int.reduceNeg, Int.toNat_natCast, beq_self_eq_true, wrap64, undef, Nat.zero_add, Nat.add_zero, Int.zero_add, Int.add_zero, Int.sub_zero, St.loadN_other, St.cell_other, h6, h11, h12, e1, hc, hld, hlk, hp, Option.isSome_some, Option.getD_some, hgt, hc2, hld', eqV_dot, hpe']
    exact ⟨i, by omega, i, rfl, by omega, rfl⟩
  · simp (disch := omega) only [go_sem, ↓reduceIte, Nat.reduceEqDiff, Nat.reduceAdd, Nat.reduceMul, Nat.reduceSub, Nat.reduceLT, Nat.reduceLeDiff, Nat.reduceBEq, Nat.reduceLeDiff, reduceCtorEq, Int.reduceLT, Int.reduceEq, Int.reduceLE, Int.reduceAdd, Int.reduceSub, Int.reduceToNat, Int.reduceNeg, Int.toNat_natCast, beq_self_eq_true, wrap64, undef, Nat.zero_add, Nat.add_zero, Int.zero_add, Int.add_zero, Int.sub_zero, St.loadN_other, St.cell_other]

/-- a slice that may be written, of so many dots -/
def WrT (B : Nat) (S : St) (v : Value) (n : Nat) : Prop := n = 0 ∨ ∃ b c cs, v = .slice (some ⟨b, 0, none⟩) n c ∧ B ≤ b ∧ S.obj b = some (.cells true (c * 2) cs) ∧ cs.length = n * 2 ∧ n ≤ c
theorem OwnT.wr {B : Nat} {S : St} {v : Value} {xs : List Dot} (h : OwnT dotE B S v xs) : WrT B S v xs.length := by
  rcases h with ⟨rfl, rfl⟩ | ⟨b, c, rfl, h1, h2, h3, h4⟩
  · exact .inl rfl
  · exact .inr ⟨b, c, _, rfl, h1, h4, dotE.flat_length xs, h3⟩

theorem F.osierlaw03_DotsLaws.J {S : St} {l k q : Value} {xs ys zs : List Dot} (hl : SlT dotE S l xs) (hk : SlT dotE S k ys) (hq : SlT dotE S q zs) : J PR F.osierlaw03_DotsLaws [l, k, q] S fun v _ => v = .bool true := by
  obtain ⟨ba, ca, rfl⟩ := hl.len dotE
  obtain ⟨bb, cb, rfl⟩ := hk.len dotE
  obtain ⟨bc, cc, rfl⟩ := hq.len dotE
  refine J_by PR.mixed F.osierlaw03_DotsLaws.ok (by simp) ?_
  simp (disch := omega) only [go_sem, ↓reduceIte, Nat.reduceEqDiff, Nat.reduceAdd, Nat.reduceMul, Nat.reduceSub, Nat.reduceLT, Nat.reduceLeDiff, Nat.reduceBEq, Nat.reduceLeDiff, reduceCtorEq, Int.reduceLT, Int.reduceEq, Int.reduceLE, Int.reduceAdd, Int.reduceSub, Int.reduceToNat, Int.reduceNeg, Int.toNat_natCast, beq_self_eq_true, wrap64, undef, Nat.zero_add, Nat.add_zero, Int.zero_add, Int.add_zero, Int.sub_zero, St.loadN_other, St.cell_other]
  refine wJ_of F.osierlaw03_awake_P ?_; rintro _ _ ⟨rfl, rfl⟩
  by_cases h1 : (100 : Int) < (xs.length : Int)
  · simp (disch := omega) only [go_sem, ↓reduceIte, Nat.reduceEqDiff, Nat.reduceAdd, Nat.reduceMul, Nat.reduceSub, Nat.reduceLT, Nat.reduceLeDiff, Nat.reduceBEq, Nat.reduceLeDiff, reduceCtorEq, Int.reduceLT, Int.reduceEq, Int.reduceLE, Int.reduceAdd, Int.reduceSub, Int.reduceToNat, Int.reduceNeg, Int.toNat_natCast, beq_self_eq_true, wrap64, undef, Nat.zero_add, Nat.add_zero, Int.zero_add, Int.add_zero, Int.sub_zero, St.loadN_other, St.cell_other, h1]
  by_cases h2 : (100 : Int) < (ys.length : Int)
  · simp (disch := omega) only [go_sem, ↓reduceIte, Nat.reduceEqDiff, Nat.reduceAdd, Nat.reduceMul, Nat.reduceSub, Nat.reduceLT, Nat.reduceLeDiff, Nat.reduceBEq, Nat.reduceLeDiff, reduceCtorEq, Int.reduceLT, Int.reduceEq, Int.reduceLE, Int.reduceAdd, Int.reduceSub, Int.reduceToNat, Int.reduceNeg, Int.toNat_natCast, beq_self_eq_true, wrap64, undef, Nat.zero_add, Nat.add_zero, Int.zero_add, Int.add_zero, Int.sub_zero, St.loadN_other, St.cell_other, h1, h2]
  by_cases h3 : (100 : Int) < (zs.length : Int)
  · simp (disch := omega) only [go_sem, ↓reduceIte, Nat.reduceEqDiff, Nat.reduceAdd, Nat.reduceMul, Nat.reduceSub, Nat.reduceLT, Nat.reduceLeDiff, Nat.reduceBEq, Nat.reduceLeDiff, reduceCtorEq, Int.reduceLT, Int.reduceEq, Int.reduceLE, Int.reduceAdd, Int.reduceSub, Int.reduceToNat, Int.reduceNeg, Int.toNat_natCast, beq_self_eq_true, wrap64, undef, Nat.zero_add, Nat.add_zero, Int.zero_add, Int.add_zero, Int.sub_zero, St.loadN_other, St.cell_other, h1, h2, h3]
  simp (disch := omega) only [go_sem, ↓reduceIte, Nat.reduceEqDiff, Nat.reduceAdd, Nat.reduceMul, Nat.reduceSub, Nat.reduceLT, Nat.reduceLeDiff, Nat.reduceBEq, Nat.reduceLeDiff, reduceCtorEq, Int.reduceLT, Int.reduceEq, Int.reduceLE, Int.reduceAdd, Int.reduceSub, Int.reduceToNat, Int.reduceNeg, Int.toNat_natCast, beq_self_eq_true, wrap64, undef, Nat.zero_add, Nat.add_zero, Int.zero_add, Int.add_zero, Int.sub_zero, St.loadN_other, St.cell_other, h1, h2, h3]
  refine wE_app dotE (OwnT.nil dotE S.n _) hl rfl rfl (Nat.le_refl _) (by simp; omega) (by simp; omega) fun vw S1 how hb1 hv1 => ?_
  have he1 := (St.Ext.refl S).but hb1 (by simp [blkOf])
  rw [List.nil_append] at how
  replace hl := hl.ext dotE he1
  replace hk := hk.ext dotE he1
  replace hq := hq.ext dotE he1
  have rl1 := risen_len (xs ++ ys)
  have rl2 := risen_len (ys ++ xs)
  have rl3 := risen_len (ys ++ zs)
  have hf1 : (risen (xs.filter fun d => decide (d ∈ ys))).length ≤ xs.length := Nat.le_trans (risen_len _) (List.length_filter_le _ _)
  have hf2 : (risen (xs.filter fun d => decide (d ∉ ys))).length ≤ xs.length := Nat.le_trans (risen_len _) (List.length_filter_le _ _)
  simp only [List.length_append] at rl1 rl2 rl3
  simp (disch := omega) only [go_sem, ↓reduceIte, Nat.reduceEqDiff, Nat.reduceAdd, Nat.reduceMul, Nat.reduceSub, Nat.reduceLT, Nat.reduceLeDiff, Nat.reduceBEq, Nat.reduceLeDiff, reduceCtorEq, Int.reduceLT, Int.reduceEq, Int.reduceLE, Int.reduceAdd, Int.reduceSub, Int.reduceToNat, Int.reduceNeg, Int.toNat_natCast, beq_self_eq_true, wrap64, undef, Nat.zero_add, Nat.add_zero, Int.zero_add, Int.add_zero, Int.sub_zero, St.loadN_other, St.cell_other]
  refine wJ_of (F.dots_Union.J hl hk (by omega) (by omega)) ?_; rintro vu S2 ⟨hou, he2⟩
  simp (disch := omega) only [go_sem, ↓reduceIte, Nat.reduceEqDiff, Nat.reduceAdd, Nat.reduceMul, Nat.reduceSub, Nat.reduceLT, Nat.reduceLeDiff, Nat.reduceBEq, Nat.reduceLeDiff, reduceCtorEq, Int.reduceLT, Int.reduceEq, Int.reduceLE, Int.reduceAdd, Int.reduceSub, Int.reduceToNat, Int.reduceNeg, Int.toNat_natCast, beq_self_eq_true, wrap64, undef, Nat.zero_add, Nat.add_zero, Int.zero_add, Int.add_zero, Int.sub_zero, St.loadN_other, St.cell_other]
  refine wJ_of (F.dots_Meet.J (hl.ext dotE he2) (hk.ext dotE he2) (by omega) (by omega)) ?_; rintro vm S3 ⟨hom, he3⟩
  have e3 := he2.trans he3
  simp (disch := omega) only [go_sem, ↓reduceIte, Nat.reduceEqDiff, Nat.reduceAdd, Nat.reduceMul, Nat.reduceSub, Nat.reduceLT, Nat.reduceLeDiff, Nat.reduceBEq, Nat.reduceLeDiff, reduceCtorEq, Int.reduceLT, Int.reduceEq, Int.reduceLE, Int.reduceAdd, Int.reduceSub, Int.reduceToNat, Int.reduceNeg, Int.toNat_natCast, beq_self_eq_true, wrap64, undef, Nat.zero_add, Nat.add_zero, Int.zero_add, Int.add_zero, Int.sub_zero, St.loadN_other, St.cell_other]
  refine wJ_of (F.dots_Union.J (hk.ext dotE e3) (hl.ext dotE e3) (by omega) (by omega)) ?_; rintro v4 S4 ⟨ho4, he4⟩
  have e4 := e3.trans he4
  simp (disch := omega) only [go_sem, ↓reduceIte, Nat.reduceEqDiff, Nat.reduceAdd, Nat.reduceMul, Nat.reduceSub, Nat.reduceLT, Nat.reduceLeDiff, Nat.reduceBEq, Nat.reduceLeDiff, reduceCtorEq, Int.reduceLT, Int.reduceEq, Int.reduceLE, Int.reduceAdd, Int.reduceSub, Int.reduceToNat, Int.reduceNeg, Int.toNat_natCast, beq_self_eq_true, wrap64, undef, Nat.zero_add, Nat.add_zero, Int.zero_add, Int.add_zero, Int.sub_zero, St.loadN_other, St.cell_other]
  have e34 := he3.trans he4
  refine wJ_of (F.osierref03_Same.J ((hou.sl dotE).ext dotE e34) (ho4.sl dotE) (by omega)) ?_; rintro _ _ ⟨rfl, rfl⟩
  have q1 : risen (xs ++ ys) = risen (ys ++ xs) := risen_congr fun d => by simp [or_comm]
  simp (disch := omega) only [go_sem, ↓reduceIte, Nat.reduceEqDiff, Nat.reduceAdd, Nat.reduceMul, Nat.reduceSub, Nat.reduceLT, Nat.reduceLeDiff, Nat.reduceBEq, Nat.reduceLeDiff, reduceCtorEq, Int.reduceLT, Int.reduceEq, Int.reduceLE, Int.reduceAdd, Int.reduceSub, Int.reduceToNat, Int.reduceNeg, Int.toNat_natCast, beq_self_eq_true, wrap64, undef, Nat.zero_add, Nat.add_zero, Int.zero_add, Int.add_zero, Int.sub_zero, St.loadN_other, St.cell_other, decide_eq_true q1]
  refine wJ_of (F.dots_Meet.J (hk.ext dotE e4) (hl.ext dotE e4) (by omega) (by omega)) ?_; rintro v5 S5 ⟨ho5, he5⟩
  have e5 := e4.trans he5
  simp (disch := omega) only [go_sem, ↓reduceIte, Nat.reduceEqDiff, Nat.reduceAdd, Nat.reduceMul, Nat.reduceSub, Nat.reduceLT, Nat.reduceLeDiff, Nat.reduceBEq, Nat.reduceLeDiff, reduceCtorEq, Int.reduceLT, Int.reduceEq, Int.reduceLE, Int.reduceAdd, Int.reduceSub, Int.reduceToNat, Int.reduceNeg, Int.toNat_natCast, beq_self_eq_true, wrap64, undef, Nat.zero_add, Nat.add_zero, Int.zero_add, Int.add_zero, Int.sub_zero, St.loadN_other, St.cell_other]
  refine wJ_of (F.osierref03_Same.J ((hom.sl dotE).ext dotE (he4.trans he5)) (ho5.sl dotE) (by omega)) ?_; rintro _ _ ⟨rfl, rfl⟩
  have q2 : risen (xs.filter fun d => decide (d ∈ ys)) = risen (ys.filter fun d => decide (d ∈ xs)) := risen_congr fun d => by simp [and_comm]
  simp (disch := omega) only [go_sem, ↓reduceIte, Nat.reduceEqDiff, Nat.reduceAdd, Nat.reduceMul, Nat.reduceSub, Nat.reduceLT, Nat.reduceLeDiff, Nat.reduceBEq, Nat.reduceLeDiff, reduceCtorEq, Int.reduceLT, Int.reduceEq, Int.reduceLE, Int.reduceAdd, Int.reduceSub, Int.reduceToNat, Int.reduceNeg, Int.toNat_natCast, beq_self_eq_true, wrap64, undef, Nat.zero_add, Nat.add_zero, Int.zero_add, Int.add_zero, Int.sub_zero, St.loadN_other, St.cell_other, decide_eq_true q2]
  refine wJ_of (F.dots_Minus.J (hl.ext dotE e5) (hk.ext dotE e5) (by omega) (by omega)) ?_; rintro v6 S6 ⟨ho6, he6⟩
  have e6 := e5.trans he6
  simp (disch := omega) only [go_sem, ↓reduceIte, Nat.reduceEqDiff, Nat.reduceAdd, Nat.reduceMul, Nat.reduceSub, Nat.reduceLT, Nat.reduceLeDiff, Nat.reduceBEq, Nat.reduceLeDiff, reduceCtorEq, Int.reduceLT, Int.reduceEq, Int.reduceLE, Int.reduceAdd, Int.reduceSub, Int.reduceToNat, Int.reduceNeg, Int.toNat_natCast, beq_self_eq_true, wrap64, undef, Nat.zero_add, Nat.add_zero, Int.zero_add, Int.add_zero, Int.sub_zero, St.loadN_other, St.cell_other]
  refine wJ_of (F.dots_Union.J ((hom.sl dotE).ext dotE ((he4.trans he5).trans he6)) (ho6.sl dotE) (by omega) (by omega)) ?_; rintro v7 S7 ⟨ho7, he7⟩
  have e7 := e6.trans he7
  simp (disch := omega) only [go_sem, ↓reduceIte, Nat.reduceEqDiff, Nat.reduceAdd, Nat.reduceMul, Nat.reduceSub, Nat.reduceLT, Nat.reduceLeDiff, Nat.reduceBEq, Nat.reduceLeDiff, reduceCtorEq, Int.reduceLT, Int.reduceEq, Int.reduceLE, Int.reduceAdd, Int.reduceSub, Int.reduceToNat, Int.reduceNeg, Int.toNat_natCast, beq_self_eq_true, wrap64, undef, Nat.zero_add, Nat.add_zero, Int.zero_add, Int.add_zero, Int.sub_zero, St.loadN_other, St.cell_other]
  refine wJ_of (F.dots_Rising.J (hl.ext dotE e7) (by omega)) ?_; rintro v8 S8 ⟨ho8, he8⟩
  have e8 := e7.trans he8
  have rl4 := risen_len (risen (xs.filter fun d => decide (d ∈ ys)) ++ risen (xs.filter fun d => decide (d ∉ ys)))
  simp only [List.length_append] at rl4
  simp (disch := omega) only [go_sem, ↓reduceIte, Nat.reduceEqDiff, Nat.reduceAdd, Nat.reduceMul, Nat.reduceSub, Nat.reduceLT, Nat.reduceLeDiff, Nat.reduceBEq, Nat.reduceLeDiff, reduceCtorEq, Int.reduceLT, Int.reduceEq, Int.reduceLE, Int.reduceAdd, Int.reduceSub, Int.reduceToNat, Int.reduceNeg, Int.toNat_natCast, beq_self_eq_true, wrap64, undef, Nat.zero_add, Nat.add_zero, Int.zero_add, Int.add_zero, Int.sub_zero, St.loadN_other, St.cell_other]
  refine wJ_of (F.osierref03_Same.J ((ho7.sl dotE).ext dotE he8) (ho8.sl dotE) (by omega)) ?_; rintro _ _ ⟨rfl, rfl⟩
  have q3 : risen (risen (xs.filter fun d => decide (d ∈ ys)) ++ risen (xs.filter fun d => decide (d ∉ ys))) = risen xs := risen_congr fun d => by
    simp only [List.mem_append, (risen_ris _).2, List.mem_filter, decide_eq_true_eq]
    by_cases hd : d ∈ ys <;> simp [hd]
  simp (disch := omega) only [go_sem, ↓reduceIte, Nat.reduceEqDiff, Nat.reduceAdd, Nat.reduceMul, Nat.reduceSub, Nat.reduceLT, Nat.reduceLeDiff, Nat.reduceBEq, Nat.reduceLeDiff, reduceCtorEq, Int.reduceLT, Int.reduceEq, Int.reduceLE, Int.reduceAdd, Int.reduceSub, Int.reduceToNat, Int.reduceNeg, Int.toNat_natCast, beq_self_eq_true, wrap64, undef, Nat.zero_add, Nat.add_zero, Int.zero_add, Int.add_zero, Int.sub_zero, St.loadN_other, St.cell_other, decide_eq_true q3]
  have e28 := ((((he3.trans he4).trans he5).trans he6).trans he7).trans he8
  refine wJ_of (F.dots_Union.J ((hou.sl dotE).ext dotE e28) (hq.ext dotE e8) (by omega) (by omega)) ?_; rintro v9 S9 ⟨ho9, he9⟩
  have e9 := e8.trans he9
  simp (disch := omega) only [go_sem, ↓reduceIte, Nat.reduceEqDiff, Nat.reduceAdd, Nat.reduceMul, Nat.reduceSub, Nat.reduceLT, Nat.reduceLeDiff, Nat.reduceBEq, Nat.reduceLeDiff, reduceCtorEq, Int.reduceLT, Int.reduceEq, Int.reduceLE, Int.reduceAdd, Int.reduceSub, Int.reduceToNat, Int.reduceNeg, Int.toNat_natCast, beq_self_eq_true, wrap64, undef, Nat.zero_add, Nat.add_zero, Int.zero_add, Int.add_zero, Int.sub_zero, St.loadN_other, St.cell_other]
  refine wJ_of (F.dots_Union.J (hk.ext dotE e9) (hq.ext dotE e9) (by omega) (by omega)) ?_; rintro vA SA ⟨hoA, heA⟩
  have eA := e9.trans heA
  simp (disch := omega) only [go_sem, ↓reduceIte, Nat.reduceEqDiff, Nat.reduceAdd, Nat.reduceMul, Nat.reduceSub, Nat.reduceLT, Nat.reduceLeDiff, Nat.reduceBEq, Nat.reduceLeDiff, reduceCtorEq, Int.reduceLT, Int.reduceEq, Int.reduceLE, Int.reduceAdd, Int.reduceSub, Int.reduceToNat, Int.reduceNeg, Int.toNat_natCast, beq_self_eq_true, wrap64, undef, Nat.zero_add, Nat.add_zero, Int.zero_add, Int.add_zero, Int.sub_zero, St.loadN_other, St.cell_other]
  refine wJ_of (F.dots_Union.J (hl.ext dotE eA) (hoA.sl dotE) (by omega) (by omega)) ?_; rintro vB SB ⟨hoB, heB⟩
  have eB := eA.trans heB
  have rl5 := risen_len (risen (xs ++ ys) ++ zs)
  simp only [List.length_append] at rl5
  simp (disch := omega) only [go_sem, ↓reduceIte, Nat.reduceEqDiff, Nat.reduceAdd, Nat.reduceMul, Nat.reduceSub, Nat.reduceLT, Nat.reduceLeDiff, Nat.reduceBEq, Nat.reduceLeDiff, reduceCtorEq, Int.reduceLT, Int.reduceEq, Int.reduceLE, Int.reduceAdd, Int.reduceSub, Int.reduceToNat, Int.reduceNeg, Int.toNat_natCast, beq_self_eq_true, wrap64, undef, Nat.zero_add, Nat.add_zero, Int.zero_add, Int.add_zero, Int.sub_zero, St.loadN_other, St.cell_other]
  refine wJ_of (F.osierref03_Same.J ((ho9.sl dotE).ext dotE (heA.trans heB)) (hoB.sl dotE) (by omega)) ?_; rintro _ _ ⟨rfl, rfl⟩
  have q4 : risen (risen (xs ++ ys) ++ zs) = risen (xs ++ risen (ys ++ zs)) := risen_congr fun d => by
    simp only [List.mem_append, (risen_ris _).2, or_assoc]
  simp (disch := omega) only [go_sem, ↓reduceIte, Nat.reduceEqDiff, Nat.reduceAdd, Nat.reduceMul, Nat.reduceSub, Nat.reduceLT, Nat.reduceLeDiff, Nat.reduceBEq, Nat.reduceLeDiff, reduceCtorEq, Int.reduceLT, Int.reduceEq, Int.reduceLE, Int.reduceAdd, Int.reduceSub, Int.reduceToNat, Int.reduceNeg, Int.toNat_natCast, beq_self_eq_true, wrap64, undef, Nat.zero_add, Nat.add_zero, Int.zero_add, Int.add_zero, Int.sub_zero, St.loadN_other, St.cell_other, decide_eq_true q4]
  have e2B := ((e28.trans he9).trans heA).trans heB
  refine wJ_of (F.dots_Rising.J ((hou.sl dotE).ext dotE e2B) (by omega)) ?_; rintro vC SC ⟨hoC, heC⟩
  have eC := eB.trans heC
  have q5 : risen (risen (xs ++ ys)) = risen (xs ++ ys) := risen_congr (risen_ris _).2
  simp (disch := omega) only [go_sem, ↓reduceIte, Nat.reduceEqDiff, Nat.reduceAdd, Nat.reduceMul, Nat.reduceSub, Nat.reduceLT, Nat.reduceLeDiff, Nat.reduceBEq, Nat.reduceLeDiff, reduceCtorEq, Int.reduceLT, Int.reduceEq, Int.reduceLE, Int.reduceAdd, Int.reduceSub, Int.reduceToNat, Int.reduceNeg, Int.toNat_natCast, beq_self_eq_true, wrap64, undef, Nat.zero_add, Nat.add_zero, Int.zero_add, Int.add_zero, Int.sub_zero, St.loadN_other, St.cell_other]
  refine wJ_of (F.osierref03_Same.J (hoC.sl dotE) ((hou.sl dotE).ext dotE (e2B.trans heC)) (by rw [q5]; omega)) ?_; rintro _ _ ⟨rfl, rfl⟩
  simp (disch := omega) only [go_sem, ↓reduceIte, Nat.reduceEqDiff, Nat.reduceAdd, Nat.reduceMul, Nat.reduceSub, Nat.reduceLT, Nat.reduceLeDiff, Nat.reduceBEq, Nat.reduceLeDiff, reduceCtorEq, Int.reduceLT, Int.reduceEq, Int.reduceLE, Int.reduceAdd, Int.reduceSub, Int.reduceToNat, Int.reduceNeg, Int.toNat_natCast, beq_self_eq_true, wrap64, undef, Nat.zero_add, Nat.add_zero, Int.zero_add, Int.add_zero, Int.sub_zero, St.loadN_other, St.cell_other, decide_eq_true q5]
  have hwu := (hou.ext dotE (e2B.trans heC)).wr
  obtain ⟨bu, cu, hvu⟩ := (hou.sl dotE).len dotE
  have hku : (risen (xs ++ ys)).length ≤ 200 := by omega
  generalize risen (xs ++ ys) = us at hvu hwu hku
  subst hvu
  refine wC_at 0 (fun fr S' => fr 0 = .slice ba xs.length ca ∧ fr 8 = vw ∧ fr 11 = .bool true ∧ fr 12 = .bool true ∧ fr 13 = .bool true ∧ S1.Ext S') ?_ ?_
  · generalize us.length = k at *
    refine wC_loop (fun n fr S' => ∃ i, n = k - i ∧ i ≤ k ∧ fr 0 = .slice ba xs.length ca ∧ fr 8 = vw ∧ fr 9 = .slice bu k cu ∧ fr 11 = .bool true ∧ fr 12 = .bool true ∧ fr 13 = .bool true ∧ fr 14 = .int .i64 (i : Nat) ∧ S1.Ext S' ∧ WrT S1.n S' (.slice bu k cu) k) k ⟨0, by simp (disch := omega) only [go_sem, ↓reduceIte, Nat.reduceEqDiff, Nat.reduceAdd, Nat.reduceMul, Nat.reduceSub, Nat.reduceLT, Nat.reduceLeDiff, Nat.reduceBEq, Nat.reduceLeDiff, reduceCtorEq, Int.reduceLT, Int.reduceEq, Int.reduceLE, Int.reduceAdd, Int.reduceSub, Int.reduceToNat, Int.reduceNeg, Int.toNat_natCast, beq_self_eq_true, wrap64, undef, Nat.zero_add, Nat.add_zero, Int.zero_add, Int.add_zero, Int.sub_zero, St.loadN_other, St.cell_other, wrap64]; first | exact ⟨by omega, by omega, eC, hwu⟩ | exact ⟨by omega, eC, hwu⟩ | exact ⟨eC, hwu⟩ | trace_state⟩ ?_
    rintro n fr S' ⟨i, rfl, hi, h0, h8, h9, h11, h12, h13, h14, he', hw'⟩
    simp (disch := omega) only [go_sem, ↓reduceIte, Nat.reduceEqDiff, Nat.reduceAdd, Nat.reduceMul, Nat.reduceSub, Nat.reduceLT, Nat.reduceLeDiff, Nat.reduceBEq, Nat.reduceLeDiff, reduceCtorEq, Int.reduceLT, Int.reduceEq, Int.reduceLE, Int.reduceAdd, Int.reduceSub, Int.reduceToNat, Int.reduceNeg, Int.toNat_natCast, beq_self_eq_true, wrap64, undef, Nat.zero_add, Nat.add_zero, Int.zero_add, Int.add_zero, Int.sub_zero, St.loadN_other, St.cell_other, F.osierlaw03_DotsLaws.l0, h0, h8, h9, h11, h12, h13, h14]
    refine wcond_dec (fun hlt => ?_) (fun hge => ?_)
    · have hc : (0 : Int) ≤ (i : Int) ∧ (i : Int) < ((k : Nat) : Int) := by omega
      rcases hw' with h | ⟨b, c, cs, hv, hB, hob, hlen, hcap⟩
      · omega
      injection hv with hv1 hv2 hv3
      subst hv1 hv3
      simp (disch := omega) only [go_sem, ↓reduceIte, Nat.reduceEqDiff, Nat.reduceAdd, Nat.reduceMul, Nat.reduceSub, Nat.reduceLT, Nat.reduceLeDiff, Nat.reduceBEq, Nat.reduceLeDiff, reduceCtorEq, Int.reduceLT, Int.reduceEq, Int.reduceLE, Int.reduceAdd, Int.reduceSub, Int.reduceToNat, Int.reduceNeg, Int.toNat_natCast, beq_self_eq_true, wrap64, undef, Nat.zero_add, Nat.add_zero, Int.zero_add, Int.add_zero, Int.sub_zero, St.loadN_other, St.cell_other, h9, h14, hc]
      refine wst_of hob rfl rfl (by omega) (by omega) ?_
      simp (disch := omega) only [go_sem, ↓reduceIte, Nat.reduceEqDiff, Nat.reduceAdd, Nat.reduceMul, Nat.reduceSub, Nat.reduceLT, Nat.reduceLeDiff, Nat.reduceBEq, Nat.reduceLeDiff, reduceCtorEq, Int.reduceLT, Int.reduceEq, Int.reduceLE, Int.reduceAdd, Int.reduceSub, Int.reduceToNat, Int.reduceNeg, Int.toNat_natCast, beq_self_eq_true, wrap64, undef, Nat.zero_add, Nat.add_zero, Int.zero_add, Int.add_zero, Int.sub_zero, St.loadN_other, St.cell_other, h0, h8, h9, h11, h12, h13, h14]
      refine ⟨k - (i + 1), by omega, i + 1, rfl, by omega, rfl, ⟨Nat.le_trans he'.n (by rw [St.put_n]; omega), fun k hk => ?_⟩, .inr ⟨b, _, _, rfl, hB, St.put_same _ _ _, ?_, hcap⟩⟩
      · rw [St.put_other _ _ _ (by omega)]
        exact he'.obj k hk
      · simp
        omega
    · simp (disch := omega) only [go_sem, ↓reduceIte, Nat.reduceEqDiff, Nat.reduceAdd, Nat.reduceMul, Nat.reduceSub, Nat.reduceLT, Nat.reduceLeDiff, Nat.reduceBEq, Nat.reduceLeDiff, reduceCtorEq, Int.reduceLT, Int.reduceEq, Int.reduceLE, Int.reduceAdd, Int.reduceSub, Int.reduceToNat, Int.reduceNeg, Int.toNat_natCast, beq_self_eq_true, wrap64, undef, Nat.zero_add, Nat.add_zero, Int.zero_add, Int.add_zero, Int.sub_zero, St.loadN_other, St.cell_other, h0, h8, h9, h11, h12, h13, h14]
      exact he'
  rintro fr S' ⟨h0, h8, h11, h12, h13, heD⟩
  simp (disch := omega) only [go_sem, ↓reduceIte, Nat.reduceEqDiff, Nat.reduceAdd, Nat.reduceMul, Nat.reduceSub, Nat.reduceLT, Nat.reduceLeDiff, Nat.reduceBEq, Nat.reduceLeDiff, reduceCtorEq, Int.reduceLT, Int.reduceEq, Int.reduceLE, Int.reduceAdd, Int.reduceSub, Int.reduceToNat, Int.reduceNeg, Int.toNat_natCast, beq_self_eq_true, wrap64, undef, Nat.zero_add, Nat.add_zero, Int.zero_add, Int.add_zero, Int.sub_zero, St.loadN_other, St.cell_other, h0, h8, h11, h12, h13]
  refine wJ_of (F.dots_Rising.J (hl.ext dotE heD) (by omega)) ?_; rintro vE SE ⟨hoE, heE⟩
  have hwr := (hoE.mono dotE (B' := S1.n) heD.n).wr
  obtain ⟨br, cr, hvr⟩ := (hoE.sl dotE).len dotE
  have hkr : (risen xs).length ≤ 200 := by have := risen_len xs; omega
  generalize risen xs = rs at hvr hwr hkr
  subst hvr
  have eE := heD.trans heE
  simp (disch := omega) only [go_sem, ↓reduceIte, Nat.reduceEqDiff, Nat.reduceAdd, Nat.reduceMul, Nat.reduceSub, Nat.reduceLT, Nat.reduceLeDiff, Nat.reduceBEq, Nat.reduceLeDiff, reduceCtorEq, Int.reduceLT, Int.reduceEq, Int.reduceLE, Int.reduceAdd, Int.reduceSub, Int.reduceToNat, Int.reduceNeg, Int.toNat_natCast, beq_self_eq_true, wrap64, undef, Nat.zero_add, Nat.add_zero, Int.zero_add, Int.add_zero, Int.sub_zero, St.loadN_other, St.cell_other, h0, h8, h11, h12, h13]
  refine wC_at 2 (fun fr S' => fr 0 = .slice ba xs.length ca ∧ fr 8 = vw ∧ fr 11 = .bool true ∧ fr 12 = .bool true ∧ fr 13 = .bool true ∧ S1.Ext S') ?_ ?_
  · generalize rs.length = k at *
    refine wC_loop (fun n fr S' => ∃ i, n = k - i ∧ i ≤ k ∧ fr 0 = .slice ba xs.length ca ∧ fr 8 = vw ∧ fr 15 = .slice br k cr ∧ fr 11 = .bool true ∧ fr 12 = .bool true ∧ fr 13 = .bool true ∧ fr 16 = .int .i64 (i : Nat) ∧ S1.Ext S' ∧ WrT S1.n S' (.slice br k cr) k) k ⟨0, by simp (disch := omega) only [go_sem, ↓reduceIte, Nat.reduceEqDiff, Nat.reduceAdd, Nat.reduceMul, Nat.reduceSub, Nat.reduceLT, Nat.reduceLeDiff, Nat.reduceBEq, Nat.reduceLeDiff, reduceCtorEq, Int.reduceLT, Int.reduceEq, Int.reduceLE, Int.reduceAdd, Int.reduceSub, Int.reduceToNat, Int.reduceNeg, Int.toNat_natCast, beq_self_eq_true, wrap64, undef, Nat.zero_add, Nat.add_zero, Int.zero_add, Int.add_zero, Int.sub_zero, St.loadN_other, St.cell_other, h0, h8, h11, h12, h13]; first | exact ⟨by omega, by omega, eE, hwr⟩ | exact ⟨by omega, eE, hwr⟩ | exact ⟨eE, hwr⟩ | trace_state⟩ ?_
    rintro n fr S' ⟨i, rfl, hi, h0, h8, h9, h11, h12, h13, h14, he', hw'⟩
    simp (disch := omega) only [go_sem, ↓reduceIte, Nat.reduceEqDiff, Nat.reduceAdd, Nat.reduceMul, Nat.reduceSub, Nat.reduceLT, Nat.reduceLeDiff, Nat.reduceBEq, Nat.reduceLeDiff, reduceCtorEq, Int.reduceLT, Int.reduceEq, Int.reduceLE, Int.reduceAdd, Int.reduceSub, Int.reduceToNat, Int.reduceNeg, Int.toNat_natCast, beq_self_eq_true, wrap64, undef, Nat.zero_add, Nat.add_zero, Int.zero_add, Int.add_zero, Int.sub_zero, St.loadN_other, St.cell_other, F.osierlaw03_DotsLaws.l1, h0, h8, h9, h11, h12, h13, h14]
    refine wcond_dec (fun hlt => ?_) (fun hge => ?_)
    · have hc : (0 : Int) ≤ (i : Int) ∧ (i : Int) < ((k : Nat) : Int) := by omega
      rcases hw' with h | ⟨b, c, cs, hv, hB, hob, hlen, hcap⟩
      · omega
      injection hv with hv1 hv2 hv3
      subst hv1 hv3
      simp (disch := omega) only [go_sem, ↓reduceIte, Nat.reduceEqDiff, Nat.reduceAdd, Nat.reduceMul, Nat.reduceSub, Nat.reduceLT, Nat.reduceLeDiff, Nat.reduceBEq, Nat.reduceLeDiff, reduceCtorEq, Int.reduceLT, Int.reduceEq, Int.reduceLE, Int.reduceAdd, Int.reduceSub, Int.reduceToNat, Int.reduceNeg, Int.toNat_natCast, beq_self_eq_true, wrap64, undef, Nat.zero_add, Nat.add_zero, Int.zero_add, Int.add_zero, Int.sub_zero, St.loadN_other, St.cell_other, h9, h14, hc]
      refine wst_of hob rfl rfl (by omega) (by omega) ?_
      simp (disch := omega) only [go_sem, ↓reduceIte, Nat.reduceEqDiff, Nat.reduceAdd, Nat.reduceMul, Nat.reduceSub, Nat.reduceLT, Nat.reduceLeDiff, Nat.reduceBEq, Nat.reduceLeDiff, reduceCtorEq, Int.reduceLT, Int.reduceEq, Int.reduceLE, Int.reduceAdd, Int.reduceSub, Int.reduceToNat, Int.reduceNeg, Int.toNat_natCast, beq_self_eq_true, wrap64, undef, Nat.zero_add, Nat.add_zero, Int.zero_add, Int.add_zero, Int.sub_zero, St.loadN_other, St.cell_other, h0, h8, h9, h11, h12, h13, h14]
      refine ⟨k - (i + 1), by omega, i + 1, rfl, by omega, rfl, ⟨Nat.le_trans he'.n (by rw [St.put_n]; omega), fun k hk => ?_⟩, .inr ⟨b, _, _, rfl, hB, St.put_same _ _ _, ?_, hcap⟩⟩
      · rw [St.put_other _ _ _ (by omega)]
        exact he'.obj k hk
      · simp
        omega
    · simp (disch := omega) only [go_sem, ↓reduceIte, Nat.reduceEqDiff, Nat.reduceAdd, Nat.reduceMul, Nat.reduceSub, Nat.reduceLT, Nat.reduceLeDiff, Nat.reduceBEq, Nat.reduceLeDiff, reduceCtorEq, Int.reduceLT, Int.reduceEq, Int.reduceLE, Int.reduceAdd, Int.reduceSub, Int.reduceToNat, Int.reduceNeg, Int.toNat_natCast, beq_self_eq_true, wrap64, undef, Nat.zero_add, Nat.add_zero, Int.zero_add, Int.add_zero, Int.sub_zero, St.loadN_other, St.cell_other, h0, h8, h9, h11, h12, h13, h14]
      exact he'
  rintro fr S' ⟨h0, h8, h11, h12, h13, heF⟩
  simp (disch := omega) only [go_sem, ↓reduceIte, Nat.reduceEqDiff, Nat.reduceAdd, Nat.reduceMul, Nat.reduceSub, Nat.reduceLT, Nat.reduceLeDiff, Nat.reduceBEq, Nat.reduceLeDiff, reduceCtorEq, Int.reduceLT, Int.reduceEq, Int.reduceLE, Int.reduceAdd, Int.reduceSub, Int.reduceToNat, Int.reduceNeg, Int.toNat_natCast, beq_self_eq_true, wrap64, undef, Nat.zero_add, Nat.add_zero, Int.zero_add, Int.add_zero, Int.sub_zero, St.loadN_other, St.cell_other, h0, h8, h11, h12, h13]
  refine wJ_of (F.osierref03_Same.J (hl.ext dotE heF) ((how.sl dotE).ext dotE heF) (by omega)) ?_; rintro _ _ ⟨rfl, rfl⟩
  simp (disch := omega) only [go_sem, ↓reduceIte, Nat.reduceEqDiff, Nat.reduceAdd, Nat.reduceMul, Nat.reduceSub, Nat.reduceLT, Nat.reduceLeDiff, Nat.reduceBEq, Nat.reduceLeDiff, reduceCtorEq, Int.reduceLT, Int.reduceEq, Int.reduceLE, Int.reduceAdd, Int.reduceSub, Int.reduceToNat, Int.reduceNeg, Int.toNat_natCast, beq_self_eq_true, wrap64, undef, Nat.zero_add, Nat.add_zero, Int.zero_add, Int.add_zero, Int.sub_zero, St.loadN_other, St.cell_other]
end Go.Osj
