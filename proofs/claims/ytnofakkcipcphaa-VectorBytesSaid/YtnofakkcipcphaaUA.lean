/- Contracts of layer 1: the reference's reader. -/
import Derived.Test.YtnofakkcipcphaaU
set_option linter.unusedSimpArgs false
namespace Go.Osj
def bitK (k : Nat) : Nat := 256 / 2 ^ k
theorem bit_step : ∀ k : Fin 9, 1 ≤ k.val → headN (k.val + 1) = headN k.val + bitK k.val ∧ bitK k.val / 2 = bitK (k.val + 1) ∧ 0 < bitK k.val ∧ bitK k.val ≤ 128 := by decide
theorem F.osierref01_R_Uint_J {S : St} {q B : Nat} {bs : List Int} {e : Int} (h : RdT S q B bs e) (hb : isB bs) (hL : bs.length < 1000000000) :
    J PR F.osierref01_R_Uint [ptrV q] S fun v S' => v = .int .u64 (rdU bs e).1 ∧ RdT S' q B (rdU bs e).2.1 (rdU bs e).2.2 ∧ St.But (ptrV q) S S' := by
  have hr := h
  obtain ⟨v, ho, hq, hs, hv⟩ := h
  obtain ⟨base, cap, rfl⟩ := hs.len byteE
  have c0 : S.cell ⟨q, 0, none⟩ = some (.slice base bs.length cap) := by rw [St.cell_def, ho]; rfl
  have c1 : S.cell ⟨q, 1, none⟩ = some (.int .i64 e) := by rw [St.cell_def, ho]; rfl
  refine J_by PR.mixed F.osierref01_R_Uint.ok (by simp) ?_
  by_cases h0 : e = 0
  rotate_left
  · simp (disch := omega) only [go_sem, ↓reduceIte, Nat.reduceEqDiff, Nat.reduceAdd, Nat.reduceMul, Nat.reduceSub, Nat.reduceLT, Nat.reduceLeDiff, Nat.reduceBEq, Nat.reduceLeDiff, reduceCtorEq, Int.reduceLT, Int.reduceEq, Int.reduceLE, Int.reduceAdd, Int.reduceSub, Int.reduceToNat, Int.reduceNeg, Int.toNat_natCast, beq_self_eq_true, wrap64, undef, Nat.zero_add, Nat.add_zero, Int.zero_add, Int.add_zero, Int.sub_zero, St.loadN_other, St.cell_other, eqN, Option.isNone_none, c0, c1, h0]
    simp only [rdU, ne_eq, h0, not_false_eq_true, if_true]
    exact ⟨by trivial, hr, but_refl ..⟩
  subst h0
  cases bs with
  | nil =>
    simp (disch := omega) only [go_sem, ↓reduceIte, Nat.reduceEqDiff, Nat.reduceAdd, Nat.reduceMul, Nat.reduceSub, Nat.reduceLT, Nat.reduceLeDiff, Nat.reduceBEq, Nat.reduceLeDiff, reduceCtorEq, Int.reduceLT, Int.reduceEq, Int.reduceLE, Int.reduceAdd, Int.reduceSub, Int.reduceToNat, Int.reduceNeg, Int.toNat_natCast, beq_self_eq_true, wrap64, undef, Nat.zero_add, Nat.add_zero, Int.zero_add, Int.add_zero, Int.sub_zero, St.loadN_other, St.cell_other, eqN, Option.isNone_none, c0, c1, List.length_nil]
    refine wJ_of (F.osierref01_R_Fail_J (x := 10) hr (by decide)) ?_; rintro _ S1 ⟨rfl, hr1, hb1⟩
    simp (disch := omega) only [go_sem, ↓reduceIte, Nat.reduceEqDiff, Nat.reduceAdd, Nat.reduceMul, Nat.reduceSub, Nat.reduceLT, Nat.reduceLeDiff, Nat.reduceBEq, Nat.reduceLeDiff, reduceCtorEq, Int.reduceLT, Int.reduceEq, Int.reduceLE, Int.reduceAdd, Int.reduceSub, Int.reduceToNat, Int.reduceNeg, Int.toNat_natCast, beq_self_eq_true, wrap64, undef, Nat.zero_add, Nat.add_zero, Int.zero_add, Int.add_zero, Int.sub_zero, St.loadN_other, St.cell_other]
    simp only [rdU, ne_eq, not_true_eq_false, if_false, if_true] at hr1 ⊢
    exact ⟨by trivial, hr1, hb1⟩
  | cons b r =>
    obtain ⟨hb0, hb1⟩ := hb b (by simp)
    obtain ⟨bb, off, rfl, hbb, hx0⟩ := SlT.byte hs (i := 0) (by simp)
    simp only [Nat.add_zero, List.getElem_cons_zero] at hx0
    have hn0 : ¬ (((r.length + 1 : Nat) : Int) = 0) := by omega
    have c2 : (0 : Int) ≤ 0 ∧ (0 : Int) < ((r.length + 1 : Nat) : Int) := by omega
    obtain ⟨m, rfl⟩ : ∃ m : Nat, b = m := ⟨b.toNat, by omega⟩
    obtain ⟨lf1, lf2, -, -⟩ := lead_first ⟨m, by omega⟩
    simp only at lf1 lf2
    have hlr := leadK_range m
    rw [List.length_cons] at c0 hL
    simp (disch := omega) only [go_sem, ↓reduceIte, Nat.reduceEqDiff, Nat.reduceAdd, Nat.reduceMul, Nat.reduceSub, Nat.reduceLT, Nat.reduceLeDiff, Nat.reduceBEq, Nat.reduceLeDiff, reduceCtorEq, Int.reduceLT, Int.reduceEq, Int.reduceLE, Int.reduceAdd, Int.reduceSub, Int.reduceToNat, Int.reduceNeg, Int.toNat_natCast, beq_self_eq_true, wrap64, undef, Nat.zero_add, Nat.add_zero, Int.zero_add, Int.add_zero, Int.sub_zero, St.loadN_other, St.cell_other, eqN, Option.isNone_none, c0, c1, hn0, c2, Nat.zero_mul, hx0]
    refine wC_at 0 (fun fr S' => S = S' ∧ fr 0 = ptrV q ∧ fr 3 = .int .i64 (leadK m : Nat) ∧ fr 4 = .int .i64 ((m - headN (leadK m) : Nat) : Int)) ?_ ?_
    · refine wC_loop (fun n fr S' => ∃ k : Nat, n = 9 - k ∧ 1 ≤ k ∧ k ≤ 9 ∧ S = S' ∧ fr 0 = ptrV q ∧ fr 3 = .int .i64 (k : Nat) ∧ fr 4 = .int .i64 ((m - headN k : Nat) : Int) ∧ fr 5 = .int .i64 (bitK k : Nat) ∧ headN k ≤ m) 8 ⟨1, by simp (disch := omega) only [go_sem, ↓reduceIte, Nat.reduceEqDiff, Nat.reduceAdd, Nat.reduceMul, Nat.reduceSub, Nat.reduceLT, Nat.reduceLeDiff, Nat.reduceBEq, Nat.reduceLeDiff, reduceCtorEq, Int.reduceLT, Int.reduceEq, Int.reduceLE, Int.reduceAdd, Int.reduceSub, Int.reduceToNat, Int.reduceNeg, Int.toNat_natCast, beq_self_eq_true, wrap64, undef, Nat.zero_add, Nat.add_zero, Int.zero_add, Int.add_zero, Int.sub_zero, St.loadN_other, St.cell_other]; simp [headN, bitK]⟩ ?_
      rintro n fr S' ⟨k, rfl, h1, h9, rfl, h0, h3, h4, h5, hle⟩
      simp (disch := omega) only [go_sem, ↓reduceIte, Nat.reduceEqDiff, Nat.reduceAdd, Nat.reduceMul, Nat.reduceSub, Nat.reduceLT, Nat.reduceLeDiff, Nat.reduceBEq, Nat.reduceLeDiff, reduceCtorEq, Int.reduceLT, Int.reduceEq, Int.reduceLE, Int.reduceAdd, Int.reduceSub, Int.reduceToNat, Int.reduceNeg, Int.toNat_natCast, beq_self_eq_true, wrap64, undef, Nat.zero_add, Nat.add_zero, Int.zero_add, Int.add_zero, Int.sub_zero, St.loadN_other, St.cell_other, F.osierref01_R_Uint.l0, h0, h3, h4, h5]
      by_cases hk9 : k = 9
      · subst hk9
        have e0 : ((bitK 9 : Nat) : Int) = 0 := by decide
        simp (disch := omega) only [go_sem, ↓reduceIte, Nat.reduceEqDiff, Nat.reduceAdd, Nat.reduceMul, Nat.reduceSub, Nat.reduceLT, Nat.reduceLeDiff, Nat.reduceBEq, Nat.reduceLeDiff, reduceCtorEq, Int.reduceLT, Int.reduceEq, Int.reduceLE, Int.reduceAdd, Int.reduceSub, Int.reduceToNat, Int.reduceNeg, Int.toNat_natCast, beq_self_eq_true, wrap64, undef, Nat.zero_add, Nat.add_zero, Int.zero_add, Int.add_zero, Int.sub_zero, St.loadN_other, St.cell_other, h0, h3, h4, h5, e0, Int.lt_irrefl]
        rw [leadK_of (k := 9) (by omega) (by omega) (by omega) hle (by omega)]
        exact ⟨rfl, rfl⟩
      · obtain ⟨g1, g2, g3, g4⟩ := bit_step ⟨k, by omega⟩ h1
        simp only at g1 g2 g3 g4
        have e0 : (0 : Int) < ((bitK k : Nat) : Int) := by omega
        simp (disch := omega) only [go_sem, ↓reduceIte, Nat.reduceEqDiff, Nat.reduceAdd, Nat.reduceMul, Nat.reduceSub, Nat.reduceLT, Nat.reduceLeDiff, Nat.reduceBEq, Nat.reduceLeDiff, reduceCtorEq, Int.reduceLT, Int.reduceEq, Int.reduceLE, Int.reduceAdd, Int.reduceSub, Int.reduceToNat, Int.reduceNeg, Int.toNat_natCast, beq_self_eq_true, wrap64, undef, Nat.zero_add, Nat.add_zero, Int.zero_add, Int.add_zero, Int.sub_zero, St.loadN_other, St.cell_other, h0, h3, h4, h5, e0]
        refine wcond_dec (fun hc => ?_) (fun hc => ?_)
        · have e1 : ((bitK k : Nat) : Int).tdiv 2 = ((bitK (k + 1) : Nat) : Int) := by rw [← g2]; exact tdivN _ 2
          have e2 : ((m - headN k : Nat) : Int) - ((bitK k : Nat) : Int) = ((m - headN (k + 1) : Nat) : Int) := by omega
          have e3 : IntKind.i64.wrap ((bitK (k + 1) : Nat) : Int) = ((bitK (k + 1) : Nat) : Int) := wrap64 (by omega) (by omega)
          simp (disch := omega) only [go_sem, ↓reduceIte, Nat.reduceEqDiff, Nat.reduceAdd, Nat.reduceMul, Nat.reduceSub, Nat.reduceLT, Nat.reduceLeDiff, Nat.reduceBEq, Nat.reduceLeDiff, reduceCtorEq, Int.reduceLT, Int.reduceEq, Int.reduceLE, Int.reduceAdd, Int.reduceSub, Int.reduceToNat, Int.reduceNeg, Int.toNat_natCast, beq_self_eq_true, wrap64, undef, Nat.zero_add, Nat.add_zero, Int.zero_add, Int.add_zero, Int.sub_zero, St.loadN_other, St.cell_other, h0, h3, h4, h5, e1, e2, e3]
          exact ⟨9 - (k + 1), by omega, k + 1, rfl, by omega, by omega, rfl, rfl, rfl, by omega⟩
        · simp (disch := omega) only [go_sem, ↓reduceIte, Nat.reduceEqDiff, Nat.reduceAdd, Nat.reduceMul, Nat.reduceSub, Nat.reduceLT, Nat.reduceLeDiff, Nat.reduceBEq, Nat.reduceLeDiff, reduceCtorEq, Int.reduceLT, Int.reduceEq, Int.reduceLE, Int.reduceAdd, Int.reduceSub, Int.reduceToNat, Int.reduceNeg, Int.toNat_natCast, beq_self_eq_true, wrap64, undef, Nat.zero_add, Nat.add_zero, Int.zero_add, Int.add_zero, Int.sub_zero, St.loadN_other, St.cell_other, h0, h3, h4, h5]
          rw [leadK_of (k := k) (by omega) (by omega) (by omega) hle (by omega)]
          exact ⟨rfl, rfl⟩
    rintro fr S' ⟨rfl, h0, h3, h4⟩
    have hrd : rdU ((m : Int) :: r) 0 = if r.length + 1 < leadK m then (0, [], 10) else
        if sizeN (valN (m - headN (leadK m)) (r.take (leadK m - 1))) = leadK m then (valN (m - headN (leadK m)) (r.take (leadK m - 1)), ((m : Int) :: r).drop (leadK m), 0) else (0, [], 11) := by simp [rdU]
    generalize leadK m = k at *
    simp (disch := omega) only [go_sem, ↓reduceIte, Nat.reduceEqDiff, Nat.reduceAdd, Nat.reduceMul, Nat.reduceSub, Nat.reduceLT, Nat.reduceLeDiff, Nat.reduceBEq, Nat.reduceLeDiff, reduceCtorEq, Int.reduceLT, Int.reduceEq, Int.reduceLE, Int.reduceAdd, Int.reduceSub, Int.reduceToNat, Int.reduceNeg, Int.toNat_natCast, beq_self_eq_true, wrap64, undef, Nat.zero_add, Nat.add_zero, Int.zero_add, Int.add_zero, Int.sub_zero, St.loadN_other, St.cell_other, h0, h3, h4, c0, c1]
    refine wcond_dec (fun hkl => ?_) (fun hkl => ?_)
    · simp (disch := omega) only [go_sem, ↓reduceIte, Nat.reduceEqDiff, Nat.reduceAdd, Nat.reduceMul, Nat.reduceSub, Nat.reduceLT, Nat.reduceLeDiff, Nat.reduceBEq, Nat.reduceLeDiff, reduceCtorEq, Int.reduceLT, Int.reduceEq, Int.reduceLE, Int.reduceAdd, Int.reduceSub, Int.reduceToNat, Int.reduceNeg, Int.toNat_natCast, beq_self_eq_true, wrap64, undef, Nat.zero_add, Nat.add_zero, Int.zero_add, Int.add_zero, Int.sub_zero, St.loadN_other, St.cell_other, h0]
      refine wJ_of (F.osierref01_R_Fail_J (x := 10) hr (by decide)) ?_; rintro _ S1 ⟨rfl, hr1, hb1⟩
      simp (disch := omega) only [go_sem, ↓reduceIte, Nat.reduceEqDiff, Nat.reduceAdd, Nat.reduceMul, Nat.reduceSub, Nat.reduceLT, Nat.reduceLeDiff, Nat.reduceBEq, Nat.reduceLeDiff, reduceCtorEq, Int.reduceLT, Int.reduceEq, Int.reduceLE, Int.reduceAdd, Int.reduceSub, Int.reduceToNat, Int.reduceNeg, Int.toNat_natCast, beq_self_eq_true, wrap64, undef, Nat.zero_add, Nat.add_zero, Int.zero_add, Int.add_zero, Int.sub_zero, St.loadN_other, St.cell_other]
      rw [hrd, if_pos (by omega)]
      exact ⟨rfl, by simpa using hr1, hb1⟩
    have hkl' : ¬ r.length + 1 < k := by omega
    rw [if_neg hkl'] at hrd
    have hbr : isB (r.take (k - 1)) := fun x hx => hb x (List.mem_cons_of_mem _ (List.mem_of_mem_take hx))
    have htl : (r.take (k - 1)).length = k - 1 := by simp; omega
    have hget : ∀ i, i < k - 1 → ∃ c : Nat, (r.take (k - 1))[i]? = some (c : Int) ∧ c < 256 ∧ S.cell ⟨bb, off + (i + 1), none⟩ = some (.int .u8 (c : Int)) := by
      intro i hi
      obtain ⟨b', off', hbb', -, hx⟩ := SlT.byte hs (i := i + 1) (by simp; omega)
      simp only [Option.some.injEq, Addr.mk.injEq, and_true] at hbb'
      obtain ⟨rfl, rfl⟩ := hbb'
      have hir : i < r.length := by omega
      obtain ⟨g1, g2⟩ := hb r[i] (by simp)
      refine ⟨r[i].toNat, ?_, by omega, ?_⟩
      · rw [List.getElem?_take, if_pos hi, List.getElem?_eq_getElem hir]
        congr 1
        omega
      · rw [hx]
        simp only [List.getElem_cons_succ]
        congr 2
        omega
    obtain ⟨u, hu, hus⟩ := hs.from byteE (l := k) (q := .i64) (i := k) rfl (by simp; omega)
    replace hu : slV 1 (.slice (some ⟨bb, off, none⟩) (r.length + 1) cap) (some (.int .i64 (k : Nat))) none none = some u := hu
    generalize r.take (k - 1) = t at *
    have hvlt : ∀ i, i ≤ k - 1 → valN (m - headN k) (t.take i) < 2 ^ (8 * i + (8 - k)) := by
      intro i hi
      have h1 := valN_lt (xs := t.take i) (fun x hx => hbr x (List.mem_of_mem_take hx)) lf2
      rwa [List.length_take, Nat.min_eq_left (by omega)] at h1
    simp (disch := omega) only [go_sem, ↓reduceIte, Nat.reduceEqDiff, Nat.reduceAdd, Nat.reduceMul, Nat.reduceSub, Nat.reduceLT, Nat.reduceLeDiff, Nat.reduceBEq, Nat.reduceLeDiff, reduceCtorEq, Int.reduceLT, Int.reduceEq, Int.reduceLE, Int.reduceAdd, Int.reduceSub, Int.reduceToNat, Int.reduceNeg, Int.toNat_natCast, beq_self_eq_true, wrap64, undef, Nat.zero_add, Nat.add_zero, Int.zero_add, Int.add_zero, Int.sub_zero, St.loadN_other, St.cell_other, h0, h3, h4, wrapu64]
    refine wC_loop (fun n fr S' => ∃ i : Nat, n = (k - 1) - i ∧ i ≤ k - 1 ∧ S = S' ∧ fr 0 = ptrV q ∧ fr 3 = .int .i64 k ∧ fr 6 = .int .u64 (valN (m - headN k) (t.take i) : Nat) ∧ fr 7 = .int .i64 ((i + 1 : Nat) : Int)) (k - 1)
      ⟨0, by simp (disch := omega) only [go_sem, ↓reduceIte, Nat.reduceEqDiff, Nat.reduceAdd, Nat.reduceMul, Nat.reduceSub, Nat.reduceLT, Nat.reduceLeDiff, Nat.reduceBEq, Nat.reduceLeDiff, reduceCtorEq, Int.reduceLT, Int.reduceEq, Int.reduceLE, Int.reduceAdd, Int.reduceSub, Int.reduceToNat, Int.reduceNeg, Int.toNat_natCast, beq_self_eq_true, wrap64, undef, Nat.zero_add, Nat.add_zero, Int.zero_add, Int.add_zero, Int.sub_zero, St.loadN_other, St.cell_other, h0, h3, h4]; exact ⟨by omega, by omega, rfl⟩⟩ ?_
    rintro n fr S2 ⟨i, rfl, hi, rfl, h0, h3, h6, h7⟩
    simp (disch := omega) only [go_sem, ↓reduceIte, Nat.reduceEqDiff, Nat.reduceAdd, Nat.reduceMul, Nat.reduceSub, Nat.reduceLT, Nat.reduceLeDiff, Nat.reduceBEq, Nat.reduceLeDiff, reduceCtorEq, Int.reduceLT, Int.reduceEq, Int.reduceLE, Int.reduceAdd, Int.reduceSub, Int.reduceToNat, Int.reduceNeg, Int.toNat_natCast, beq_self_eq_true, wrap64, undef, Nat.zero_add, Nat.add_zero, Int.zero_add, Int.add_zero, Int.sub_zero, St.loadN_other, St.cell_other, F.osierref01_R_Uint.l1, h0, h3, h6, h7]
    refine wcond_dec (fun hlt => ?_) (fun hge => ?_)
    · obtain ⟨c, hc1, hc2, hc3⟩ := hget i (by omega)
      have c6 : (0 : Int) ≤ ((i + 1 : Nat) : Int) ∧ ((i + 1 : Nat) : Int) < ((r.length + 1 : Nat) : Int) := by omega
      have hv1 := hvlt (i + 1) (by omega)
      rw [take_snoc hc1, valN_snoc, Int.toNat_natCast] at hv1
      have h2 : 2 ^ (8 * (i + 1) + (8 - k)) ≤ 2 ^ 64 := Nat.pow_le_pow_right (by decide) (by omega)
      have hv2 : valN (m - headN k) (t.take i) * 256 + c < 18446744073709551616 := Nat.lt_of_lt_of_le hv1 h2
      simp (disch := omega) only [go_sem, ↓reduceIte, Nat.reduceEqDiff, Nat.reduceAdd, Nat.reduceMul, Nat.reduceSub, Nat.reduceLT, Nat.reduceLeDiff, Nat.reduceBEq, Nat.reduceLeDiff, reduceCtorEq, Int.reduceLT, Int.reduceEq, Int.reduceLE, Int.reduceAdd, Int.reduceSub, Int.reduceToNat, Int.reduceNeg, Int.toNat_natCast, beq_self_eq_true, wrap64, undef, Nat.zero_add, Nat.add_zero, Int.zero_add, Int.add_zero, Int.sub_zero, St.loadN_other, St.cell_other, h0, h3, h6, h7, c0, c6, Nat.mul_one, hc3, wrapu64]
      refine ⟨k - 1 - (i + 1), by omega, i + 1, rfl, by omega, ?_, rfl⟩
      rw [take_snoc hc1, valN_snoc, Int.toNat_natCast]
      rfl
    · have hik : i = k - 1 := by omega
      have hvl := hvlt i hi
      rw [List.take_of_length_le (by omega)] at h6 hvl
      have h2 : 2 ^ (8 * i + (8 - k)) ≤ 2 ^ 64 := Nat.pow_le_pow_right (by decide) (by omega)
      simp (disch := omega) only [go_sem, ↓reduceIte, Nat.reduceEqDiff, Nat.reduceAdd, Nat.reduceMul, Nat.reduceSub, Nat.reduceLT, Nat.reduceLeDiff, Nat.reduceBEq, Nat.reduceLeDiff, reduceCtorEq, Int.reduceLT, Int.reduceEq, Int.reduceLE, Int.reduceAdd, Int.reduceSub, Int.reduceToNat, Int.reduceNeg, Int.toNat_natCast, beq_self_eq_true, wrap64, undef, Nat.zero_add, Nat.add_zero, Int.zero_add, Int.add_zero, Int.sub_zero, St.loadN_other, St.cell_other, h0, h3, h6]
      refine wJ_of (F.osierref01_Size_J (Nat.lt_of_lt_of_le hvl h2)) ?_; rintro _ _ ⟨rfl, rfl⟩
      by_cases hsz : sizeN (valN (m - headN k) t) = k
      · rw [if_pos hsz] at hrd
        simp (disch := omega) only [go_sem, ↓reduceIte, Nat.reduceEqDiff, Nat.reduceAdd, Nat.reduceMul, Nat.reduceSub, Nat.reduceLT, Nat.reduceLeDiff, Nat.reduceBEq, Nat.reduceLeDiff, reduceCtorEq, Int.reduceLT, Int.reduceEq, Int.reduceLE, Int.reduceAdd, Int.reduceSub, Int.reduceToNat, Int.reduceNeg, Int.toNat_natCast, beq_self_eq_true, wrap64, undef, Nat.zero_add, Nat.add_zero, Int.zero_add, Int.add_zero, Int.sub_zero, St.loadN_other, St.cell_other, h0, h3, h6, hsz, c0, hu]
        have hc2 := slV_cells hu
        refine wst_of ho (by rw [hc2]; rfl) (by rw [hc2]; have := hus.len byteE; obtain ⟨b, c, rfl⟩ := this; rfl) (by simp) (by simp) ?_
        rw [hc2]
        simp (disch := omega) only [go_sem, ↓reduceIte, Nat.reduceEqDiff, Nat.reduceAdd, Nat.reduceMul, Nat.reduceSub, Nat.reduceLT, Nat.reduceLeDiff, Nat.reduceBEq, Nat.reduceLeDiff, reduceCtorEq, Int.reduceLT, Int.reduceEq, Int.reduceLE, Int.reduceAdd, Int.reduceSub, Int.reduceToNat, Int.reduceNeg, Int.toNat_natCast, beq_self_eq_true, wrap64, undef, Nat.zero_add, Nat.add_zero, Int.zero_add, Int.add_zero, Int.sub_zero, St.loadN_other, St.cell_other, h6]
        rw [hrd]
        refine ⟨rfl, RdT.set hus fun h => ?_, but_put ..⟩
        rw [slV_blk hu]
        exact hv (by simp)
      · have hsz' : ¬ ((sizeN (valN (m - headN k) t) : Int) = (k : Int)) := by omega
        rw [if_neg hsz] at hrd
        simp (disch := omega) only [go_sem, ↓reduceIte, Nat.reduceEqDiff, Nat.reduceAdd, Nat.reduceMul, Nat.reduceSub, Nat.reduceLT, Nat.reduceLeDiff, Nat.reduceBEq, Nat.reduceLeDiff, reduceCtorEq, Int.reduceLT, Int.reduceEq, Int.reduceLE, Int.reduceAdd, Int.reduceSub, Int.reduceToNat, Int.reduceNeg, Int.toNat_natCast, beq_self_eq_true, wrap64, undef, Nat.zero_add, Nat.add_zero, Int.zero_add, Int.add_zero, Int.sub_zero, St.loadN_other, St.cell_other, h0, h3, h6, hsz']
        refine wJ_of (F.osierref01_R_Fail_J (x := 11) hr (by decide)) ?_; rintro _ S3 ⟨rfl, hr3, hb3⟩
        simp (disch := omega) only [go_sem, ↓reduceIte, Nat.reduceEqDiff, Nat.reduceAdd, Nat.reduceMul, Nat.reduceSub, Nat.reduceLT, Nat.reduceLeDiff, Nat.reduceBEq, Nat.reduceLeDiff, reduceCtorEq, Int.reduceLT, Int.reduceEq, Int.reduceLE, Int.reduceAdd, Int.reduceSub, Int.reduceToNat, Int.reduceNeg, Int.toNat_natCast, beq_self_eq_true, wrap64, undef, Nat.zero_add, Nat.add_zero, Int.zero_add, Int.add_zero, Int.sub_zero, St.loadN_other, St.cell_other]
        rw [hrd]
        exact ⟨rfl, by simpa using hr3, hb3⟩
end Go.Osj
