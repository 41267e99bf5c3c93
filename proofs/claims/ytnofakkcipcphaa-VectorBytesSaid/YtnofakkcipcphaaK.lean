/- Contracts of layer 4: the reference's Join, With, Made; Missing. -/
import Derived.Test.YtnofakkcipcphaaY
set_option linter.unusedSimpArgs false
namespace Go.Osj
def chooseV (meet : Bool) : Int → Int → Int := if meet then min else max
theorem chooseV_choice (meet : Bool) : Choice (chooseV meet) := by cases meet <;> simp only [chooseV] <;> first | exact choice_min | exact choice_max
theorem F.osierref04_Join_J {S : St} {l k : Value} {meet : Bool} {xs ys : List Dot} (hl : SlT dotE S l xs) (hk : SlT dotE S k ys) (hx : isV xs) (hy : isV ys) (hL : xs.length < 20000) (hL2 : ys.length < 20000) :
    J PR F.osierref04_Join [l, k, .bool meet] S fun v S' => OwnT dotE S.n S' v (eachV (chooseV meet) xs ys) ∧ S.Ext S' := by
  refine J_by PR.mixed F.osierref04_Join.ok (by simp) ?_
  simp (disch := omega) only [go_sem, ↓reduceIte, Nat.reduceEqDiff, Nat.reduceAdd, Nat.reduceMul, Nat.reduceSub, Nat.reduceLT, Nat.reduceLeDiff, Nat.reduceBEq, Nat.reduceLeDiff, reduceCtorEq, Int.reduceLT, Int.reduceEq, Int.reduceLE, Int.reduceAdd, Int.reduceSub, Int.reduceToNat, Int.reduceNeg, Int.toNat_natCast, beq_self_eq_true, wrap64, undef, Nat.zero_add, Nat.add_zero, Int.zero_add, Int.add_zero, Int.sub_zero, St.loadN_other, St.cell_other]
  refine wJ_of (F.osierref04_acts_J hl hk hx hy hL hL2) ?_; rintro v1 S1 ⟨⟨ks, hok, hA⟩, he1⟩
  have hkl := hA.len
  obtain ⟨bq, cq, rfl⟩ := (hok.sl intE).len intE
  simp (disch := omega) only [go_sem, ↓reduceIte, Nat.reduceEqDiff, Nat.reduceAdd, Nat.reduceMul, Nat.reduceSub, Nat.reduceLT, Nat.reduceLeDiff, Nat.reduceBEq, Nat.reduceLeDiff, reduceCtorEq, Int.reduceLT, Int.reduceEq, Int.reduceLE, Int.reduceAdd, Int.reduceSub, Int.reduceToNat, Int.reduceNeg, Int.toNat_natCast, beq_self_eq_true, wrap64, undef, Nat.zero_add, Nat.add_zero, Int.zero_add, Int.add_zero, Int.sub_zero, St.loadN_other, St.cell_other]
  refine wC_loop (fun n fr S' => ∃ (i : Nat) (v : Value) (out : List Dot), n = ks.length - i ∧ i ≤ ks.length ∧ fr 0 = l ∧ fr 1 = k ∧ fr 2 = .bool meet ∧ fr 7 = v ∧ fr 8 = .slice bq ks.length cq ∧ fr 9 = .int .i64 (i : Nat) ∧ S1.Ext S' ∧ OwnT dotE S1.n S' v out ∧
    EachI (chooseV meet) xs ys ((ks.take i).map fun a => (a, 0)) out ∧ out.length ≤ i) ks.length ⟨0, .slice none 0 0, [], by simp (disch := omega) only [go_sem, ↓reduceIte, Nat.reduceEqDiff, Nat.reduceAdd, Nat.reduceMul, Nat.reduceSub, Nat.reduceLT, Nat.reduceLeDiff, Nat.reduceBEq, Nat.reduceLeDiff, reduceCtorEq, Int.reduceLT, Int.reduceEq, Int.reduceLE, Int.reduceAdd, Int.reduceSub, Int.reduceToNat, Int.reduceNeg, Int.toNat_natCast, beq_self_eq_true, wrap64, undef, Nat.zero_add, Nat.add_zero, Int.zero_add, Int.add_zero, Int.sub_zero, St.loadN_other, St.cell_other]; exact ⟨by simp, by simp, St.Ext.refl _, OwnT.nil .., EachI.nil⟩⟩ ?_
  rintro n fr S5 ⟨i, v, out, rfl, hi, h0, h1, h2, h7, h8, h9, he, ho, hI, hol⟩
  have e5 := he1.trans he
  simp (disch := omega) only [go_sem, ↓reduceIte, Nat.reduceEqDiff, Nat.reduceAdd, Nat.reduceMul, Nat.reduceSub, Nat.reduceLT, Nat.reduceLeDiff, Nat.reduceBEq, Nat.reduceLeDiff, reduceCtorEq, Int.reduceLT, Int.reduceEq, Int.reduceLE, Int.reduceAdd, Int.reduceSub, Int.reduceToNat, Int.reduceNeg, Int.toNat_natCast, beq_self_eq_true, wrap64, undef, Nat.zero_add, Nat.add_zero, Int.zero_add, Int.add_zero, Int.sub_zero, St.loadN_other, St.cell_other, F.osierref04_Join.l0, h0, h1, h2, h7, h8, h9]
  refine wcond_dec (fun hlt => ?_) (fun hge => ?_)
  · have hlx : i < ks.length := by omega
    obtain ⟨b, off, rfl, hb, hx0⟩ := ((hok.sl intE).ext intE he).int hlx
    have c1 : (0 : Int) ≤ (i : Int) ∧ (i : Int) < (ks.length : Int) := by omega
    simp (disch := omega) only [go_sem, ↓reduceIte, Nat.reduceEqDiff, Nat.reduceAdd, Nat.reduceMul, Nat.reduceSub, Nat.reduceLT, Nat.reduceLeDiff, Nat.reduceBEq, Nat.reduceLeDiff, reduceCtorEq, Int.reduceLT, Int.reduceEq, Int.reduceLE, Int.reduceAdd, Int.reduceSub, Int.reduceToNat, Int.reduceNeg, Int.toNat_natCast, beq_self_eq_true, wrap64, undef, Nat.zero_add, Nat.add_zero, Int.zero_add, Int.add_zero, Int.sub_zero, St.loadN_other, St.cell_other, h0, h1, h2, h7, h8, h9, c1, hx0, Nat.mul_one]
    refine wJ_of (F.osierref04_Get_J (hl.ext dotE e5) (by omega)) ?_; rintro _ _ ⟨rfl, rfl⟩
    simp (disch := omega) only [go_sem, ↓reduceIte, Nat.reduceEqDiff, Nat.reduceAdd, Nat.reduceMul, Nat.reduceSub, Nat.reduceLT, Nat.reduceLeDiff, Nat.reduceBEq, Nat.reduceLeDiff, reduceCtorEq, Int.reduceLT, Int.reduceEq, Int.reduceLE, Int.reduceAdd, Int.reduceSub, Int.reduceToNat, Int.reduceNeg, Int.toNat_natCast, beq_self_eq_true, wrap64, undef, Nat.zero_add, Nat.add_zero, Int.zero_add, Int.add_zero, Int.sub_zero, St.loadN_other, St.cell_other, h0, h1, h2, h7, h8, h9, c1, hx0, Nat.mul_one]
    refine wJ_of (F.osierref04_Get_J (hk.ext dotE e5) (by omega)) ?_; rintro _ _ ⟨rfl, rfl⟩
    have htk : (ks.take (i + 1)).map (fun a => ((a, 0) : Dot)) = (ks.take i).map (fun a => (a, 0)) ++ [(ks[i], 0)] := by rw [take_snoc (List.getElem?_eq_getElem hlx), List.map_append]; rfl
    have hmono : ∀ e ∈ out, e.1 < ks[i] := by
      intro e he
      obtain ⟨d, hd, hde⟩ := hI.src e he
      obtain ⟨a, ha, rfl⟩ := List.mem_map.1 hd
      obtain ⟨q, hq, rfl⟩ := List.mem_iff_getElem.1 ha
      simp only [List.length_take] at hq
      have := List.pairwise_iff_getElem.1 hA.lt q i (by omega) hlx (by omega)
      simp only [List.getElem_take] at hde
      omega
    have hg1 := getV_range hx ks[i]
    have hg2 := getV_range hy ks[i]
    simp (disch := omega) only [go_sem, ↓reduceIte, Nat.reduceEqDiff, Nat.reduceAdd, Nat.reduceMul, Nat.reduceSub, Nat.reduceLT, Nat.reduceLeDiff, Nat.reduceBEq, Nat.reduceLeDiff, reduceCtorEq, Int.reduceLT, Int.reduceEq, Int.reduceLE, Int.reduceAdd, Int.reduceSub, Int.reduceToNat, Int.reduceNeg, Int.toNat_natCast, beq_self_eq_true, wrap64, undef, Nat.zero_add, Nat.add_zero, Int.zero_add, Int.add_zero, Int.sub_zero, St.loadN_other, St.cell_other, h0, h1, h2, h7, h8, h9]
    by_cases hyx : getV xs ks[i] < getV ys ks[i]
    · cases meet with
      | false =>
        have hcv : chooseV false (getV xs ks[i]) (getV ys ks[i]) = getV ys ks[i] := by simp [chooseV]; omega
        simp (disch := omega) only [go_sem, ↓reduceIte, Nat.reduceEqDiff, Nat.reduceAdd, Nat.reduceMul, Nat.reduceSub, Nat.reduceLT, Nat.reduceLeDiff, Nat.reduceBEq, Nat.reduceLeDiff, reduceCtorEq, Int.reduceLT, Int.reduceEq, Int.reduceLE, Int.reduceAdd, Int.reduceSub, Int.reduceToNat, Int.reduceNeg, Int.toNat_natCast, beq_self_eq_true, wrap64, undef, Nat.zero_add, Nat.add_zero, Int.zero_add, Int.add_zero, Int.sub_zero, St.loadN_other, St.cell_other, h0, h1, h2, h7, h8, h9, hyx, Bool.not_true]
        have key2 : ∀ e ∈ out, e.1 < ks[i] := hmono
        refine wcond_dec (fun hp => ?_) (fun hp => ?_)
        · simp (disch := omega) only [go_sem, ↓reduceIte, Nat.reduceEqDiff, Nat.reduceAdd, Nat.reduceMul, Nat.reduceSub, Nat.reduceLT, Nat.reduceLeDiff, Nat.reduceBEq, Nat.reduceLeDiff, reduceCtorEq, Int.reduceLT, Int.reduceEq, Int.reduceLE, Int.reduceAdd, Int.reduceSub, Int.reduceToNat, Int.reduceNeg, Int.toNat_natCast, beq_self_eq_true, wrap64, undef, Nat.zero_add, Nat.add_zero, Int.zero_add, Int.add_zero, Int.sub_zero, St.loadN_other, St.cell_other, h0, h1, h2, h7, h8, h9, c1, hx0, Nat.mul_one]
          refine wfresh_of fun u hu => ?_
          simp (disch := omega) only [go_sem, ↓reduceIte, Nat.reduceEqDiff, Nat.reduceAdd, Nat.reduceMul, Nat.reduceSub, Nat.reduceLT, Nat.reduceLeDiff, Nat.reduceBEq, Nat.reduceLeDiff, reduceCtorEq, Int.reduceLT, Int.reduceEq, Int.reduceLE, Int.reduceAdd, Int.reduceSub, Int.reduceToNat, Int.reduceNeg, Int.toNat_natCast, beq_self_eq_true, wrap64, undef, Nat.zero_add, Nat.add_zero, Int.zero_add, Int.add_zero, Int.sub_zero, St.loadN_other, St.cell_other, h0, h1, h2, h7, h8, h9]
          have he7 := (St.Ext.refl S5).put hu (.cells true 2 [.int .i64 ks[i], .int .i64 (getV ys ks[i])])
          refine wE_app dotE (ys := [(ks[i], getV ys ks[i])]) (ho.ext dotE he7) (SlT.lit dotE (xs := [(ks[i], getV ys ks[i])])) rfl rfl (he.trans he7).n (by first | omega | (simp; done) | (simp; omega)) (by first | omega | (simp; done) | (simp; omega)) fun v8 S8 ho8 hb8 hv8 => ?_
          simp (disch := omega) only [go_sem, ↓reduceIte, Nat.reduceEqDiff, Nat.reduceAdd, Nat.reduceMul, Nat.reduceSub, Nat.reduceLT, Nat.reduceLeDiff, Nat.reduceBEq, Nat.reduceLeDiff, reduceCtorEq, Int.reduceLT, Int.reduceEq, Int.reduceLE, Int.reduceAdd, Int.reduceSub, Int.reduceToNat, Int.reduceNeg, Int.toNat_natCast, beq_self_eq_true, wrap64, undef, Nat.zero_add, Nat.add_zero, Int.zero_add, Int.add_zero, Int.sub_zero, St.loadN_other, St.cell_other, h0, h1, h2, h7, h8, h9]
          have hI2 := hI.put (chooseV_choice _) hx hy (d := (ks[i], 0)) (by rw [hcv]; exact hp) key2
          rw [hcv, ← htk] at hI2
          exact ⟨ks.length - (i + 1), by omega, i + 1, _, _, rfl, by omega, rfl, rfl, (he.trans he7).but hb8 (ho.fresh dotE), ho8, hI2, (by first | omega | (simp; done) | (simp; omega))⟩
        · have hI2 := hI.skip (d := (ks[i], 0)) fun h => absurd (by rw [hcv] at h; exact h) hp
          rw [← htk] at hI2
          first
          | omega
          | simp (disch := omega) only [go_sem, ↓reduceIte, Nat.reduceEqDiff, Nat.reduceAdd, Nat.reduceMul, Nat.reduceSub, Nat.reduceLT, Nat.reduceLeDiff, Nat.reduceBEq, Nat.reduceLeDiff, reduceCtorEq, Int.reduceLT, Int.reduceEq, Int.reduceLE, Int.reduceAdd, Int.reduceSub, Int.reduceToNat, Int.reduceNeg, Int.toNat_natCast, beq_self_eq_true, wrap64, undef, Nat.zero_add, Nat.add_zero, Int.zero_add, Int.add_zero, Int.sub_zero, St.loadN_other, St.cell_other, h0, h1, h2, h7, h8, h9]
            exact ⟨ks.length - (i + 1), by omega, i + 1, _, _, rfl, by omega, rfl, rfl, he, ho, hI2, by omega⟩
      | true =>
        have hcv : chooseV true (getV xs ks[i]) (getV ys ks[i]) = getV xs ks[i] := by simp [chooseV]; omega
        simp (disch := omega) only [go_sem, ↓reduceIte, Nat.reduceEqDiff, Nat.reduceAdd, Nat.reduceMul, Nat.reduceSub, Nat.reduceLT, Nat.reduceLeDiff, Nat.reduceBEq, Nat.reduceLeDiff, reduceCtorEq, Int.reduceLT, Int.reduceEq, Int.reduceLE, Int.reduceAdd, Int.reduceSub, Int.reduceToNat, Int.reduceNeg, Int.toNat_natCast, beq_self_eq_true, wrap64, undef, Nat.zero_add, Nat.add_zero, Int.zero_add, Int.add_zero, Int.sub_zero, St.loadN_other, St.cell_other, h0, h1, h2, h7, h8, h9, hyx, Bool.not_true]
        have key2 : ∀ e ∈ out, e.1 < ks[i] := hmono
        refine wcond_dec (fun hp => ?_) (fun hp => ?_)
        · simp (disch := omega) only [go_sem, ↓reduceIte, Nat.reduceEqDiff, Nat.reduceAdd, Nat.reduceMul, Nat.reduceSub, Nat.reduceLT, Nat.reduceLeDiff, Nat.reduceBEq, Nat.reduceLeDiff, reduceCtorEq, Int.reduceLT, Int.reduceEq, Int.reduceLE, Int.reduceAdd, Int.reduceSub, Int.reduceToNat, Int.reduceNeg, Int.toNat_natCast, beq_self_eq_true, wrap64, undef, Nat.zero_add, Nat.add_zero, Int.zero_add, Int.add_zero, Int.sub_zero, St.loadN_other, St.cell_other, h0, h1, h2, h7, h8, h9, c1, hx0, Nat.mul_one]
          refine wfresh_of fun u hu => ?_
          simp (disch := omega) only [go_sem, ↓reduceIte, Nat.reduceEqDiff, Nat.reduceAdd, Nat.reduceMul, Nat.reduceSub, Nat.reduceLT, Nat.reduceLeDiff, Nat.reduceBEq, Nat.reduceLeDiff, reduceCtorEq, Int.reduceLT, Int.reduceEq, Int.reduceLE, Int.reduceAdd, Int.reduceSub, Int.reduceToNat, Int.reduceNeg, Int.toNat_natCast, beq_self_eq_true, wrap64, undef, Nat.zero_add, Nat.add_zero, Int.zero_add, Int.add_zero, Int.sub_zero, St.loadN_other, St.cell_other, h0, h1, h2, h7, h8, h9]
          have he7 := (St.Ext.refl S5).put hu (.cells true 2 [.int .i64 ks[i], .int .i64 (getV xs ks[i])])
          refine wE_app dotE (ys := [(ks[i], getV xs ks[i])]) (ho.ext dotE he7) (SlT.lit dotE (xs := [(ks[i], getV xs ks[i])])) rfl rfl (he.trans he7).n (by first | omega | (simp; done) | (simp; omega)) (by first | omega | (simp; done) | (simp; omega)) fun v8 S8 ho8 hb8 hv8 => ?_
          simp (disch := omega) only [go_sem, ↓reduceIte, Nat.reduceEqDiff, Nat.reduceAdd, Nat.reduceMul, Nat.reduceSub, Nat.reduceLT, Nat.reduceLeDiff, Nat.reduceBEq, Nat.reduceLeDiff, reduceCtorEq, Int.reduceLT, Int.reduceEq, Int.reduceLE, Int.reduceAdd, Int.reduceSub, Int.reduceToNat, Int.reduceNeg, Int.toNat_natCast, beq_self_eq_true, wrap64, undef, Nat.zero_add, Nat.add_zero, Int.zero_add, Int.add_zero, Int.sub_zero, St.loadN_other, St.cell_other, h0, h1, h2, h7, h8, h9]
          have hI2 := hI.put (chooseV_choice _) hx hy (d := (ks[i], 0)) (by rw [hcv]; exact hp) key2
          rw [hcv, ← htk] at hI2
          exact ⟨ks.length - (i + 1), by omega, i + 1, _, _, rfl, by omega, rfl, rfl, (he.trans he7).but hb8 (ho.fresh dotE), ho8, hI2, (by first | omega | (simp; done) | (simp; omega))⟩
        · have hI2 := hI.skip (d := (ks[i], 0)) fun h => absurd (by rw [hcv] at h; exact h) hp
          rw [← htk] at hI2
          first
          | omega
          | simp (disch := omega) only [go_sem, ↓reduceIte, Nat.reduceEqDiff, Nat.reduceAdd, Nat.reduceMul, Nat.reduceSub, Nat.reduceLT, Nat.reduceLeDiff, Nat.reduceBEq, Nat.reduceLeDiff, reduceCtorEq, Int.reduceLT, Int.reduceEq, Int.reduceLE, Int.reduceAdd, Int.reduceSub, Int.reduceToNat, Int.reduceNeg, Int.toNat_natCast, beq_self_eq_true, wrap64, undef, Nat.zero_add, Nat.add_zero, Int.zero_add, Int.add_zero, Int.sub_zero, St.loadN_other, St.cell_other, h0, h1, h2, h7, h8, h9]
            exact ⟨ks.length - (i + 1), by omega, i + 1, _, _, rfl, by omega, rfl, rfl, he, ho, hI2, by omega⟩
    · cases meet with
      | false =>
        have hcv : chooseV false (getV xs ks[i]) (getV ys ks[i]) = getV xs ks[i] := by simp [chooseV]; omega
        simp (disch := omega) only [go_sem, ↓reduceIte, Nat.reduceEqDiff, Nat.reduceAdd, Nat.reduceMul, Nat.reduceSub, Nat.reduceLT, Nat.reduceLeDiff, Nat.reduceBEq, Nat.reduceLeDiff, reduceCtorEq, Int.reduceLT, Int.reduceEq, Int.reduceLE, Int.reduceAdd, Int.reduceSub, Int.reduceToNat, Int.reduceNeg, Int.toNat_natCast, beq_self_eq_true, wrap64, undef, Nat.zero_add, Nat.add_zero, Int.zero_add, Int.add_zero, Int.sub_zero, St.loadN_other, St.cell_other, h0, h1, h2, h7, h8, h9, hyx, Bool.not_false]
        have key2 : ∀ e ∈ out, e.1 < ks[i] := hmono
        refine wcond_dec (fun hp => ?_) (fun hp => ?_)
        · simp (disch := omega) only [go_sem, ↓reduceIte, Nat.reduceEqDiff, Nat.reduceAdd, Nat.reduceMul, Nat.reduceSub, Nat.reduceLT, Nat.reduceLeDiff, Nat.reduceBEq, Nat.reduceLeDiff, reduceCtorEq, Int.reduceLT, Int.reduceEq, Int.reduceLE, Int.reduceAdd, Int.reduceSub, Int.reduceToNat, Int.reduceNeg, Int.toNat_natCast, beq_self_eq_true, wrap64, undef, Nat.zero_add, Nat.add_zero, Int.zero_add, Int.add_zero, Int.sub_zero, St.loadN_other, St.cell_other, h0, h1, h2, h7, h8, h9, c1, hx0, Nat.mul_one]
          refine wfresh_of fun u hu => ?_
          simp (disch := omega) only [go_sem, ↓reduceIte, Nat.reduceEqDiff, Nat.reduceAdd, Nat.reduceMul, Nat.reduceSub, Nat.reduceLT, Nat.reduceLeDiff, Nat.reduceBEq, Nat.reduceLeDiff, reduceCtorEq, Int.reduceLT, Int.reduceEq, Int.reduceLE, Int.reduceAdd, Int.reduceSub, Int.reduceToNat, Int.reduceNeg, Int.toNat_natCast, beq_self_eq_true, wrap64, undef, Nat.zero_add, Nat.add_zero, Int.zero_add, Int.add_zero, Int.sub_zero, St.loadN_other, St.cell_other, h0, h1, h2, h7, h8, h9]
          have he7 := (St.Ext.refl S5).put hu (.cells true 2 [.int .i64 ks[i], .int .i64 (getV xs ks[i])])
          refine wE_app dotE (ys := [(ks[i], getV xs ks[i])]) (ho.ext dotE he7) (SlT.lit dotE (xs := [(ks[i], getV xs ks[i])])) rfl rfl (he.trans he7).n (by first | omega | (simp; done) | (simp; omega)) (by first | omega | (simp; done) | (simp; omega)) fun v8 S8 ho8 hb8 hv8 => ?_
          simp (disch := omega) only [go_sem, ↓reduceIte, Nat.reduceEqDiff, Nat.reduceAdd, Nat.reduceMul, Nat.reduceSub, Nat.reduceLT, Nat.reduceLeDiff, Nat.reduceBEq, Nat.reduceLeDiff, reduceCtorEq, Int.reduceLT, Int.reduceEq, Int.reduceLE, Int.reduceAdd, Int.reduceSub, Int.reduceToNat, Int.reduceNeg, Int.toNat_natCast, beq_self_eq_true, wrap64, undef, Nat.zero_add, Nat.add_zero, Int.zero_add, Int.add_zero, Int.sub_zero, St.loadN_other, St.cell_other, h0, h1, h2, h7, h8, h9]
          have hI2 := hI.put (chooseV_choice _) hx hy (d := (ks[i], 0)) (by rw [hcv]; exact hp) key2
          rw [hcv, ← htk] at hI2
          exact ⟨ks.length - (i + 1), by omega, i + 1, _, _, rfl, by omega, rfl, rfl, (he.trans he7).but hb8 (ho.fresh dotE), ho8, hI2, (by first | omega | (simp; done) | (simp; omega))⟩
        · have hI2 := hI.skip (d := (ks[i], 0)) fun h => absurd (by rw [hcv] at h; exact h) hp
          rw [← htk] at hI2
          first
          | omega
          | simp (disch := omega) only [go_sem, ↓reduceIte, Nat.reduceEqDiff, Nat.reduceAdd, Nat.reduceMul, Nat.reduceSub, Nat.reduceLT, Nat.reduceLeDiff, Nat.reduceBEq, Nat.reduceLeDiff, reduceCtorEq, Int.reduceLT, Int.reduceEq, Int.reduceLE, Int.reduceAdd, Int.reduceSub, Int.reduceToNat, Int.reduceNeg, Int.toNat_natCast, beq_self_eq_true, wrap64, undef, Nat.zero_add, Nat.add_zero, Int.zero_add, Int.add_zero, Int.sub_zero, St.loadN_other, St.cell_other, h0, h1, h2, h7, h8, h9]
            exact ⟨ks.length - (i + 1), by omega, i + 1, _, _, rfl, by omega, rfl, rfl, he, ho, hI2, by omega⟩
      | true =>
        have hcv : chooseV true (getV xs ks[i]) (getV ys ks[i]) = getV ys ks[i] := by simp [chooseV]; omega
        simp (disch := omega) only [go_sem, ↓reduceIte, Nat.reduceEqDiff, Nat.reduceAdd, Nat.reduceMul, Nat.reduceSub, Nat.reduceLT, Nat.reduceLeDiff, Nat.reduceBEq, Nat.reduceLeDiff, reduceCtorEq, Int.reduceLT, Int.reduceEq, Int.reduceLE, Int.reduceAdd, Int.reduceSub, Int.reduceToNat, Int.reduceNeg, Int.toNat_natCast, beq_self_eq_true, wrap64, undef, Nat.zero_add, Nat.add_zero, Int.zero_add, Int.add_zero, Int.sub_zero, St.loadN_other, St.cell_other, h0, h1, h2, h7, h8, h9, hyx, Bool.not_false]
        have key2 : ∀ e ∈ out, e.1 < ks[i] := hmono
        refine wcond_dec (fun hp => ?_) (fun hp => ?_)
        · simp (disch := omega) only [go_sem, ↓reduceIte, Nat.reduceEqDiff, Nat.reduceAdd, Nat.reduceMul, Nat.reduceSub, Nat.reduceLT, Nat.reduceLeDiff, Nat.reduceBEq, Nat.reduceLeDiff, reduceCtorEq, Int.reduceLT, Int.reduceEq, Int.reduceLE, Int.reduceAdd, Int.reduceSub, Int.reduceToNat, Int.reduceNeg, Int.toNat_natCast, beq_self_eq_true, wrap64, undef, Nat.zero_add, Nat.add_zero, Int.zero_add, Int.add_zero, Int.sub_zero, St.loadN_other, St.cell_other, h0, h1, h2, h7, h8, h9, c1, hx0, Nat.mul_one]
          refine wfresh_of fun u hu => ?_
          simp (disch := omega) only [go_sem, ↓reduceIte, Nat.reduceEqDiff, Nat.reduceAdd, Nat.reduceMul, Nat.reduceSub, Nat.reduceLT, Nat.reduceLeDiff, Nat.reduceBEq, Nat.reduceLeDiff, reduceCtorEq, Int.reduceLT, Int.reduceEq, Int.reduceLE, Int.reduceAdd, Int.reduceSub, Int.reduceToNat, Int.reduceNeg, Int.toNat_natCast, beq_self_eq_true, wrap64, undef, Nat.zero_add, Nat.add_zero, Int.zero_add, Int.add_zero, Int.sub_zero, St.loadN_other, St.cell_other, h0, h1, h2, h7, h8, h9]
          have he7 := (St.Ext.refl S5).put hu (.cells true 2 [.int .i64 ks[i], .int .i64 (getV ys ks[i])])
          refine wE_app dotE (ys := [(ks[i], getV ys ks[i])]) (ho.ext dotE he7) (SlT.lit dotE (xs := [(ks[i], getV ys ks[i])])) rfl rfl (he.trans he7).n (by first | omega | (simp; done) | (simp; omega)) (by first | omega | (simp; done) | (simp; omega)) fun v8 S8 ho8 hb8 hv8 => ?_
          simp (disch := omega) only [go_sem, ↓reduceIte, Nat.reduceEqDiff, Nat.reduceAdd, Nat.reduceMul, Nat.reduceSub, Nat.reduceLT, Nat.reduceLeDiff, Nat.reduceBEq, Nat.reduceLeDiff, reduceCtorEq, Int.reduceLT, Int.reduceEq, Int.reduceLE, Int.reduceAdd, Int.reduceSub, Int.reduceToNat, Int.reduceNeg, Int.toNat_natCast, beq_self_eq_true, wrap64, undef, Nat.zero_add, Nat.add_zero, Int.zero_add, Int.add_zero, Int.sub_zero, St.loadN_other, St.cell_other, h0, h1, h2, h7, h8, h9]
          have hI2 := hI.put (chooseV_choice _) hx hy (d := (ks[i], 0)) (by rw [hcv]; exact hp) key2
          rw [hcv, ← htk] at hI2
          exact ⟨ks.length - (i + 1), by omega, i + 1, _, _, rfl, by omega, rfl, rfl, (he.trans he7).but hb8 (ho.fresh dotE), ho8, hI2, (by first | omega | (simp; done) | (simp; omega))⟩
        · have hI2 := hI.skip (d := (ks[i], 0)) fun h => absurd (by rw [hcv] at h; exact h) hp
          rw [← htk] at hI2
          first
          | omega
          | simp (disch := omega) only [go_sem, ↓reduceIte, Nat.reduceEqDiff, Nat.reduceAdd, Nat.reduceMul, Nat.reduceSub, Nat.reduceLT, Nat.reduceLeDiff, Nat.reduceBEq, Nat.reduceLeDiff, reduceCtorEq, Int.reduceLT, Int.reduceEq, Int.reduceLE, Int.reduceAdd, Int.reduceSub, Int.reduceToNat, Int.reduceNeg, Int.toNat_natCast, beq_self_eq_true, wrap64, undef, Nat.zero_add, Nat.add_zero, Int.zero_add, Int.add_zero, Int.sub_zero, St.loadN_other, St.cell_other, h0, h1, h2, h7, h8, h9]
            exact ⟨ks.length - (i + 1), by omega, i + 1, _, _, rfl, by omega, rfl, rfl, he, ho, hI2, by omega⟩
  · simp (disch := omega) only [go_sem, ↓reduceIte, Nat.reduceEqDiff, Nat.reduceAdd, Nat.reduceMul, Nat.reduceSub, Nat.reduceLT, Nat.reduceLeDiff, Nat.reduceBEq, Nat.reduceLeDiff, reduceCtorEq, Int.reduceLT, Int.reduceEq, Int.reduceLE, Int.reduceAdd, Int.reduceSub, Int.reduceToNat, Int.reduceNeg, Int.toNat_natCast, beq_self_eq_true, wrap64, undef, Nat.zero_add, Nat.add_zero, Int.zero_add, Int.add_zero, Int.sub_zero, St.loadN_other, St.cell_other, h7]
    rw [List.take_of_length_le (by omega)] at hI
    have := hI.eq (chooseV_choice meet) hx hy fun d hd => ⟨(d.1, 0), List.mem_map.2 ⟨d.1, (hA.mem _).2 (by
      rcases List.mem_append.1 hd with h | h
      · exact .inl ⟨d, by rw [List.take_length]; exact h, rfl⟩
      · exact .inr ⟨d, by rw [List.take_length]; exact h, rfl⟩), rfl⟩, rfl⟩
    rw [this] at ho
    exact ⟨ho.mono dotE he1.n, e5⟩
theorem F.osierref04_With_J {S : St} {l : Value} {xs : List Dot} {d : Dot} (hl : SlT dotE S l xs) (hx : isV xs) (hL : xs.length < 20000) :
    J PR F.osierref04_With [l, dotV d] S fun v S' => SlT dotE S' v (withV xs d) ∧ S.Ext S' := by
  refine J_by PR.mixed F.osierref04_With.ok (by simp) ?_
  simp (disch := omega) only [go_sem, ↓reduceIte, Nat.reduceEqDiff, Nat.reduceAdd, Nat.reduceMul, Nat.reduceSub, Nat.reduceLT, Nat.reduceLeDiff, Nat.reduceBEq, Nat.reduceLeDiff, reduceCtorEq, Int.reduceLT, Int.reduceEq, Int.reduceLE, Int.reduceAdd, Int.reduceSub, Int.reduceToNat, Int.reduceNeg, Int.toNat_natCast, beq_self_eq_true, wrap64, undef, Nat.zero_add, Nat.add_zero, Int.zero_add, Int.add_zero, Int.sub_zero, St.loadN_other, St.cell_other]
  refine wfresh_of fun x hx' => ?_
  simp (disch := omega) only [go_sem, ↓reduceIte, Nat.reduceEqDiff, Nat.reduceAdd, Nat.reduceMul, Nat.reduceSub, Nat.reduceLT, Nat.reduceLeDiff, Nat.reduceBEq, Nat.reduceLeDiff, reduceCtorEq, Int.reduceLT, Int.reduceEq, Int.reduceLE, Int.reduceAdd, Int.reduceSub, Int.reduceToNat, Int.reduceNeg, Int.toNat_natCast, beq_self_eq_true, wrap64, undef, Nat.zero_add, Nat.add_zero, Int.zero_add, Int.add_zero, Int.sub_zero, St.loadN_other, St.cell_other]
  have he := (St.Ext.refl S).put hx' (.cells true 2 [.int .i64 d.1, .int .i64 d.2])
  refine wJ_of F.osierref03_May_P ?_; rintro _ _ ⟨rfl, rfl⟩
  unfold withV
  by_cases hm : mayP d
  · simp (disch := omega) only [go_sem, ↓reduceIte, Nat.reduceEqDiff, Nat.reduceAdd, Nat.reduceMul, Nat.reduceSub, Nat.reduceLT, Nat.reduceLeDiff, Nat.reduceBEq, Nat.reduceLeDiff, reduceCtorEq, Int.reduceLT, Int.reduceEq, Int.reduceLE, Int.reduceAdd, Int.reduceSub, Int.reduceToNat, Int.reduceNeg, Int.toNat_natCast, beq_self_eq_true, wrap64, undef, Nat.zero_add, Nat.add_zero, Int.zero_add, Int.add_zero, Int.sub_zero, St.loadN_other, St.cell_other, hm]
    refine wfresh_of fun y hy => ?_
    simp (disch := omega) only [go_sem, ↓reduceIte, Nat.reduceEqDiff, Nat.reduceAdd, Nat.reduceMul, Nat.reduceSub, Nat.reduceLT, Nat.reduceLeDiff, Nat.reduceBEq, Nat.reduceLeDiff, reduceCtorEq, Int.reduceLT, Int.reduceEq, Int.reduceLE, Int.reduceAdd, Int.reduceSub, Int.reduceToNat, Int.reduceNeg, Int.toNat_natCast, beq_self_eq_true, wrap64, undef, Nat.zero_add, Nat.add_zero, Int.zero_add, Int.add_zero, Int.sub_zero, St.loadN_other, St.cell_other]
    have he2 := he.put hy (.cells true 2 [.int .i64 d.1, .int .i64 d.2])
    refine wJ_of (F.osierref04_Join_J (ys := [d]) (meet := false) (hl.ext dotE he2) (SlT.lit dotE (xs := [d])) hx (isV_one hm) hL (by simp)) ?_; rintro v S1 ⟨ho, he3⟩
    simp (disch := omega) only [go_sem, ↓reduceIte, Nat.reduceEqDiff, Nat.reduceAdd, Nat.reduceMul, Nat.reduceSub, Nat.reduceLT, Nat.reduceLeDiff, Nat.reduceBEq, Nat.reduceLeDiff, reduceCtorEq, Int.reduceLT, Int.reduceEq, Int.reduceLE, Int.reduceAdd, Int.reduceSub, Int.reduceToNat, Int.reduceNeg, Int.toNat_natCast, beq_self_eq_true, wrap64, undef, Nat.zero_add, Nat.add_zero, Int.zero_add, Int.add_zero, Int.sub_zero, St.loadN_other, St.cell_other]
    rw [if_pos hm]
    exact ⟨ho.sl dotE, he2.trans he3⟩
  · simp (disch := omega) only [go_sem, ↓reduceIte, Nat.reduceEqDiff, Nat.reduceAdd, Nat.reduceMul, Nat.reduceSub, Nat.reduceLT, Nat.reduceLeDiff, Nat.reduceBEq, Nat.reduceLeDiff, reduceCtorEq, Int.reduceLT, Int.reduceEq, Int.reduceLE, Int.reduceAdd, Int.reduceSub, Int.reduceToNat, Int.reduceNeg, Int.toNat_natCast, beq_self_eq_true, wrap64, undef, Nat.zero_add, Nat.add_zero, Int.zero_add, Int.add_zero, Int.sub_zero, St.loadN_other, St.cell_other, hm]
    exact ⟨hl.ext dotE he, he⟩
theorem F.osierref04_Made_J {S : St} {l : Value} {xs : List Dot} (hl : SlT dotE S l xs) :
    J PR F.osierref04_Made [l] S fun v S' => SlT dotE S' v (madeV xs) ∧ S.Ext S' := by
  obtain ⟨base, cap, rfl⟩ := hl.len dotE
  have hfold : ∀ (l v : List Dot), isV v → isV (l.foldl withV v) ∧ (l.foldl withV v).length ≤ v.length + l.length := by
    intro l
    induction l with
    | nil => exact fun v h => ⟨h, by simp⟩
    | cons d l ih =>
      intro v h
      obtain ⟨h1, h2⟩ := ih (withV v d) (withV_is h d)
      have h3 := withV_len v d
      exact ⟨h1, by simp only [List.foldl_cons, List.length_cons]; omega⟩
  refine J_by PR.mixed F.osierref04_Made.ok (by simp) ?_
  simp (disch := omega) only [go_sem, ↓reduceIte, Nat.reduceEqDiff, Nat.reduceAdd, Nat.reduceMul, Nat.reduceSub, Nat.reduceLT, Nat.reduceLeDiff, Nat.reduceBEq, Nat.reduceLeDiff, reduceCtorEq, Int.reduceLT, Int.reduceEq, Int.reduceLE, Int.reduceAdd, Int.reduceSub, Int.reduceToNat, Int.reduceNeg, Int.toNat_natCast, beq_self_eq_true, wrap64, undef, Nat.zero_add, Nat.add_zero, Int.zero_add, Int.add_zero, Int.sub_zero, St.loadN_other, St.cell_other]
  refine wC_loop (fun n fr S' => ∃ (i : Nat) (v : Value), n = xs.length - i ∧ i ≤ xs.length ∧ i ≤ 50 ∧ fr 0 = .slice base xs.length cap ∧ fr 3 = v ∧ fr 4 = .int .i64 (i : Nat) ∧ S.Ext S' ∧ SlT dotE S' v ((xs.take i).foldl withV [])) xs.length
    ⟨0, .slice none 0 0, by simp (disch := omega) only [go_sem, ↓reduceIte, Nat.reduceEqDiff, Nat.reduceAdd, Nat.reduceMul, Nat.reduceSub, Nat.reduceLT, Nat.reduceLeDiff, Nat.reduceBEq, Nat.reduceLeDiff, reduceCtorEq, Int.reduceLT, Int.reduceEq, Int.reduceLE, Int.reduceAdd, Int.reduceSub, Int.reduceToNat, Int.reduceNeg, Int.toNat_natCast, beq_self_eq_true, wrap64, undef, Nat.zero_add, Nat.add_zero, Int.zero_add, Int.add_zero, Int.sub_zero, St.loadN_other, St.cell_other]; exact ⟨by simp, by simp, St.Ext.refl _, (OwnT.nil dotE 0 _).sl dotE⟩⟩ ?_
  rintro n fr S5 ⟨i, v, rfl, hi, hi5, h0, h3, h4, he, hv⟩
  have hfin : (xs.length ≤ i ∨ 50 ≤ i) → (xs.take i).foldl withV [] = madeV xs := by
    intro h
    unfold madeV
    rcases h with h | h
    · rw [List.take_of_length_le h, List.take_of_length_le (by omega)]
    · rw [show i = 50 by omega]
  simp (disch := omega) only [go_sem, ↓reduceIte, Nat.reduceEqDiff, Nat.reduceAdd, Nat.reduceMul, Nat.reduceSub, Nat.reduceLT, Nat.reduceLeDiff, Nat.reduceBEq, Nat.reduceLeDiff, reduceCtorEq, Int.reduceLT, Int.reduceEq, Int.reduceLE, Int.reduceAdd, Int.reduceSub, Int.reduceToNat, Int.reduceNeg, Int.toNat_natCast, beq_self_eq_true, wrap64, undef, Nat.zero_add, Nat.add_zero, Int.zero_add, Int.add_zero, Int.sub_zero, St.loadN_other, St.cell_other, F.osierref04_Made.l0, h0, h3, h4]
  refine wguard_dec (fun hlt => ?_) (fun hge => ?_)
  · simp (disch := omega) only [go_sem, ↓reduceIte, Nat.reduceEqDiff, Nat.reduceAdd, Nat.reduceMul, Nat.reduceSub, Nat.reduceLT, Nat.reduceLeDiff, Nat.reduceBEq, Nat.reduceLeDiff, reduceCtorEq, Int.reduceLT, Int.reduceEq, Int.reduceLE, Int.reduceAdd, Int.reduceSub, Int.reduceToNat, Int.reduceNeg, Int.toNat_natCast, beq_self_eq_true, wrap64, undef, Nat.zero_add, Nat.add_zero, Int.zero_add, Int.add_zero, Int.sub_zero, St.loadN_other, St.cell_other, h0, h3, h4, hlt]
    refine wcond_dec (fun h50 => ?_) (fun h50 => ?_)
    · have hlx : i < xs.length := by omega
      obtain ⟨b, off, rfl, hb, hx0⟩ := (hl.ext dotE he).dot hlx
      have c1 : (0 : Int) ≤ (i : Int) ∧ (i : Int) < (xs.length : Int) := by omega
      simp (disch := omega) only [go_sem, ↓reduceIte, Nat.reduceEqDiff, Nat.reduceAdd, Nat.reduceMul, Nat.reduceSub, Nat.reduceLT, Nat.reduceLeDiff, Nat.reduceBEq, Nat.reduceLeDiff, reduceCtorEq, Int.reduceLT, Int.reduceEq, Int.reduceLE, Int.reduceAdd, Int.reduceSub, Int.reduceToNat, Int.reduceNeg, Int.toNat_natCast, beq_self_eq_true, wrap64, undef, Nat.zero_add, Nat.add_zero, Int.zero_add, Int.add_zero, Int.sub_zero, St.loadN_other, St.cell_other, h0, h3, h4, c1, hx0]
      obtain ⟨g1, g2⟩ := hfold (xs.take i) [] isV_nil
      simp only [List.length_nil, List.length_take] at g2
      refine wJ_of (F.osierref04_With_J hv g1 (by omega)) ?_; rintro v2 S2 ⟨hs2, he2⟩
      simp (disch := omega) only [go_sem, ↓reduceIte, Nat.reduceEqDiff, Nat.reduceAdd, Nat.reduceMul, Nat.reduceSub, Nat.reduceLT, Nat.reduceLeDiff, Nat.reduceBEq, Nat.reduceLeDiff, reduceCtorEq, Int.reduceLT, Int.reduceEq, Int.reduceLE, Int.reduceAdd, Int.reduceSub, Int.reduceToNat, Int.reduceNeg, Int.toNat_natCast, beq_self_eq_true, wrap64, undef, Nat.zero_add, Nat.add_zero, Int.zero_add, Int.add_zero, Int.sub_zero, St.loadN_other, St.cell_other, h0, h4]
      refine ⟨xs.length - (i + 1), by omega, i + 1, _, rfl, by omega, by omega, rfl, rfl, he.trans he2, ?_⟩
      rw [take_snoc (List.getElem?_eq_getElem hlx), List.foldl_append]
      exact hs2
    · simp (disch := omega) only [go_sem, ↓reduceIte, Nat.reduceEqDiff, Nat.reduceAdd, Nat.reduceMul, Nat.reduceSub, Nat.reduceLT, Nat.reduceLeDiff, Nat.reduceBEq, Nat.reduceLeDiff, reduceCtorEq, Int.reduceLT, Int.reduceEq, Int.reduceLE, Int.reduceAdd, Int.reduceSub, Int.reduceToNat, Int.reduceNeg, Int.toNat_natCast, beq_self_eq_true, wrap64, undef, Nat.zero_add, Nat.add_zero, Int.zero_add, Int.add_zero, Int.sub_zero, St.loadN_other, St.cell_other, h3]
      rw [hfin (.inr (by omega))] at hv
      exact ⟨hv, he⟩
  · simp (disch := omega) only [go_sem, ↓reduceIte, Nat.reduceEqDiff, Nat.reduceAdd, Nat.reduceMul, Nat.reduceSub, Nat.reduceLT, Nat.reduceLeDiff, Nat.reduceBEq, Nat.reduceLeDiff, reduceCtorEq, Int.reduceLT, Int.reduceEq, Int.reduceLE, Int.reduceAdd, Int.reduceSub, Int.reduceToNat, Int.reduceNeg, Int.toNat_natCast, beq_self_eq_true, wrap64, undef, Nat.zero_add, Nat.add_zero, Int.zero_add, Int.add_zero, Int.sub_zero, St.loadN_other, St.cell_other, h0, h3, h4, hge]
    rw [hfin (.inl (by omega))] at hv
    exact ⟨hv, he⟩
end Go.Osj
