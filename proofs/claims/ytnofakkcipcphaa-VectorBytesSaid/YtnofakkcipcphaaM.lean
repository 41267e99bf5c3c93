/- Contracts of layer 4: Missing. -/
import Derived.Test.YtnofakkcipcphaaK
set_option linter.unusedSimpArgs false
namespace Go.Osj
def runV (g : Int) (a : Int) (j : Nat) : List Dot := (List.range j).map fun (q : Nat) => (a, g + 1 + (q : Int))
theorem runV_succ (g a : Int) (j : Nat) : runV g a (j + 1) = runV g a j ++ [(a, g + 1 + (j : Int))] := by simp [runV, List.range_succ]
theorem runV_len (g a : Int) (j : Nat) : (runV g a j).length = j := by simp [runV]
def missV (xs ys : List Dot) : List Dot := xs.flatMap fun d => runV (getV ys d.1) d.1 (d.2 - getV ys d.1).toNat
theorem missV_snoc (v ys : List Dot) (d : Dot) : missV (v ++ [d]) ys = missV v ys ++ runV (getV ys d.1) d.1 (d.2 - getV ys d.1).toNat := by simp [missV]
theorem missV_split (xs ys : List Dot) (i : Nat) : missV xs ys = missV (xs.take i) ys ++ missV (xs.drop i) ys := by
  unfold missV
  rw [← List.flatMap_append, List.take_append_drop]
theorem runV_split (g a : Int) {j n : Nat} (h : j ≤ n) : ∃ r, runV g a n = runV g a j ++ r := by
  obtain ⟨m, rfl⟩ := Nat.le.dest h
  exact ⟨_, by unfold runV; rw [List.range_add, List.map_append]⟩
/-- what there is behind so many -/
theorem miss_prefix {xs ys : List Dot} {i j : Nat} (hi : i < xs.length) (hj : j ≤ (xs[i].2 - getV ys xs[i].1).toNat) : ∃ r, missV xs ys = missV (xs.take i) ys ++ runV (getV ys xs[i].1) xs[i].1 j ++ r := by
  obtain ⟨r, hr⟩ := runV_split (getV ys xs[i].1) xs[i].1 hj
  refine ⟨r ++ missV (xs.drop (i + 1)) ys, ?_⟩
  rw [missV_split xs ys (i + 1), take_snoc (List.getElem?_eq_getElem hi), missV_snoc, hr]
  simp
theorem take_full {α : Type} {A r : List α} {m : Nat} (h : m ≤ A.length) : (A ++ r).take m = A.take m := List.take_append_of_le_length h

theorem F.vector_Missing_J {S : St} {l k : Value} {most : Int} {xs ys : List Dot} (hl : SlT dotE S l xs) (hk : SlT dotE S k ys) (hx : isV xs) (hy : isV ys) (hL : xs.length < 20000) (hL2 : ys.length < 20000) (hm : most ≤ 100000) :
    J PR F.vector_Missing [l, k, .int .i64 most] S fun v S' => OwnT dotE S.n S' v ((missV xs ys).take most.toNat) ∧ S.Ext S' := by
  obtain ⟨base, cap, rfl⟩ := hl.len dotE
  refine J_by PR.mixed F.vector_Missing.ok (by simp) ?_
  simp (disch := omega) only [go_sem, ↓reduceIte, Nat.reduceEqDiff, Nat.reduceAdd, Nat.reduceMul, Nat.reduceSub, Nat.reduceLT, Nat.reduceLeDiff, Nat.reduceBEq, Nat.reduceLeDiff, reduceCtorEq, Int.reduceLT, Int.reduceEq, Int.reduceLE, Int.reduceAdd, Int.reduceSub, Int.reduceToNat, Int.reduceNeg, Int.toNat_natCast, beq_self_eq_true, wrap64, undef, Nat.zero_add, Nat.add_zero, Int.zero_add, Int.add_zero, Int.sub_zero, St.loadN_other, St.cell_other]
  refine wfresh_of fun y0 hy0 => ?_
  simp (disch := omega) only [go_sem, ↓reduceIte, Nat.reduceEqDiff, Nat.reduceAdd, Nat.reduceMul, Nat.reduceSub, Nat.reduceLT, Nat.reduceLeDiff, Nat.reduceBEq, Nat.reduceLeDiff, reduceCtorEq, Int.reduceLT, Int.reduceEq, Int.reduceLE, Int.reduceAdd, Int.reduceSub, Int.reduceToNat, Int.reduceNeg, Int.toNat_natCast, beq_self_eq_true, wrap64, undef, Nat.zero_add, Nat.add_zero, Int.zero_add, Int.add_zero, Int.sub_zero, St.loadN_other, St.cell_other]
  have he0 := (St.Ext.refl S).put hy0 (.cells true 0 [])
  have ho0 : OwnT dotE S.n (S.put y0 (.cells true 0 [])) (.slice (some ⟨y0, 0, none⟩) 0 0) [] := OwnT.mk dotE (xs := []) hy0 (St.lt_put_self _ _ _) (Nat.le_refl 0) (St.put_same _ _ _)
  refine wC_at 0 (fun fr S' => ∃ v, fr 7 = v ∧ OwnT dotE S.n S' v ((missV xs ys).take most.toNat) ∧ S.Ext S') ?_ ?_
  · refine wC_loop (fun n fr S' => ∃ (i : Nat) (v : Value), n = xs.length - i ∧ i ≤ xs.length ∧ fr 1 = k ∧ fr 2 = .int .i64 most ∧ fr 7 = v ∧ fr 12 = .slice base xs.length cap ∧ fr 13 = .int .i64 xs.length ∧ fr 14 = .int .i64 (i : Nat) ∧ S.Ext S' ∧
      OwnT dotE S.n S' v ((missV (xs.take i) ys).take most.toNat)) xs.length ⟨0, .slice (some ⟨y0, 0, none⟩) 0 0, by simp (disch := omega) only [go_sem, ↓reduceIte, Nat.reduceEqDiff, Nat.reduceAdd, Nat.reduceMul, Nat.reduceSub, Nat.reduceLT, Nat.reduceLeDiff, Nat.reduceBEq, Nat.reduceLeDiff, reduceCtorEq, Int.reduceLT, Int.reduceEq, Int.reduceLE, Int.reduceAdd, Int.reduceSub, Int.reduceToNat, Int.reduceNeg, Int.toNat_natCast, beq_self_eq_true, wrap64, undef, Nat.zero_add, Nat.add_zero, Int.zero_add, Int.add_zero, Int.sub_zero, St.loadN_other, St.cell_other]; exact ⟨by simp, by simp, he0, by simpa [missV] using ho0⟩⟩ ?_
    rintro n fr S1 ⟨i, v, rfl, hi, h1, h2, h7, h12, h13, h14, he, ho⟩
    simp (disch := omega) only [go_sem, ↓reduceIte, Nat.reduceEqDiff, Nat.reduceAdd, Nat.reduceMul, Nat.reduceSub, Nat.reduceLT, Nat.reduceLeDiff, Nat.reduceBEq, Nat.reduceLeDiff, reduceCtorEq, Int.reduceLT, Int.reduceEq, Int.reduceLE, Int.reduceAdd, Int.reduceSub, Int.reduceToNat, Int.reduceNeg, Int.toNat_natCast, beq_self_eq_true, wrap64, undef, Nat.zero_add, Nat.add_zero, Int.zero_add, Int.add_zero, Int.sub_zero, St.loadN_other, St.cell_other, F.vector_Missing.l1, h1, h2, h7, h12, h13, h14]
    refine wcond_dec (fun hlt => ?_) (fun hge => ?_)
    · have hlx : i < xs.length := by omega
      obtain ⟨b, off, rfl, hb, hx0⟩ := (hl.ext dotE he).dot hlx
      have c1 : (0 : Int) ≤ (i : Int) ∧ (i : Int) < (xs.length : Int) := by omega
      simp (disch := omega) only [go_sem, ↓reduceIte, Nat.reduceEqDiff, Nat.reduceAdd, Nat.reduceMul, Nat.reduceSub, Nat.reduceLT, Nat.reduceLeDiff, Nat.reduceBEq, Nat.reduceLeDiff, reduceCtorEq, Int.reduceLT, Int.reduceEq, Int.reduceLE, Int.reduceAdd, Int.reduceSub, Int.reduceToNat, Int.reduceNeg, Int.toNat_natCast, beq_self_eq_true, wrap64, undef, Nat.zero_add, Nat.add_zero, Int.zero_add, Int.add_zero, Int.sub_zero, St.loadN_other, St.cell_other, h1, h2, h7, h12, h13, h14, c1, hx0]
      refine wfresh_of fun w hw => ?_
      simp (disch := omega) only [go_sem, ↓reduceIte, Nat.reduceEqDiff, Nat.reduceAdd, Nat.reduceMul, Nat.reduceSub, Nat.reduceLT, Nat.reduceLeDiff, Nat.reduceBEq, Nat.reduceLeDiff, reduceCtorEq, Int.reduceLT, Int.reduceEq, Int.reduceLE, Int.reduceAdd, Int.reduceSub, Int.reduceToNat, Int.reduceNeg, Int.toNat_natCast, beq_self_eq_true, wrap64, undef, Nat.zero_add, Nat.add_zero, Int.zero_add, Int.add_zero, Int.sub_zero, St.loadN_other, St.cell_other, h1, h2, h7, h12, h13, h14]
      have he2 := (St.Ext.refl S1).put hw (.cells true 2 [.int .i64 xs[i].1, .int .i64 xs[i].2])
      have hw2 := St.lt_put_self S1 w (.cells true 2 [.int .i64 xs[i].1, .int .i64 xs[i].2])
      have e2 := he.trans he2
      refine wJ_of (F.vector_Get_J (hk.ext dotE e2) (by omega)) ?_; rintro _ _ ⟨rfl, rfl⟩
      have hg := getV_range hy xs[i].1
      have hd : mayP xs[i] := hx.2 _ (List.getElem_mem _)
      unfold mayP at hd
      have hbv : ∀ q, blkOf v = some q → S.n ≤ q ∧ q < S1.n := ho.blk dotE
      simp (disch := omega) only [go_sem, ↓reduceIte, Nat.reduceEqDiff, Nat.reduceAdd, Nat.reduceMul, Nat.reduceSub, Nat.reduceLT, Nat.reduceLeDiff, Nat.reduceBEq, Nat.reduceLeDiff, reduceCtorEq, Int.reduceLT, Int.reduceEq, Int.reduceLE, Int.reduceAdd, Int.reduceSub, Int.reduceToNat, Int.reduceNeg, Int.toNat_natCast, beq_self_eq_true, wrap64, undef, Nat.zero_add, Nat.add_zero, Int.zero_add, Int.add_zero, Int.sub_zero, St.loadN_other, St.cell_other, h1, h2, h7, h12, h13, h14]
      refine wC_loop (fun n fr S' => ∃ (j : Nat) (v : Value), n = (xs[i].2 - getV ys xs[i].1).toNat - j ∧ j ≤ (xs[i].2 - getV ys xs[i].1).toNat ∧ fr 1 = k ∧ fr 2 = .int .i64 most ∧ fr 7 = v ∧ fr 9 = .pointer (some ⟨w, 0, none⟩) ∧ fr 10 = .int .i64 (getV ys xs[i].1 + 1 + (j : Nat)) ∧ fr 12 = .slice (some ⟨b, off, none⟩) xs.length cap ∧ fr 13 = .int .i64 xs.length ∧ fr 14 = .int .i64 (i : Nat) ∧ S.Ext S' ∧
        OwnT dotE S.n S' v ((missV (xs.take i) ys ++ runV (getV ys xs[i].1) xs[i].1 j).take most.toNat) ∧ S'.obj w = some (.cells true 2 [.int .i64 xs[i].1, .int .i64 xs[i].2]) ∧ w < S'.n ∧ blkOf v ≠ some w) (xs[i].2 - getV ys xs[i].1).toNat
        ⟨0, v, by simp (disch := omega) only [go_sem, ↓reduceIte, Nat.reduceEqDiff, Nat.reduceAdd, Nat.reduceMul, Nat.reduceSub, Nat.reduceLT, Nat.reduceLeDiff, Nat.reduceBEq, Nat.reduceLeDiff, reduceCtorEq, Int.reduceLT, Int.reduceEq, Int.reduceLE, Int.reduceAdd, Int.reduceSub, Int.reduceToNat, Int.reduceNeg, Int.toNat_natCast, beq_self_eq_true, wrap64, undef, Nat.zero_add, Nat.add_zero, Int.zero_add, Int.add_zero, Int.sub_zero, St.loadN_other, St.cell_other, h1, h2, h7, h12, h13, h14]; exact ⟨by simp, by simp, e2, by simpa [runV] using ho.ext dotE he2, St.put_same _ _ _, hw2, fun hq => by have := hbv _ hq; omega⟩⟩ ?_
      rintro n fr S3 ⟨j, v3, rfl, hj, h1, h2, h7, h9, h10, h12, h13, h14, he3, ho3, hob, hwn, hvw⟩
      have lw0 : S3.cell ⟨w, 0, none⟩ = some (.int .i64 xs[i].1) := by rw [St.cell_def, hob]; rfl
      have lw1 : S3.cell ⟨w, 1, none⟩ = some (.int .i64 xs[i].2) := by rw [St.cell_def, hob]; rfl
      obtain ⟨bo, co, hv3⟩ := (ho3.sl dotE).len dotE
      simp (disch := omega) only [go_sem, ↓reduceIte, Nat.reduceEqDiff, Nat.reduceAdd, Nat.reduceMul, Nat.reduceSub, Nat.reduceLT, Nat.reduceLeDiff, Nat.reduceBEq, Nat.reduceLeDiff, reduceCtorEq, Int.reduceLT, Int.reduceEq, Int.reduceLE, Int.reduceAdd, Int.reduceSub, Int.reduceToNat, Int.reduceNeg, Int.toNat_natCast, beq_self_eq_true, wrap64, undef, Nat.zero_add, Nat.add_zero, Int.zero_add, Int.add_zero, Int.sub_zero, St.loadN_other, St.cell_other, F.vector_Missing.l0, h1, h2, h7, h9, h10, h12, h13, h14, lw0, lw1]
      refine wcond_dec (fun hlt2 => ?_) (fun hge2 => ?_)
      · simp (disch := omega) only [go_sem, ↓reduceIte, Nat.reduceEqDiff, Nat.reduceAdd, Nat.reduceMul, Nat.reduceSub, Nat.reduceLT, Nat.reduceLeDiff, Nat.reduceBEq, Nat.reduceLeDiff, reduceCtorEq, Int.reduceLT, Int.reduceEq, Int.reduceLE, Int.reduceAdd, Int.reduceSub, Int.reduceToNat, Int.reduceNeg, Int.toNat_natCast, beq_self_eq_true, wrap64, undef, Nat.zero_add, Nat.add_zero, Int.zero_add, Int.add_zero, Int.sub_zero, St.loadN_other, St.cell_other, h1, h2, h7, h9, h10, h12, h13, h14, lw0, lw1, hv3]
        refine wcond_dec (fun hq => ?_) (fun hq => ?_)
        · simp (disch := omega) only [go_sem, ↓reduceIte, Nat.reduceEqDiff, Nat.reduceAdd, Nat.reduceMul, Nat.reduceSub, Nat.reduceLT, Nat.reduceLeDiff, Nat.reduceBEq, Nat.reduceLeDiff, reduceCtorEq, Int.reduceLT, Int.reduceEq, Int.reduceLE, Int.reduceAdd, Int.reduceSub, Int.reduceToNat, Int.reduceNeg, Int.toNat_natCast, beq_self_eq_true, wrap64, undef, Nat.zero_add, Nat.add_zero, Int.zero_add, Int.add_zero, Int.sub_zero, St.loadN_other, St.cell_other, h7]
          obtain ⟨r, hr⟩ := miss_prefix (ys := ys) hlx hj
          rw [hr, take_full]
          · exact ⟨_, rfl, ho3, he3⟩
          · simp only [List.length_take, List.length_append, runV_len] at hq ⊢
            omega
        · simp (disch := omega) only [go_sem, ↓reduceIte, Nat.reduceEqDiff, Nat.reduceAdd, Nat.reduceMul, Nat.reduceSub, Nat.reduceLT, Nat.reduceLeDiff, Nat.reduceBEq, Nat.reduceLeDiff, reduceCtorEq, Int.reduceLT, Int.reduceEq, Int.reduceLE, Int.reduceAdd, Int.reduceSub, Int.reduceToNat, Int.reduceNeg, Int.toNat_natCast, beq_self_eq_true, wrap64, undef, Nat.zero_add, Nat.add_zero, Int.zero_add, Int.add_zero, Int.sub_zero, St.loadN_other, St.cell_other, h1, h2, h7, h9, h10, h12, h13, h14, lw0, lw1]
          refine wfresh_of fun u hu => ?_
          simp (disch := omega) only [go_sem, ↓reduceIte, Nat.reduceEqDiff, Nat.reduceAdd, Nat.reduceMul, Nat.reduceSub, Nat.reduceLT, Nat.reduceLeDiff, Nat.reduceBEq, Nat.reduceLeDiff, reduceCtorEq, Int.reduceLT, Int.reduceEq, Int.reduceLE, Int.reduceAdd, Int.reduceSub, Int.reduceToNat, Int.reduceNeg, Int.toNat_natCast, beq_self_eq_true, wrap64, undef, Nat.zero_add, Nat.add_zero, Int.zero_add, Int.add_zero, Int.sub_zero, St.loadN_other, St.cell_other, h1, h2, h7, h9, h10, h12, h13, h14]
          have he4 := (St.Ext.refl S3).put hu (.cells true 2 [.int .i64 xs[i].1, .int .i64 (getV ys xs[i].1 + 1 + (j : Nat))])
          refine wE_app dotE (ys := [(xs[i].1, getV ys xs[i].1 + 1 + (j : Nat))]) (ho3.ext dotE he4) (SlT.lit dotE (xs := [(xs[i].1, getV ys xs[i].1 + 1 + (j : Nat))])) rfl rfl (he3.trans he4).n ?_ ?_ fun v8 S8 ho8 hb8 hv8 => ?_
          · simp only [List.length_take, List.length_singleton]; omega
          · simp only [List.length_take, List.length_singleton]; omega
          simp (disch := omega) only [go_sem, ↓reduceIte, Nat.reduceEqDiff, Nat.reduceAdd, Nat.reduceMul, Nat.reduceSub, Nat.reduceLT, Nat.reduceLeDiff, Nat.reduceBEq, Nat.reduceLeDiff, reduceCtorEq, Int.reduceLT, Int.reduceEq, Int.reduceLE, Int.reduceAdd, Int.reduceSub, Int.reduceToNat, Int.reduceNeg, Int.toNat_natCast, beq_self_eq_true, wrap64, undef, Nat.zero_add, Nat.add_zero, Int.zero_add, Int.add_zero, Int.sub_zero, St.loadN_other, St.cell_other, h1, h2, h7, h9, h10, h12, h13, h14]
          have hn4 := he4.n
          have hn8 := hb8.n
          refine ⟨(xs[i].2 - getV ys xs[i].1).toNat - (j + 1), by omega, j + 1, _, rfl, by omega, rfl, (by first | omega | (simp; done) | (simp; omega)), (he3.trans he4).but hb8 (ho3.fresh dotE), ?_, ?_, by omega, ?_⟩
          · rw [runV_succ, ← List.append_assoc]
            simp only [List.length_take, List.length_append, runV_len] at hq
            rw [List.take_of_length_le (by simp only [List.length_append, runV_len]; omega)] at ho8
            rw [List.take_of_length_le (by simp only [List.length_append, runV_len, List.length_singleton]; omega)]
            exact ho8
          · rw [hb8.obj w (by omega) hvw, he4.obj w hwn]
            exact hob
          · rcases hv8 with h | ⟨b8, h, hb8'⟩
            · rw [h]; exact hvw
            · rw [h]; intro e; injection e with e; omega
      · simp (disch := omega) only [go_sem, ↓reduceIte, Nat.reduceEqDiff, Nat.reduceAdd, Nat.reduceMul, Nat.reduceSub, Nat.reduceLT, Nat.reduceLeDiff, Nat.reduceBEq, Nat.reduceLeDiff, reduceCtorEq, Int.reduceLT, Int.reduceEq, Int.reduceLE, Int.reduceAdd, Int.reduceSub, Int.reduceToNat, Int.reduceNeg, Int.toNat_natCast, beq_self_eq_true, wrap64, undef, Nat.zero_add, Nat.add_zero, Int.zero_add, Int.add_zero, Int.sub_zero, St.loadN_other, St.cell_other, h1, h2, h7, h9, h10, h12, h13, h14]
        refine ⟨xs.length - (i + 1), by omega, i + 1, _, rfl, by omega, rfl, rfl, he3, ?_⟩
        rw [take_snoc (List.getElem?_eq_getElem hlx), missV_snoc]
        have hje : j = (xs[i].2 - getV ys xs[i].1).toNat := by omega
        rw [← hje]
        exact ho3
    · simp (disch := omega) only [go_sem, ↓reduceIte, Nat.reduceEqDiff, Nat.reduceAdd, Nat.reduceMul, Nat.reduceSub, Nat.reduceLT, Nat.reduceLeDiff, Nat.reduceBEq, Nat.reduceLeDiff, reduceCtorEq, Int.reduceLT, Int.reduceEq, Int.reduceLE, Int.reduceAdd, Int.reduceSub, Int.reduceToNat, Int.reduceNeg, Int.toNat_natCast, beq_self_eq_true, wrap64, undef, Nat.zero_add, Nat.add_zero, Int.zero_add, Int.add_zero, Int.sub_zero, St.loadN_other, St.cell_other, h7]
      rw [show xs.take i = xs from List.take_of_length_le (by omega)] at ho
      exact ⟨_, rfl, ho, he⟩
  · rintro fr S' ⟨v, h7, ho, he⟩
    simp (disch := omega) only [go_sem, ↓reduceIte, Nat.reduceEqDiff, Nat.reduceAdd, Nat.reduceMul, Nat.reduceSub, Nat.reduceLT, Nat.reduceLeDiff, Nat.reduceBEq, Nat.reduceLeDiff, reduceCtorEq, Int.reduceLT, Int.reduceEq, Int.reduceLE, Int.reduceAdd, Int.reduceSub, Int.reduceToNat, Int.reduceNeg, Int.toNat_natCast, beq_self_eq_true, wrap64, undef, Nat.zero_add, Nat.add_zero, Int.zero_add, Int.add_zero, Int.sub_zero, St.loadN_other, St.cell_other, h7]
    exact ⟨ho, he⟩
theorem F.osierref04_Missing_J {S : St} {l k : Value} {most : Int} {xs ys : List Dot} (hl : SlT dotE S l xs) (hk : SlT dotE S k ys) (hx : isV xs) (hy : isV ys) (hL : xs.length < 20000) (hL2 : ys.length < 20000) (hm : most ≤ 100000) :
    J PR F.osierref04_Missing [l, k, .int .i64 most] S fun v S' => OwnT dotE S.n S' v ((missV xs ys).take most.toNat) ∧ S.Ext S' := by
  obtain ⟨base, cap, rfl⟩ := hl.len dotE
  refine J_by PR.mixed F.osierref04_Missing.ok (by simp) ?_
  simp (disch := omega) only [go_sem, ↓reduceIte, Nat.reduceEqDiff, Nat.reduceAdd, Nat.reduceMul, Nat.reduceSub, Nat.reduceLT, Nat.reduceLeDiff, Nat.reduceBEq, Nat.reduceLeDiff, reduceCtorEq, Int.reduceLT, Int.reduceEq, Int.reduceLE, Int.reduceAdd, Int.reduceSub, Int.reduceToNat, Int.reduceNeg, Int.toNat_natCast, beq_self_eq_true, wrap64, undef, Nat.zero_add, Nat.add_zero, Int.zero_add, Int.add_zero, Int.sub_zero, St.loadN_other, St.cell_other]
  refine wC_loop (fun n fr S' => ∃ (i : Nat) (v : Value), n = xs.length - i ∧ i ≤ xs.length ∧ fr 0 = .slice base xs.length cap ∧ fr 1 = k ∧ fr 2 = .int .i64 most ∧ fr 7 = v ∧ fr 8 = .int .i64 (i : Nat) ∧ S.Ext S' ∧
      OwnT dotE S.n S' v ((missV (xs.take i) ys).take most.toNat)) xs.length ⟨0, .slice none 0 0, by simp (disch := omega) only [go_sem, ↓reduceIte, Nat.reduceEqDiff, Nat.reduceAdd, Nat.reduceMul, Nat.reduceSub, Nat.reduceLT, Nat.reduceLeDiff, Nat.reduceBEq, Nat.reduceLeDiff, reduceCtorEq, Int.reduceLT, Int.reduceEq, Int.reduceLE, Int.reduceAdd, Int.reduceSub, Int.reduceToNat, Int.reduceNeg, Int.toNat_natCast, beq_self_eq_true, wrap64, undef, Nat.zero_add, Nat.add_zero, Int.zero_add, Int.add_zero, Int.sub_zero, St.loadN_other, St.cell_other]; exact ⟨by simp, by simp, St.Ext.refl _, by simpa [missV] using OwnT.nil dotE S.n S⟩⟩ ?_
  rintro n fr S1 ⟨i, v, rfl, hi, h0, h1, h2, h7, h8, he, ho⟩
  simp (disch := omega) only [go_sem, ↓reduceIte, Nat.reduceEqDiff, Nat.reduceAdd, Nat.reduceMul, Nat.reduceSub, Nat.reduceLT, Nat.reduceLeDiff, Nat.reduceBEq, Nat.reduceLeDiff, reduceCtorEq, Int.reduceLT, Int.reduceEq, Int.reduceLE, Int.reduceAdd, Int.reduceSub, Int.reduceToNat, Int.reduceNeg, Int.toNat_natCast, beq_self_eq_true, wrap64, undef, Nat.zero_add, Nat.add_zero, Int.zero_add, Int.add_zero, Int.sub_zero, St.loadN_other, St.cell_other, F.osierref04_Missing.l1, h0, h1, h2, h7, h8]
  refine wcond_dec (fun hlt => ?_) (fun hge => ?_)
  · have hlx : i < xs.length := by omega
    obtain ⟨b, off, rfl, hb, -, hx0, hx1⟩ := hl.dotc hlx
    have c1 : (0 : Int) ≤ (i : Int) ∧ (i : Int) < (xs.length : Int) := by omega
    have hx0' := (he.cell hb (off + i * 2)).trans hx0
    simp (disch := omega) only [go_sem, ↓reduceIte, Nat.reduceEqDiff, Nat.reduceAdd, Nat.reduceMul, Nat.reduceSub, Nat.reduceLT, Nat.reduceLeDiff, Nat.reduceBEq, Nat.reduceLeDiff, reduceCtorEq, Int.reduceLT, Int.reduceEq, Int.reduceLE, Int.reduceAdd, Int.reduceSub, Int.reduceToNat, Int.reduceNeg, Int.toNat_natCast, beq_self_eq_true, wrap64, undef, Nat.zero_add, Nat.add_zero, Int.zero_add, Int.add_zero, Int.sub_zero, St.loadN_other, St.cell_other, h0, h1, h2, h7, h8, c1, hx0']
    refine wJ_of (F.osierref04_Get_J (hk.ext dotE he) (by omega)) ?_; rintro _ _ ⟨rfl, rfl⟩
    have hg := getV_range hy xs[i].1
    have hd : mayP xs[i] := hx.2 _ (List.getElem_mem _)
    unfold mayP at hd
    simp (disch := omega) only [go_sem, ↓reduceIte, Nat.reduceEqDiff, Nat.reduceAdd, Nat.reduceMul, Nat.reduceSub, Nat.reduceLT, Nat.reduceLeDiff, Nat.reduceBEq, Nat.reduceLeDiff, reduceCtorEq, Int.reduceLT, Int.reduceEq, Int.reduceLE, Int.reduceAdd, Int.reduceSub, Int.reduceToNat, Int.reduceNeg, Int.toNat_natCast, beq_self_eq_true, wrap64, undef, Nat.zero_add, Nat.add_zero, Int.zero_add, Int.add_zero, Int.sub_zero, St.loadN_other, St.cell_other, h0, h1, h2, h7, h8]
    refine wC_loop (fun n fr S' => ∃ (j : Nat) (v : Value), n = (xs[i].2 - getV ys xs[i].1).toNat - j ∧ j ≤ (xs[i].2 - getV ys xs[i].1).toNat ∧ fr 0 = .slice (some ⟨b, off, none⟩) xs.length cap ∧ fr 1 = k ∧ fr 2 = .int .i64 most ∧ fr 7 = v ∧ fr 8 = .int .i64 (i : Nat) ∧ fr 9 = .int .i64 (getV ys xs[i].1 + 1 + (j : Nat)) ∧ S.Ext S' ∧
      OwnT dotE S.n S' v ((missV (xs.take i) ys ++ runV (getV ys xs[i].1) xs[i].1 j).take most.toNat)) (xs[i].2 - getV ys xs[i].1).toNat
      ⟨0, v, by simp (disch := omega) only [go_sem, ↓reduceIte, Nat.reduceEqDiff, Nat.reduceAdd, Nat.reduceMul, Nat.reduceSub, Nat.reduceLT, Nat.reduceLeDiff, Nat.reduceBEq, Nat.reduceLeDiff, reduceCtorEq, Int.reduceLT, Int.reduceEq, Int.reduceLE, Int.reduceAdd, Int.reduceSub, Int.reduceToNat, Int.reduceNeg, Int.toNat_natCast, beq_self_eq_true, wrap64, undef, Nat.zero_add, Nat.add_zero, Int.zero_add, Int.add_zero, Int.sub_zero, St.loadN_other, St.cell_other, h0, h1, h2, h7, h8]; exact ⟨by simp, by simp, he, by simpa [runV] using ho⟩⟩ ?_
    rintro n fr S3 ⟨j, v3, rfl, hj, h0, h1, h2, h7, h8, h9, he3, ho3⟩
    have lx0 := (he3.cell hb (off + i * 2)).trans hx0
    have lx1 := (he3.cell hb (off + i * 2 + 1)).trans hx1
    obtain ⟨bo, co, hv3⟩ := (ho3.sl dotE).len dotE
    simp (disch := omega) only [go_sem, ↓reduceIte, Nat.reduceEqDiff, Nat.reduceAdd, Nat.reduceMul, Nat.reduceSub, Nat.reduceLT, Nat.reduceLeDiff, Nat.reduceBEq, Nat.reduceLeDiff, reduceCtorEq, Int.reduceLT, Int.reduceEq, Int.reduceLE, Int.reduceAdd, Int.reduceSub, Int.reduceToNat, Int.reduceNeg, Int.toNat_natCast, beq_self_eq_true, wrap64, undef, Nat.zero_add, Nat.add_zero, Int.zero_add, Int.add_zero, Int.sub_zero, St.loadN_other, St.cell_other, F.osierref04_Missing.l0, h0, h1, h2, h7, h8, h9, c1, lx0, lx1]
    refine wguard_dec (fun hlt2 => ?_) (fun hge2 => ?_)
    · simp (disch := omega) only [go_sem, ↓reduceIte, Nat.reduceEqDiff, Nat.reduceAdd, Nat.reduceMul, Nat.reduceSub, Nat.reduceLT, Nat.reduceLeDiff, Nat.reduceBEq, Nat.reduceLeDiff, reduceCtorEq, Int.reduceLT, Int.reduceEq, Int.reduceLE, Int.reduceAdd, Int.reduceSub, Int.reduceToNat, Int.reduceNeg, Int.toNat_natCast, beq_self_eq_true, wrap64, undef, Nat.zero_add, Nat.add_zero, Int.zero_add, Int.add_zero, Int.sub_zero, St.loadN_other, St.cell_other, h0, h1, h2, h7, h8, h9, c1, lx0, lx1, hv3, hlt2]
      refine wcond_dec (fun hq => ?_) (fun hq => ?_)
      · simp (disch := omega) only [go_sem, ↓reduceIte, Nat.reduceEqDiff, Nat.reduceAdd, Nat.reduceMul, Nat.reduceSub, Nat.reduceLT, Nat.reduceLeDiff, Nat.reduceBEq, Nat.reduceLeDiff, reduceCtorEq, Int.reduceLT, Int.reduceEq, Int.reduceLE, Int.reduceAdd, Int.reduceSub, Int.reduceToNat, Int.reduceNeg, Int.toNat_natCast, beq_self_eq_true, wrap64, undef, Nat.zero_add, Nat.add_zero, Int.zero_add, Int.add_zero, Int.sub_zero, St.loadN_other, St.cell_other, h0, h1, h2, h7, h8, h9, c1, lx0, lx1]
        refine wfresh_of fun u hu => ?_
        simp (disch := omega) only [go_sem, ↓reduceIte, Nat.reduceEqDiff, Nat.reduceAdd, Nat.reduceMul, Nat.reduceSub, Nat.reduceLT, Nat.reduceLeDiff, Nat.reduceBEq, Nat.reduceLeDiff, reduceCtorEq, Int.reduceLT, Int.reduceEq, Int.reduceLE, Int.reduceAdd, Int.reduceSub, Int.reduceToNat, Int.reduceNeg, Int.toNat_natCast, beq_self_eq_true, wrap64, undef, Nat.zero_add, Nat.add_zero, Int.zero_add, Int.add_zero, Int.sub_zero, St.loadN_other, St.cell_other, h0, h1, h2, h7, h8, h9]
        have he4 := (St.Ext.refl S3).put hu (.cells true 2 [.int .i64 xs[i].1, .int .i64 (getV ys xs[i].1 + 1 + (j : Nat))])
        refine wE_app dotE (ys := [(xs[i].1, getV ys xs[i].1 + 1 + (j : Nat))]) (ho3.ext dotE he4) (SlT.lit dotE (xs := [(xs[i].1, getV ys xs[i].1 + 1 + (j : Nat))])) rfl rfl (he3.trans he4).n ?_ ?_ fun v8 S8 ho8 hb8 hv8 => ?_
        · simp only [List.length_take, List.length_singleton]; omega
        · simp only [List.length_take, List.length_singleton]; omega
        simp (disch := omega) only [go_sem, ↓reduceIte, Nat.reduceEqDiff, Nat.reduceAdd, Nat.reduceMul, Nat.reduceSub, Nat.reduceLT, Nat.reduceLeDiff, Nat.reduceBEq, Nat.reduceLeDiff, reduceCtorEq, Int.reduceLT, Int.reduceEq, Int.reduceLE, Int.reduceAdd, Int.reduceSub, Int.reduceToNat, Int.reduceNeg, Int.toNat_natCast, beq_self_eq_true, wrap64, undef, Nat.zero_add, Nat.add_zero, Int.zero_add, Int.add_zero, Int.sub_zero, St.loadN_other, St.cell_other, h0, h1, h2, h7, h8, h9]
        refine ⟨(xs[i].2 - getV ys xs[i].1).toNat - (j + 1), by omega, j + 1, _, rfl, by omega, rfl, (by first | omega | (simp; done) | (simp; omega)), (he3.trans he4).but hb8 (ho3.fresh dotE), ?_⟩
        rw [runV_succ, ← List.append_assoc]
        simp only [List.length_take, List.length_append, runV_len] at hq
        rw [List.take_of_length_le (by simp only [List.length_append, runV_len]; omega)] at ho8
        rw [List.take_of_length_le (by simp only [List.length_append, runV_len, List.length_singleton]; omega)]
        exact ho8
      · simp (disch := omega) only [go_sem, ↓reduceIte, Nat.reduceEqDiff, Nat.reduceAdd, Nat.reduceMul, Nat.reduceSub, Nat.reduceLT, Nat.reduceLeDiff, Nat.reduceBEq, Nat.reduceLeDiff, reduceCtorEq, Int.reduceLT, Int.reduceEq, Int.reduceLE, Int.reduceAdd, Int.reduceSub, Int.reduceToNat, Int.reduceNeg, Int.toNat_natCast, beq_self_eq_true, wrap64, undef, Nat.zero_add, Nat.add_zero, Int.zero_add, Int.add_zero, Int.sub_zero, St.loadN_other, St.cell_other, h0, h1, h2, h7, h8, h9]
        refine ⟨xs.length - (i + 1), by omega, i + 1, _, rfl, by omega, rfl, rfl, he3, ?_⟩
        rw [take_snoc (List.getElem?_eq_getElem hlx), missV_snoc]
        obtain ⟨r, hr⟩ := runV_split (getV ys xs[i].1) xs[i].1 hj
        rw [hr, ← List.append_assoc, take_full]
        · exact ho3
        · simp only [List.length_take, List.length_append, runV_len] at hq ⊢
          omega
    · simp (disch := omega) only [go_sem, ↓reduceIte, Nat.reduceEqDiff, Nat.reduceAdd, Nat.reduceMul, Nat.reduceSub, Nat.reduceLT, Nat.reduceLeDiff, Nat.reduceBEq, Nat.reduceLeDiff, reduceCtorEq, Int.reduceLT, Int.reduceEq, Int.reduceLE, Int.reduceAdd, Int.reduceSub, Int.reduceToNat, Int.reduceNeg, Int.toNat_natCast, beq_self_eq_true, wrap64, undef, Nat.zero_add, Nat.add_zero, Int.zero_add, Int.add_zero, Int.sub_zero, St.loadN_other, St.cell_other, h0, h1, h2, h7, h8, h9, hge2]
      refine ⟨xs.length - (i + 1), by omega, i + 1, _, rfl, by omega, rfl, rfl, he3, ?_⟩
      rw [take_snoc (List.getElem?_eq_getElem hlx), missV_snoc]
      have hje : j = (xs[i].2 - getV ys xs[i].1).toNat := by omega
      rw [← hje]
      exact ho3
  · simp (disch := omega) only [go_sem, ↓reduceIte, Nat.reduceEqDiff, Nat.reduceAdd, Nat.reduceMul, Nat.reduceSub, Nat.reduceLT, Nat.reduceLeDiff, Nat.reduceBEq, Nat.reduceLeDiff, reduceCtorEq, Int.reduceLT, Int.reduceEq, Int.reduceLE, Int.reduceAdd, Int.reduceSub, Int.reduceToNat, Int.reduceNeg, Int.toNat_natCast, beq_self_eq_true, wrap64, undef, Nat.zero_add, Nat.add_zero, Int.zero_add, Int.add_zero, Int.sub_zero, St.loadN_other, St.cell_other, h7]
    rw [show xs.take i = xs from List.take_of_length_le (by omega)] at ho
    exact ⟨ho, he⟩
end Go.Osj
