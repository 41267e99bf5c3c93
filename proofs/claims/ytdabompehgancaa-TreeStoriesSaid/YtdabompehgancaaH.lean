/- Contracts of layer 3, more: the reference's Put1, Rising, Choose. -/
import Derived.Test.YtdabompehgancaaF
set_option linter.unusedVariables false
set_option linter.unusedSimpArgs false
namespace Go.Osj
theorem F.osierref03_Less_P {S : St} {a b : Dot} : J PR F.osierref03_Less [dotV a, dotV b] S fun v S' => v = .bool (decide (lessP a b)) ∧ S = S' := F.osierref03_Less.J.back
theorem F.osierref03_In_P {S : St} {l : Value} {xs : List Dot} {d : Dot} (hl : SlT dotE S l xs) (hL : xs.length < 4611686018427387904) : J PR F.osierref03_In [l, dotV d] S fun v S' => v = .bool (decide (d ∈ xs)) ∧ S = S' := (F.osierref03_In.J hl hL).back
theorem put1_split (d : Dot) : ∀ (xs : List Dot) (i : Nat), (∀ y ∈ xs.take i, lessP y d) → put1 d xs = xs.take i ++ put1 d (xs.drop i)
  | xs, 0, _ => by simp
  | [], i + 1, _ => by simp
  | x :: r, i + 1, h => by
    have hx : lessP x d := h x (by simp)
    rw [List.take_succ_cons, List.drop_succ_cons, put1, if_pos hx, put1_split d r i fun y hy => h y (by simp [hy])]
    rfl
theorem put1_len (d : Dot) : ∀ xs : List Dot, (put1 d xs).length ≤ xs.length + 1
  | [] => by simp [put1]
  | x :: r => by
    have := put1_len d r
    unfold put1
    split
    · simp; omega
    · split <;> simp

theorem F.osierref03_Put1.J {S : St} {B : Nat} {l : Value} {xs : List Dot} {d : Dot} (hl : OwnT dotE B S l xs) (hB : B ≤ S.n) (hL : xs.length < 100000) : J PR F.osierref03_Put1 [l, dotV d] S fun v S' => OwnT dotE B S' v (put1 d xs) ∧ S.Ext S' := by
  have hs := hl.sl dotE
  obtain ⟨base, cap, rfl⟩ := hs.len dotE
  refine J_by PR.mixed F.osierref03_Put1.ok (by simp) ?_
  simp (disch := omega) only [go_sem, ↓reduceIte, Nat.reduceEqDiff, Nat.reduceAdd, Nat.reduceMul, Nat.reduceSub, Nat.reduceLT, Nat.reduceLeDiff, Nat.reduceBEq, reduceCtorEq, Int.reduceLT, Int.reduceEq, Int.reduceLE, Int.reduceAdd, Int.reduceSub, Int.reduceToNat, Int.reduceNeg]
  refine wfresh_of fun x hx => ?_
  simp (disch := omega) only [go_sem, ↓reduceIte, Nat.reduceEqDiff, Nat.reduceAdd, Nat.reduceMul, Nat.reduceSub, Nat.reduceLT, Nat.reduceLeDiff, Nat.reduceBEq, reduceCtorEq, Int.reduceLT, Int.reduceEq, Int.reduceLE, Int.reduceAdd, Int.reduceSub, Int.reduceToNat, Int.reduceNeg]
  have he := (St.Ext.refl S).put hx (.cells true 2 [.int .i64 d.1, .int .i64 d.2])
  have hn1 := he.n
  refine wC_at 0 (fun fr S' => ∃ i, i ≤ xs.length ∧ S' = S.put x (.cells true 2 [.int .i64 d.1, .int .i64 d.2]) ∧ fr 0 = .slice base xs.length cap ∧ fr 3 = .pointer (some ⟨x, 0, none⟩) ∧ fr 5 = .int .i64 (i : Nat) ∧ (∀ y ∈ xs.take i, lessP y d) ∧ ∀ h : i < xs.length, ¬ lessP xs[i] d) ?_ ?_
  · refine wC_loop (fun n fr S' => ∃ i, n = xs.length - i ∧ i ≤ xs.length ∧ S' = S.put x (.cells true 2 [.int .i64 d.1, .int .i64 d.2]) ∧ fr 0 = .slice base xs.length cap ∧ fr 3 = .pointer (some ⟨x, 0, none⟩) ∧ fr 5 = .int .i64 (i : Nat) ∧ ∀ y ∈ xs.take i, lessP y d) xs.length ⟨0, by simp (disch := omega) only [go_sem, ↓reduceIte, Nat.reduceEqDiff, Nat.reduceAdd, Nat.reduceMul, Nat.reduceSub, Nat.reduceLT, Nat.reduceLeDiff, Nat.reduceBEq, reduceCtorEq, Int.reduceLT, Int.reduceEq, Int.reduceLE, Int.reduceAdd, Int.reduceSub, Int.reduceToNat, Int.reduceNeg]; simp⟩ ?_
    rintro n fr S' ⟨i, rfl, hi, rfl, h0, h3, h5, hn⟩
    simp (disch := omega) only [go_sem, ↓reduceIte, Nat.reduceEqDiff, Nat.reduceAdd, Nat.reduceMul, Nat.reduceSub, Nat.reduceLT, Nat.reduceLeDiff, Nat.reduceBEq, reduceCtorEq, Int.reduceLT, Int.reduceEq, Int.reduceLE, Int.reduceAdd, Int.reduceSub, Int.reduceToNat, Int.reduceNeg, F.osierref03_Put1.l0, h0, h3, h5]
    refine wguard_dec (fun hlt => ?_) (fun hge => ?_)
    · have hlt' : i < xs.length := by omega
      obtain ⟨b, off, rfl, hb, hld⟩ := hs.dot hlt'
      have hc : (0 : Int) ≤ (i : Int) ∧ (i : Int) < (xs.length : Int) := by omega
      simp (disch := omega) only [go_sem, ↓reduceIte, Nat.reduceEqDiff, Nat.reduceAdd, Nat.reduceMul, Nat.reduceSub, Nat.reduceLT, Nat.reduceLeDiff, Nat.reduceBEq, reduceCtorEq, Int.reduceLT, Int.reduceEq, Int.reduceLE, Int.reduceAdd, Int.reduceSub, Int.reduceToNat, Int.reduceNeg, hlt, h0, h3, h5, hc, hld]
      refine wJ_of F.osierref03_Less_P ?_; rintro _ _ ⟨rfl, rfl⟩
      simp (disch := omega) only [go_sem, ↓reduceIte, Nat.reduceEqDiff, Nat.reduceAdd, Nat.reduceMul, Nat.reduceSub, Nat.reduceLT, Nat.reduceLeDiff, Nat.reduceBEq, reduceCtorEq, Int.reduceLT, Int.reduceEq, Int.reduceLE, Int.reduceAdd, Int.reduceSub, Int.reduceToNat, Int.reduceNeg, hlt]
      refine wcond_dec (fun hq => ?_) (fun hq => ?_)
      · simp (disch := omega) only [go_sem, ↓reduceIte, Nat.reduceEqDiff, Nat.reduceAdd, Nat.reduceMul, Nat.reduceSub, Nat.reduceLT, Nat.reduceLeDiff, Nat.reduceBEq, reduceCtorEq, Int.reduceLT, Int.reduceEq, Int.reduceLE, Int.reduceAdd, Int.reduceSub, Int.reduceToNat, Int.reduceNeg, h0, h3, h5]
        refine ⟨xs.length - (i + 1), by omega, i + 1, rfl, by omega, rfl, fun y hy => ?_⟩
        rw [take_snoc (List.getElem?_eq_getElem hlt')] at hy
        rcases List.mem_append.1 hy with hy | hy
        · exact hn y hy
        · simp at hy; subst hy; exact hq
      · simp (disch := omega) only [go_sem, ↓reduceIte, Nat.reduceEqDiff, Nat.reduceAdd, Nat.reduceMul, Nat.reduceSub, Nat.reduceLT, Nat.reduceLeDiff, Nat.reduceBEq, reduceCtorEq, Int.reduceLT, Int.reduceEq, Int.reduceLE, Int.reduceAdd, Int.reduceSub, Int.reduceToNat, Int.reduceNeg, h0, h3, h5]
        exact ⟨i, by omega, rfl, hn, fun _ => hq⟩
    · simp (disch := omega) only [go_sem, ↓reduceIte, Nat.reduceEqDiff, Nat.reduceAdd, Nat.reduceMul, Nat.reduceSub, Nat.reduceLT, Nat.reduceLeDiff, Nat.reduceBEq, reduceCtorEq, Int.reduceLT, Int.reduceEq, Int.reduceLE, Int.reduceAdd, Int.reduceSub, Int.reduceToNat, Int.reduceNeg, hge, h0, h3, h5]
      exact ⟨i, by omega, rfl, hn, fun h => by omega⟩
  rintro fr S' ⟨i, hi, rfl, h0, h3, h5, hn, hstop⟩
  have hsplit := put1_split d xs i hn
  change wC (q := _) PR (.seq _ _) _ _
  refine wC_cut (fun fr S' => S' = S.put x (.cells true 2 [.int .i64 d.1, .int .i64 d.2]) ∧ fr 0 = .slice base xs.length cap ∧ fr 3 = .pointer (some ⟨x, 0, none⟩) ∧ fr 5 = .int .i64 (i : Nat) ∧ put1 d xs = xs.take i ++ d :: xs.drop i) ?_ ?_
  · simp (disch := omega) only [go_sem, ↓reduceIte, Nat.reduceEqDiff, Nat.reduceAdd, Nat.reduceMul, Nat.reduceSub, Nat.reduceLT, Nat.reduceLeDiff, Nat.reduceBEq, reduceCtorEq, Int.reduceLT, Int.reduceEq, Int.reduceLE, Int.reduceAdd, Int.reduceSub, Int.reduceToNat, Int.reduceNeg, h0, h3, h5]
    refine wguard_dec (fun hlt => ?_) (fun hge => ?_)
    · have hlt' : i < xs.length := by omega
      obtain ⟨b, off, rfl, hb, hld⟩ := hs.dot hlt'
      have hc : (0 : Int) ≤ (i : Int) ∧ (i : Int) < (xs.length : Int) := by omega
      have hdrop : xs.drop i = xs[i] :: xs.drop (i + 1) := List.drop_eq_getElem_cons hlt'
      simp (disch := omega) only [go_sem, ↓reduceIte, Nat.reduceEqDiff, Nat.reduceAdd, Nat.reduceMul, Nat.reduceSub, Nat.reduceLT, Nat.reduceLeDiff, Nat.reduceBEq, reduceCtorEq, Int.reduceLT, Int.reduceEq, Int.reduceLE, Int.reduceAdd, Int.reduceSub, Int.reduceToNat, Int.reduceNeg, hlt, h0, h3, h5, hc, hld, eqV_dot]
      refine wcond_dec (fun hd => ?_) (fun hd => ?_)
      · simp (disch := omega) only [go_sem, ↓reduceIte, Nat.reduceEqDiff, Nat.reduceAdd, Nat.reduceMul, Nat.reduceSub, Nat.reduceLT, Nat.reduceLeDiff, Nat.reduceBEq, reduceCtorEq, Int.reduceLT, Int.reduceEq, Int.reduceLE, Int.reduceAdd, Int.reduceSub, Int.reduceToNat, Int.reduceNeg, h0]
        have : put1 d xs = xs := by rw [hsplit, hdrop, put1, if_neg (hstop hlt'), if_pos hd, ← hdrop, List.take_append_drop]
        rw [this]
        exact ⟨hl.ext dotE he, he⟩
      · simp (disch := omega) only [go_sem, ↓reduceIte, Nat.reduceEqDiff, Nat.reduceAdd, Nat.reduceMul, Nat.reduceSub, Nat.reduceLT, Nat.reduceLeDiff, Nat.reduceBEq, reduceCtorEq, Int.reduceLT, Int.reduceEq, Int.reduceLE, Int.reduceAdd, Int.reduceSub, Int.reduceToNat, Int.reduceNeg, h0, h3, h5]
        rw [hsplit, hdrop, put1, if_neg (hstop hlt'), if_neg hd]
    · simp (disch := omega) only [go_sem, ↓reduceIte, Nat.reduceEqDiff, Nat.reduceAdd, Nat.reduceMul, Nat.reduceSub, Nat.reduceLT, Nat.reduceLeDiff, Nat.reduceBEq, reduceCtorEq, Int.reduceLT, Int.reduceEq, Int.reduceLE, Int.reduceAdd, Int.reduceSub, Int.reduceToNat, Int.reduceNeg, hge, h0, h3, h5]
      rw [hsplit, List.drop_eq_nil_of_le (by omega)]
      rfl
  rintro fr S' ⟨rfl, h0, h3, h5, hput⟩
  obtain ⟨u, hu, hus⟩ := hs.to dotE (k := i) (q := .i64) (i := i) rfl hi
  replace hu : slV 2 _ _ _ _ = _ := hu
  obtain ⟨u2, hu2, hus2⟩ := hs.from dotE (l := i) (q := .i64) (i := i) rfl hi
  replace hu2 : slV 2 _ _ _ _ = _ := hu2
  have hlt : (xs.take i).length ≤ xs.length := by simp; omega
  have hld : (xs.drop i).length ≤ xs.length := by simp
  simp (disch := omega) only [go_sem, ↓reduceIte, Nat.reduceEqDiff, Nat.reduceAdd, Nat.reduceMul, Nat.reduceSub, Nat.reduceLT, Nat.reduceLeDiff, Nat.reduceBEq, reduceCtorEq, Int.reduceLT, Int.reduceEq, Int.reduceLE, Int.reduceAdd, Int.reduceSub, Int.reduceToNat, Int.reduceNeg, h0, h5, hu]
  refine wE_app dotE (OwnT.nil dotE B _) (hus.ext dotE he) rfl rfl (by omega) (by simp; omega) (by simp; omega) fun v1 S1 ho1 hb1 hv1 => ?_
  have he1 : S.Ext S1 := he.but hb1 (by simp [blkOf])
  have hn2 := hb1.n
  have hxs := St.lt_put_self S x (.cells true 2 [.int .i64 d.1, .int .i64 d.2])
  have lx : S1.loadN ⟨x, 0, none⟩ 2 = some [.int .i64 d.1, .int .i64 d.2] := by
    rw [St.loadN_def, hb1.obj x hxs (by simp [blkOf]), ← St.loadN_def]
    simp (disch := omega) only [go_sem, ↓reduceIte, Nat.reduceEqDiff, Nat.reduceAdd, Nat.reduceMul, Nat.reduceSub, Nat.reduceLT, Nat.reduceLeDiff, Nat.reduceBEq, reduceCtorEq, Int.reduceLT, Int.reduceEq, Int.reduceLE, Int.reduceAdd, Int.reduceSub, Int.reduceToNat, Int.reduceNeg]
  simp (disch := omega) only [go_sem, ↓reduceIte, Nat.reduceEqDiff, Nat.reduceAdd, Nat.reduceMul, Nat.reduceSub, Nat.reduceLT, Nat.reduceLeDiff, Nat.reduceBEq, reduceCtorEq, Int.reduceLT, Int.reduceEq, Int.reduceLE, Int.reduceAdd, Int.reduceSub, Int.reduceToNat, Int.reduceNeg, h0, h3, h5, lx]
  refine wfresh_of fun y hy => ?_
  simp (disch := omega) only [go_sem, ↓reduceIte, Nat.reduceEqDiff, Nat.reduceAdd, Nat.reduceMul, Nat.reduceSub, Nat.reduceLT, Nat.reduceLeDiff, Nat.reduceBEq, reduceCtorEq, Int.reduceLT, Int.reduceEq, Int.reduceLE, Int.reduceAdd, Int.reduceSub, Int.reduceToNat, Int.reduceNeg]
  refine wE_app dotE (ys := [d]) (ho1.ext dotE ((St.Ext.refl S1).put hy _)) (SlT.lit dotE (xs := [d])) rfl rfl (by rw [St.put_n]; omega) (by simp; omega) (by simp; omega) fun v2 S2 ho2 hb2 hv2 => ?_
  have hf1 : ∀ j, blkOf v1 = some j → S.n ≤ j := fun j hj => by
    rcases hv1 with h | ⟨q, h, hq⟩
    · rw [h] at hj; simp [blkOf] at hj
    · rw [h] at hj; injection hj with hj; omega
  have he2 : S.Ext S2 := (he1.put hy _).but hb2 hf1
  have hf2 : ∀ j, blkOf v2 = some j → S.n ≤ j := fun j hj => by
    rcases hv2 with h | ⟨q, h, hq⟩
    · exact hf1 j (by rw [← h]; exact hj)
    · rw [h] at hj; injection hj with hj; rw [St.put_n] at hq; omega
  simp (disch := omega) only [go_sem, ↓reduceIte, Nat.reduceEqDiff, Nat.reduceAdd, Nat.reduceMul, Nat.reduceSub, Nat.reduceLT, Nat.reduceLeDiff, Nat.reduceBEq, reduceCtorEq, Int.reduceLT, Int.reduceEq, Int.reduceLE, Int.reduceAdd, Int.reduceSub, Int.reduceToNat, Int.reduceNeg, h0, h5, hu2]
  refine wE_app dotE ho2 (hus2.ext dotE he2) rfl rfl (by have := he2.n; omega) (by simp; omega) (by simp; omega) fun v3 S3 ho3 hb3 hv3 => ?_
  simp (disch := omega) only [go_sem, ↓reduceIte, Nat.reduceEqDiff, Nat.reduceAdd, Nat.reduceMul, Nat.reduceSub, Nat.reduceLT, Nat.reduceLeDiff, Nat.reduceBEq, reduceCtorEq, Int.reduceLT, Int.reduceEq, Int.reduceLE, Int.reduceAdd, Int.reduceSub, Int.reduceToNat, Int.reduceNeg]
  refine ⟨?_, he2.but hb3 hf2⟩
  rw [hput]
  simpa using ho3

theorem risen_take_succ {xs : List Dot} {i : Nat} (h : i < xs.length) : risen (xs.take (i + 1)) = put1 xs[i] (risen (xs.take i)) := by
  rw [take_snoc (List.getElem?_eq_getElem h), risen, List.foldl_append]
  rfl
theorem F.osierref03_Rising.J {S : St} {l : Value} {xs : List Dot} (hl : SlT dotE S l xs) (hL : xs.length < 100000) : J PR F.osierref03_Rising [l] S fun v S' => OwnT dotE S.n S' v (risen xs) ∧ S.Ext S' := by
  obtain ⟨base, cap, rfl⟩ := hl.len dotE
  refine J_by PR.mixed F.osierref03_Rising.ok (by simp) ?_
  simp (disch := omega) only [go_sem, ↓reduceIte, Nat.reduceEqDiff, Nat.reduceAdd, Nat.reduceMul, Nat.reduceSub, Nat.reduceLT, Nat.reduceLeDiff, Nat.reduceBEq, reduceCtorEq, Int.reduceLT, Int.reduceEq, Int.reduceLE, Int.reduceAdd, Int.reduceSub, Int.reduceToNat, Int.reduceNeg]
  refine wC_loop (fun n fr S' => ∃ i v, n = xs.length - i ∧ i ≤ xs.length ∧ fr 0 = .slice base xs.length cap ∧ fr 3 = v ∧ fr 4 = .int .i64 (i : Nat) ∧ OwnT dotE S.n S' v (risen (xs.take i)) ∧ S.Ext S') xs.length ⟨0, .slice none 0 0, by simp (disch := omega) only [go_sem, ↓reduceIte, Nat.reduceEqDiff, Nat.reduceAdd, Nat.reduceMul, Nat.reduceSub, Nat.reduceLT, Nat.reduceLeDiff, Nat.reduceBEq, reduceCtorEq, Int.reduceLT, Int.reduceEq, Int.reduceLE, Int.reduceAdd, Int.reduceSub, Int.reduceToNat, Int.reduceNeg]; exact ⟨by simp, by simp, OwnT.nil .., St.Ext.refl _⟩⟩ ?_
  rintro n fr S1 ⟨i, v, rfl, hi, h0, h3, h4, ho, he⟩
  simp (disch := omega) only [go_sem, ↓reduceIte, Nat.reduceEqDiff, Nat.reduceAdd, Nat.reduceMul, Nat.reduceSub, Nat.reduceLT, Nat.reduceLeDiff, Nat.reduceBEq, reduceCtorEq, Int.reduceLT, Int.reduceEq, Int.reduceLE, Int.reduceAdd, Int.reduceSub, Int.reduceToNat, Int.reduceNeg, F.osierref03_Rising.l0, h0, h3, h4]
  refine wcond_dec (fun hlt => ?_) (fun hge => ?_)
  · have hlt' : i < xs.length := by omega
    obtain ⟨b, off, rfl, hb, hld⟩ := (hl.ext dotE he).dot hlt'
    have hc : (0 : Int) ≤ (i : Int) ∧ (i : Int) < (xs.length : Int) := by omega
    simp (disch := omega) only [go_sem, ↓reduceIte, Nat.reduceEqDiff, Nat.reduceAdd, Nat.reduceMul, Nat.reduceSub, Nat.reduceLT, Nat.reduceLeDiff, Nat.reduceBEq, reduceCtorEq, Int.reduceLT, Int.reduceEq, Int.reduceLE, Int.reduceAdd, Int.reduceSub, Int.reduceToNat, Int.reduceNeg, h0, h3, h4, hc, hld]
    have hlen := risen_len (xs.take i)
    refine wJ_of (F.osierref03_Put1.J ho he.n (by simp at hlen; omega)) ?_
    rintro v2 S2 ⟨ho2, he2⟩
    simp (disch := omega) only [go_sem, ↓reduceIte, Nat.reduceEqDiff, Nat.reduceAdd, Nat.reduceMul, Nat.reduceSub, Nat.reduceLT, Nat.reduceLeDiff, Nat.reduceBEq, reduceCtorEq, Int.reduceLT, Int.reduceEq, Int.reduceLE, Int.reduceAdd, Int.reduceSub, Int.reduceToNat, Int.reduceNeg, h0, h4]
    refine ⟨xs.length - (i + 1), by omega, i + 1, _, rfl, by omega, rfl, rfl, by rw [risen_take_succ hlt']; exact ho2, he.trans he2⟩
  · simp (disch := omega) only [go_sem, ↓reduceIte, Nat.reduceEqDiff, Nat.reduceAdd, Nat.reduceMul, Nat.reduceSub, Nat.reduceLT, Nat.reduceLeDiff, Nat.reduceBEq, reduceCtorEq, Int.reduceLT, Int.reduceEq, Int.reduceLE, Int.reduceAdd, Int.reduceSub, Int.reduceToNat, Int.reduceNeg, h3]
    rw [List.take_of_length_le (by omega)] at ho
    exact ⟨ho, he⟩

def chosen (xs ys : List Dot) (t : Bool) : List Dot := risen (xs.filter fun d => decide (d ∈ ys) == t)
theorem chosen_take_succ {xs ys : List Dot} {t : Bool} {i : Nat} (h : i < xs.length) : chosen (xs.take (i + 1)) ys t = if (decide (xs[i] ∈ ys)) == t then put1 xs[i] (chosen (xs.take i) ys t) else chosen (xs.take i) ys t := by
  unfold chosen
  rw [take_snoc (List.getElem?_eq_getElem h), List.filter_append, List.filter_cons]
  split
  · rw [risen, List.foldl_append]; rfl
  · simp
end Go.Osj
