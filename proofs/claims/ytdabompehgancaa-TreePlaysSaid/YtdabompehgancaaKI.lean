/- Trees of blocks: kids. -/
import Derived.Test.YtdabompehgancaaSB
import Derived.Test.YtdabompehgancaaNA
import Derived.Test.YtdabompehgancaaXR
set_option linter.unusedVariables false
set_option linter.unusedSimpArgs false
set_option maxHeartbeats 2000000
namespace Go.Osj
theorem walloc_sl {S : St} {k : KV} {n m : Nat} (cs : List Value) (hk : ∀ x S1, S.Ext S1 → S1.obj x = some (.cells true cs.length cs) → x < S1.n → S.n ≤ x → k.run (.slice (some ⟨x, 0, none⟩) n m) S1) :
    @wfresh S.n ⟨fun b => k.run (.slice (some ⟨b, 0, none⟩) n m) (S.put b (.cells true cs.length cs))⟩ :=
  wfresh_of fun b hb => hk b _ ((St.Ext.refl S).put hb _) (St.put_same _ _ _) (St.lt_put_self _ _ _) hb
open Stab in
theorem sw_key (sp : Sp) : SW (kltK sp) lessD where
  neg a b c h := by
    unfold kltK at *
    by_cases h1 : Op.bytesLess (keyS sp a).toList (keyS sp c).toList = true
    · exact .inl h1
    · right
      by_cases e : (keyS sp a).toList = (keyS sp c).toList
      · rw [← e]; exact h
      · exact bless_trans ((bless_total e).resolve_left h1) h
  trans a b c h1 h2 := by unfold kltK at *; exact bless_trans h1 h2
  rt a b c h1 h2 := lessD_trans h1 h2
theorem F.cmp_isNaN_string_J {S : St} {a : ByteArray} : J PR F.cmp_isNaN_string [.string a] S fun v S' => v = .bool false ∧ S = S' := by
  refine J_by PR.mixed F.cmp_isNaN_string.ok (by simp) ?_
  have e : (a == a) = true := by rw [ba_beq]; simp
  simp (disch := omega) only [go_sem, ↓reduceIte, Nat.reduceEqDiff, Nat.reduceAdd, Nat.reduceMul, Nat.reduceSub, Nat.reduceLT, Nat.reduceLeDiff, Nat.reduceBEq, reduceCtorEq, Int.reduceLT, Int.reduceEq, Int.reduceLE, Int.reduceAdd, Int.reduceSub, Int.reduceToNat, Int.reduceNeg, e]
theorem F.cmp_Compare_string_J {S : St} {a b : ByteArray} : J PR F.cmp_Compare_string [.string a, .string b] S fun v S' => (∃ c : Int, v = .int .i64 c ∧ (c < 0 ↔ Op.bytesLess a.toList b.toList = true)) ∧ S = S' := by
  refine J_by PR.mixed F.cmp_Compare_string.ok (by simp) ?_
  simp (disch := omega) only [go_sem, ↓reduceIte, Nat.reduceEqDiff, Nat.reduceAdd, Nat.reduceMul, Nat.reduceSub, Nat.reduceLT, Nat.reduceLeDiff, Nat.reduceBEq, reduceCtorEq, Int.reduceLT, Int.reduceEq, Int.reduceLE, Int.reduceAdd, Int.reduceSub, Int.reduceToNat, Int.reduceNeg]
  refine wJ_of F.cmp_isNaN_string_J ?_; rintro _ _ ⟨rfl, rfl⟩
  simp (disch := omega) only [go_sem, ↓reduceIte, Nat.reduceEqDiff, Nat.reduceAdd, Nat.reduceMul, Nat.reduceSub, Nat.reduceLT, Nat.reduceLeDiff, Nat.reduceBEq, reduceCtorEq, Int.reduceLT, Int.reduceEq, Int.reduceLE, Int.reduceAdd, Int.reduceSub, Int.reduceToNat, Int.reduceNeg]
  refine wJ_of F.cmp_isNaN_string_J ?_; rintro _ _ ⟨rfl, rfl⟩
  simp (disch := omega) only [go_sem, ↓reduceIte, Nat.reduceEqDiff, Nat.reduceAdd, Nat.reduceMul, Nat.reduceSub, Nat.reduceLT, Nat.reduceLeDiff, Nat.reduceBEq, reduceCtorEq, Int.reduceLT, Int.reduceEq, Int.reduceLE, Int.reduceAdd, Int.reduceSub, Int.reduceToNat, Int.reduceNeg]
  refine wcond_of (fun h1 => ?_) (fun h1 => ?_)
  · simp (disch := omega) only [go_sem, ↓reduceIte, Nat.reduceEqDiff, Nat.reduceAdd, Nat.reduceMul, Nat.reduceSub, Nat.reduceLT, Nat.reduceLeDiff, Nat.reduceBEq, reduceCtorEq, Int.reduceLT, Int.reduceEq, Int.reduceLE, Int.reduceAdd, Int.reduceSub, Int.reduceToNat, Int.reduceNeg]
    exact ⟨-1, rfl, by simp [h1]⟩
  simp (disch := omega) only [go_sem, ↓reduceIte, Nat.reduceEqDiff, Nat.reduceAdd, Nat.reduceMul, Nat.reduceSub, Nat.reduceLT, Nat.reduceLeDiff, Nat.reduceBEq, reduceCtorEq, Int.reduceLT, Int.reduceEq, Int.reduceLE, Int.reduceAdd, Int.reduceSub, Int.reduceToNat, Int.reduceNeg]
  refine wcond_of (fun h2 => ?_) (fun h2 => ?_)
  · simp (disch := omega) only [go_sem, ↓reduceIte, Nat.reduceEqDiff, Nat.reduceAdd, Nat.reduceMul, Nat.reduceSub, Nat.reduceLT, Nat.reduceLeDiff, Nat.reduceBEq, reduceCtorEq, Int.reduceLT, Int.reduceEq, Int.reduceLE, Int.reduceAdd, Int.reduceSub, Int.reduceToNat, Int.reduceNeg]
    exact ⟨1, rfl, by simp [h1]⟩
  · simp (disch := omega) only [go_sem, ↓reduceIte, Nat.reduceEqDiff, Nat.reduceAdd, Nat.reduceMul, Nat.reduceSub, Nat.reduceLT, Nat.reduceLeDiff, Nat.reduceBEq, reduceCtorEq, Int.reduceLT, Int.reduceEq, Int.reduceLE, Int.reduceAdd, Int.reduceSub, Int.reduceToNat, Int.reduceNeg]
    exact ⟨0, rfl, by simp [h1]⟩
/-- the tree, seen from a function value -/
def KidG (q sb w : Nat) (sp : Sp) (S : St) : Prop := SpT S q sb sp ∧ S.cell ⟨w, 0, none⟩ = some (ptrV q) ∧ w < S.n
theorem KidG.ext {q sb w : Nat} {sp : Sp} {S S' : St} (h : KidG q sb w sp S) (he : S.Ext S') : KidG q sb w sp S' := ⟨h.1.ext he, by rw [he.cell h.2.2]; exact h.2.1, Nat.lt_of_lt_of_le h.2.2 he.n⟩
theorem F.movetree_Tree_Kids_c1_J {S : St} {q sb w : Nat} {sp : Sp} {a b : Dot} (h : KidG q sb w sp S) : J PR F.movetree_Tree_Kids_c1 [dotV a, dotV b, ptrV w] S fun v S' => (∃ c : Int, v = .int .i64 c ∧ (c < 0 ↔ kltK sp a b)) ∧ S = S' := by
  refine J.back (J_by PR.mixed F.movetree_Tree_Kids_c1.ok (by simp) ?_)
  simp (disch := omega) only [go_sem, ↓reduceIte, Nat.reduceEqDiff, Nat.reduceAdd, Nat.reduceMul, Nat.reduceSub, Nat.reduceLT, Nat.reduceLeDiff, Nat.reduceBEq, reduceCtorEq, Int.reduceLT, Int.reduceEq, Int.reduceLE, Int.reduceAdd, Int.reduceSub, Int.reduceToNat, Int.reduceNeg]
  refine walloc_x [.int .i64 a.1, .int .i64 a.2] fun x S1 e1 ox hx hxn => ?_
  simp (disch := omega) only [go_sem, ↓reduceIte, Nat.reduceEqDiff, Nat.reduceAdd, Nat.reduceMul, Nat.reduceSub, Nat.reduceLT, Nat.reduceLeDiff, Nat.reduceBEq, reduceCtorEq, Int.reduceLT, Int.reduceEq, Int.reduceLE, Int.reduceAdd, Int.reduceSub, Int.reduceToNat, Int.reduceNeg]
  refine walloc_x [.int .i64 b.1, .int .i64 b.2] fun y S2 e2 oy hy hyn => ?_
  have g2 := e1.trans e2
  have h2 := h.ext g2
  have f2 := h2.1.f
  have cw := h2.2.1
  have cx := cells2 ((e2.obj x hx).trans ox)
  have cy := cells2 oy
  simp (disch := omega) only [go_sem, ↓reduceIte, Nat.reduceEqDiff, Nat.reduceAdd, Nat.reduceMul, Nat.reduceSub, Nat.reduceLT, Nat.reduceLeDiff, Nat.reduceBEq, reduceCtorEq, Int.reduceLT, Int.reduceEq, Int.reduceLE, Int.reduceAdd, Int.reduceSub, Int.reduceToNat, Int.reduceNeg, f2, cw, cx, cy]
  refine wJ_of F.cmp_Compare_string_J ?_; rintro _ _ ⟨⟨c, rfl, hc⟩, rfl⟩
  simp (disch := omega) only [go_sem, ↓reduceIte, Nat.reduceEqDiff, Nat.reduceAdd, Nat.reduceMul, Nat.reduceSub, Nat.reduceLT, Nat.reduceLeDiff, Nat.reduceBEq, reduceCtorEq, Int.reduceLT, Int.reduceEq, Int.reduceLE, Int.reduceAdd, Int.reduceSub, Int.reduceToNat, Int.reduceNeg]
  exact ⟨⟨c, rfl, hc⟩, g2⟩
theorem F.slices_insertionSortCmpFunc_nil_J {S : St} {f : Value} : J PR F.slices_insertionSortCmpFunc_api_Dot [.slice none 0 0, .int .i64 0, .int .i64 0, f] S fun _ S' => S' = S := by
  refine J_by PR.mixed F.slices_insertionSortCmpFunc_api_Dot.ok (by simp) ?_
  simp (disch := omega) only [go_sem, ↓reduceIte, Nat.reduceEqDiff, Nat.reduceAdd, Nat.reduceMul, Nat.reduceSub, Nat.reduceLT, Nat.reduceLeDiff, Nat.reduceBEq, reduceCtorEq, Int.reduceLT, Int.reduceEq, Int.reduceLE, Int.reduceAdd, Int.reduceSub, Int.reduceToNat, Int.reduceNeg]
  refine wC_unroll ?_
  simp (disch := omega) only [go_sem, ↓reduceIte, Nat.reduceEqDiff, Nat.reduceAdd, Nat.reduceMul, Nat.reduceSub, Nat.reduceLT, Nat.reduceLeDiff, Nat.reduceBEq, reduceCtorEq, Int.reduceLT, Int.reduceEq, Int.reduceLE, Int.reduceAdd, Int.reduceSub, Int.reduceToNat, Int.reduceNeg, F.slices_insertionSortCmpFunc_api_Dot.l1]
theorem F.slices_stableCmpFunc_nil_J {S : St} {f : Value} : J PR F.slices_stableCmpFunc_api_Dot [.slice none 0 0, .int .i64 0, f] S fun _ S' => S' = S := by
  refine J_by PR.mixed F.slices_stableCmpFunc_api_Dot.ok (by simp) ?_
  simp (disch := omega) only [go_sem, ↓reduceIte, Nat.reduceEqDiff, Nat.reduceAdd, Nat.reduceMul, Nat.reduceSub, Nat.reduceLT, Nat.reduceLeDiff, Nat.reduceBEq, reduceCtorEq, Int.reduceLT, Int.reduceEq, Int.reduceLE, Int.reduceAdd, Int.reduceSub, Int.reduceToNat, Int.reduceNeg]
  refine wC_unroll ?_
  simp (disch := omega) only [go_sem, ↓reduceIte, Nat.reduceEqDiff, Nat.reduceAdd, Nat.reduceMul, Nat.reduceSub, Nat.reduceLT, Nat.reduceLeDiff, Nat.reduceBEq, reduceCtorEq, Int.reduceLT, Int.reduceEq, Int.reduceLE, Int.reduceAdd, Int.reduceSub, Int.reduceToNat, Int.reduceNeg, F.slices_stableCmpFunc_api_Dot.l0]
  refine wJ_of F.slices_insertionSortCmpFunc_nil_J ?_; rintro _ _ rfl
  simp (disch := omega) only [go_sem, ↓reduceIte, Nat.reduceEqDiff, Nat.reduceAdd, Nat.reduceMul, Nat.reduceSub, Nat.reduceLT, Nat.reduceLeDiff, Nat.reduceBEq, reduceCtorEq, Int.reduceLT, Int.reduceEq, Int.reduceLE, Int.reduceAdd, Int.reduceSub, Int.reduceToNat, Int.reduceNeg]
  refine wC_unroll ?_
  simp (disch := omega) only [go_sem, ↓reduceIte, Nat.reduceEqDiff, Nat.reduceAdd, Nat.reduceMul, Nat.reduceSub, Nat.reduceLT, Nat.reduceLeDiff, Nat.reduceBEq, reduceCtorEq, Int.reduceLT, Int.reduceEq, Int.reduceLE, Int.reduceAdd, Int.reduceSub, Int.reduceToNat, Int.reduceNeg, F.slices_stableCmpFunc_api_Dot.l2]
theorem F.slices_SortStableFunc_nil_J {S : St} {f : Value} : J PR F.slices_SortStableFunc_s_api_Dot_api_Dot [.slice none 0 0, f] S fun _ S' => S' = S := by
  refine J_by PR.mixed F.slices_SortStableFunc_s_api_Dot_api_Dot.ok (by simp) ?_
  simp (disch := omega) only [go_sem, ↓reduceIte, Nat.reduceEqDiff, Nat.reduceAdd, Nat.reduceMul, Nat.reduceSub, Nat.reduceLT, Nat.reduceLeDiff, Nat.reduceBEq, reduceCtorEq, Int.reduceLT, Int.reduceEq, Int.reduceLE, Int.reduceAdd, Int.reduceSub, Int.reduceToNat, Int.reduceNeg]
  refine wJ_of F.slices_stableCmpFunc_nil_J ?_; rintro _ _ rfl
  simp (disch := omega) only [go_sem, ↓reduceIte, Nat.reduceEqDiff, Nat.reduceAdd, Nat.reduceMul, Nat.reduceSub, Nat.reduceLT, Nat.reduceLeDiff, Nat.reduceBEq, reduceCtorEq, Int.reduceLT, Int.reduceEq, Int.reduceLE, Int.reduceAdd, Int.reduceSub, Int.reduceToNat, Int.reduceNeg]
theorem F.movetree_Tree_Kids_J {S : St} {Z : Nat → Prop} {q : Nat} {L : List Mv} {p : Dot} (h : TreeT S Z q L) (hL : L.length < 80000) :
    J PR F.movetree_Tree_Kids [ptrV q, dotV p] S fun v S' => (∃ l, IsKids (runS L) p l ∧ OwnT dotE S.n S' v l) ∧ S.Ext S' := by
  refine J_by PR.mixed F.movetree_Tree_Kids.ok (by simp) ?_
  simp (disch := omega) only [go_sem, ↓reduceIte, Nat.reduceEqDiff, Nat.reduceAdd, Nat.reduceMul, Nat.reduceSub, Nat.reduceLT, Nat.reduceLeDiff, Nat.reduceBEq, reduceCtorEq, Int.reduceLT, Int.reduceEq, Int.reduceLE, Int.reduceAdd, Int.reduceSub, Int.reduceToNat, Int.reduceNeg]
  refine walloc_x [ptrV q] fun w S1 e1 ow hw hwn => ?_
  simp (disch := omega) only [go_sem, ↓reduceIte, Nat.reduceEqDiff, Nat.reduceAdd, Nat.reduceMul, Nat.reduceSub, Nat.reduceLT, Nat.reduceLeDiff, Nat.reduceBEq, reduceCtorEq, Int.reduceLT, Int.reduceEq, Int.reduceLE, Int.reduceAdd, Int.reduceSub, Int.reduceToNat, Int.reduceNeg]
  refine walloc_x [.int .i64 p.1, .int .i64 p.2] fun pp S2 e2 op hp hpn => ?_
  have g2 := e1.trans e2
  have T2 := h.ext g2
  have ow2 := (e2.obj w hw).trans ow
  have cw : S2.cell ⟨w, 0, none⟩ = some (ptrV q) := by rw [St.cell_def, ow2]; rfl
  simp (disch := omega) only [go_sem, ↓reduceIte, Nat.reduceEqDiff, Nat.reduceAdd, Nat.reduceMul, Nat.reduceSub, Nat.reduceLT, Nat.reduceLeDiff, Nat.reduceBEq, reduceCtorEq, Int.reduceLT, Int.reduceEq, Int.reduceLE, Int.reduceAdd, Int.reduceSub, Int.reduceToNat, Int.reduceNeg, cw]
  refine wJ_of (F.movetree_Tree_Blocks_J T2 hL) ?_; rintro vb S3 ⟨hob, e3⟩
  have hB : ∀ d, d ∈ risen ((runS L).map Prod.fst) ↔ (alook d (runS L)).isSome = true := fun d => by rw [(risen_ris _).2, alook_isSome]
  have hBp := (risen_ris ((runS L).map Prod.fst)).1
  have hBl : (risen ((runS L).map Prod.fst)).length ≤ L.length := by
    have h1 := risen_len ((runS L).map Prod.fst)
    have h2 := runS_len L
    simp at h1
    omega
  generalize risen ((runS L).map Prod.fst) = B at *
  obtain ⟨bb, cb, hv⟩ := (hob.sl dotE).len dotE
  subst hv
  have hg : ∃ sb, KidG q sb w (runS L) S3 := by
    obtain ⟨-, -, sb, kb, kn, lv, T, -⟩ := h
    exact ⟨sb, T.spT.ext (g2.trans e3), by rw [e3.cell (Nat.lt_of_lt_of_le hw e2.n)]; exact cw, Nat.lt_of_lt_of_le hw (Nat.le_trans e2.n e3.n)⟩
  obtain ⟨sb, hg⟩ := hg
  have op3 : S3.obj pp = some (.cells true 2 [.int .i64 p.1, .int .i64 p.2]) := (e3.obj pp hp).trans op
  have hp3 : pp < S3.n := Nat.lt_of_lt_of_le hp e3.n
  simp (disch := omega) only [go_sem, ↓reduceIte, Nat.reduceEqDiff, Nat.reduceAdd, Nat.reduceMul, Nat.reduceSub, Nat.reduceLT, Nat.reduceLeDiff, Nat.reduceBEq, reduceCtorEq, Int.reduceLT, Int.reduceEq, Int.reduceLE, Int.reduceAdd, Int.reduceSub, Int.reduceToNat, Int.reduceNeg]
  refine wC_at 0 (fun fr S4 => ∃ v : Value, fr 2 = ptrV w ∧ fr 5 = v ∧ OwnT dotE S3.n S4 v (B.filter fun d => decide (((alook d (runS L)).getD zSpot).1 = p)) ∧ S3.Ext S4) ?_ ?_
  · refine wC_loop (fun n fr S4 => ∃ (i : Nat) (v : Value), n = B.length - i ∧ i ≤ B.length ∧ fr 2 = ptrV w ∧ fr 3 = ptrV pp ∧ fr 5 = v ∧ fr 9 = .slice bb B.length cb ∧ fr 10 = .int .i64 B.length ∧ fr 11 = .int .i64 (i : Nat) ∧ OwnT dotE S3.n S4 v ((B.take i).filter fun d => decide (((alook d (runS L)).getD zSpot).1 = p)) ∧ S3.Ext S4) B.length
      ⟨0, nilS, by
        have k0 : OwnT dotE S3.n S3 nilS ((B.take 0).filter fun d => decide (((alook d (runS L)).getD zSpot).1 = p)) := OwnT.nil dotE _ _
        simp (disch := omega) only [go_sem, ↓reduceIte, Nat.reduceEqDiff, Nat.reduceAdd, Nat.reduceMul, Nat.reduceSub, Nat.reduceLT, Nat.reduceLeDiff, Nat.reduceBEq, reduceCtorEq, Int.reduceLT, Int.reduceEq, Int.reduceLE, Int.reduceAdd, Int.reduceSub, Int.reduceToNat, Int.reduceNeg]
        repeat' first | assumption | omega | (exact St.Ext.refl _) | (exact List.Perm.refl _) | rfl | (exact .inl trivial) | (exact trivial) | refine And.intro ?_ ?_
        ⟩ ?_
    rintro n fr S4 ⟨i, v, rfl, hi, h2, h3, h5, h9, h10, h11, ho, e4⟩
    simp (disch := omega) only [go_sem, ↓reduceIte, Nat.reduceEqDiff, Nat.reduceAdd, Nat.reduceMul, Nat.reduceSub, Nat.reduceLT, Nat.reduceLeDiff, Nat.reduceBEq, reduceCtorEq, Int.reduceLT, Int.reduceEq, Int.reduceLE, Int.reduceAdd, Int.reduceSub, Int.reduceToNat, Int.reduceNeg, F.movetree_Tree_Kids.l0, h2, h3, h5, h9, h10, h11]
    refine wcond_dec (fun hlt => ?_) (fun hge => ?_)
    rotate_left
    · simp (disch := omega) only [go_sem, ↓reduceIte, Nat.reduceEqDiff, Nat.reduceAdd, Nat.reduceMul, Nat.reduceSub, Nat.reduceLT, Nat.reduceLeDiff, Nat.reduceBEq, reduceCtorEq, Int.reduceLT, Int.reduceEq, Int.reduceLE, Int.reduceAdd, Int.reduceSub, Int.reduceToNat, Int.reduceNeg, h2, h5]
      rw [List.take_of_length_le (by omega)] at ho
      refine ⟨v, ?_⟩
      repeat' first | assumption | omega | (exact St.Ext.refl _) | (exact List.Perm.refl _) | rfl | (exact .inl trivial) | (exact trivial) | refine And.intro ?_ ?_
    have hlx : i < B.length := by omega
    have hsb := (hob.sl dotE).ext dotE e4
    obtain ⟨b0, o0, rfl, hb0, l0⟩ := hsb.dot hlx
    have c1 : (0 : Int) ≤ (i : Int) ∧ (i : Int) < (B.length : Int) := by omega
    simp (disch := omega) only [go_sem, ↓reduceIte, Nat.reduceEqDiff, Nat.reduceAdd, Nat.reduceMul, Nat.reduceSub, Nat.reduceLT, Nat.reduceLeDiff, Nat.reduceBEq, reduceCtorEq, Int.reduceLT, Int.reduceEq, Int.reduceLE, Int.reduceAdd, Int.reduceSub, Int.reduceToNat, Int.reduceNeg, h2, h3, h5, h9, h10, h11, c1, l0]
    have htk : (B.take (i + 1)).filter (fun d => decide (((alook d (runS L)).getD zSpot).1 = p)) = (B.take i).filter (fun d => decide (((alook d (runS L)).getD zSpot).1 = p)) ++ (if ((alook B[i] (runS L)).getD zSpot).1 = p then [B[i]] else []) := by
      rw [take_snoc (List.getElem?_eq_getElem hlx), List.filter_append]
      congr 1
      simp only [List.filter_cons, List.filter_nil, decide_eq_true_eq]
    have hfl : ((B.take i).filter fun d => decide (((alook d (runS L)).getD zSpot).1 = p)).length ≤ B.length := Nat.le_trans (List.length_filter_le _ _) (by rw [List.length_take]; omega)
    generalize (B.take i).filter (fun d => decide (((alook d (runS L)).getD zSpot).1 = p)) = Y at *
    generalize hd : B[i] = d at *
    refine walloc_x [.int .i64 0, .int .i64 0] fun y S5 e5 oy hy hyn => ?_
    simp (disch := omega) only [go_sem, ↓reduceIte, Nat.reduceEqDiff, Nat.reduceAdd, Nat.reduceMul, Nat.reduceSub, Nat.reduceLT, Nat.reduceLeDiff, Nat.reduceBEq, reduceCtorEq, Int.reduceLT, Int.reduceEq, Int.reduceLE, Int.reduceAdd, Int.reduceSub, Int.reduceToNat, Int.reduceNeg]
    refine wst_w [.int .i64 d.1, .int .i64 d.2] oy rfl rfl (by simp) (by simp) rfl fun S6 oy6 b6 hy6 => ?_
    have e6 : S4.Ext S6 := e5.but b6 fun j hj => by simp [blkOf] at hj; omega
    have g6 := e4.trans e6
    have hg6 := hg.ext g6
    have f6 := hg6.1.f
    have cw6 := hg6.2.1
    have cy6 := cells2 oy6
    have cp6 := cells2 ((g6.obj pp hp3).trans op3)
    have eqd : eqV [.i .i64, .i .i64] true (.agg (#[Value.int .i64 ((alook d (runS L)).getD zSpot).1.1, Value.int .i64 ((alook d (runS L)).getD zSpot).1.2, Value.string ((alook d (runS L)).getD zSpot).2].extract 0 2)) (dotV p) = some (decide (((alook d (runS L)).getD zSpot).1 = p)) := eqV_dot ((alook d (runS L)).getD zSpot).1 p
    have ho6 := ho.ext dotE e6
    simp (disch := omega) only [go_sem, ↓reduceIte, Nat.reduceEqDiff, Nat.reduceAdd, Nat.reduceMul, Nat.reduceSub, Nat.reduceLT, Nat.reduceLeDiff, Nat.reduceBEq, reduceCtorEq, Int.reduceLT, Int.reduceEq, Int.reduceLE, Int.reduceAdd, Int.reduceSub, Int.reduceToNat, Int.reduceNeg, h2, h3, h5, f6, cw6, cy6, cp6, eqd]
    refine wcond_dec (fun hq => ?_) (fun hq => ?_)
    · rw [if_pos hq] at htk
      simp (disch := omega) only [go_sem, ↓reduceIte, Nat.reduceEqDiff, Nat.reduceAdd, Nat.reduceMul, Nat.reduceSub, Nat.reduceLT, Nat.reduceLeDiff, Nat.reduceBEq, reduceCtorEq, Int.reduceLT, Int.reduceEq, Int.reduceLE, Int.reduceAdd, Int.reduceSub, Int.reduceToNat, Int.reduceNeg, cy6, h5]
      refine walloc_sl [.int .i64 d.1, .int .i64 d.2] fun u S7 e7 ou hu hun => ?_
      simp (disch := omega) only [go_sem, ↓reduceIte, Nat.reduceEqDiff, Nat.reduceAdd, Nat.reduceMul, Nat.reduceSub, Nat.reduceLT, Nat.reduceLeDiff, Nat.reduceBEq, reduceCtorEq, Int.reduceLT, Int.reduceEq, Int.reduceLE, Int.reduceAdd, Int.reduceSub, Int.reduceToNat, Int.reduceNeg, h5]
      have hlit : SlT dotE S7 (.slice (some ⟨u, 0, none⟩) 1 1) [d] := ⟨_, 1, rfl, Nat.le_refl _, .inr rfl, fun _ => ⟨u, 0, rfl, hu, by rw [St.loadN_def, ou]; rfl⟩⟩
      refine wE_app dotE (bytes := 16) (ys := [d]) (ho6.ext dotE e7) hlit rfl rfl (Nat.le_trans g6.n e7.n) (by simp only [List.length_singleton]; omega) (by simp only [List.length_singleton]; omega) fun v8 S8 ho8 hb8 hv8 => ?_
      have g8 : S3.Ext S8 := (g6.trans e7).but hb8 fun j hj => (ho.blk dotE j hj).1
      rw [← htk] at ho8
      simp (disch := omega) only [go_sem, ↓reduceIte, Nat.reduceEqDiff, Nat.reduceAdd, Nat.reduceMul, Nat.reduceSub, Nat.reduceLT, Nat.reduceLeDiff, Nat.reduceBEq, reduceCtorEq, Int.reduceLT, Int.reduceEq, Int.reduceLE, Int.reduceAdd, Int.reduceSub, Int.reduceToNat, Int.reduceNeg, h2, h3, h9, h10, h11]
      refine ⟨B.length - (i + 1), by omega, i + 1, v8, ?_⟩
      repeat' first | assumption | omega | (exact St.Ext.refl _) | (exact List.Perm.refl _) | rfl | (exact .inl trivial) | (exact trivial) | refine And.intro ?_ ?_
    · rw [if_neg hq, List.append_nil] at htk
      rw [← htk] at ho6
      simp (disch := omega) only [go_sem, ↓reduceIte, Nat.reduceEqDiff, Nat.reduceAdd, Nat.reduceMul, Nat.reduceSub, Nat.reduceLT, Nat.reduceLeDiff, Nat.reduceBEq, reduceCtorEq, Int.reduceLT, Int.reduceEq, Int.reduceLE, Int.reduceAdd, Int.reduceSub, Int.reduceToNat, Int.reduceNeg, h2, h3, h5, h9, h10, h11]
      refine ⟨B.length - (i + 1), by omega, i + 1, v, ?_⟩
      repeat' first | assumption | omega | (exact St.Ext.refl _) | (exact List.Perm.refl _) | rfl | (exact .inl trivial) | (exact trivial) | refine And.intro ?_ ?_
  rintro fr S4 ⟨v, h2, h5, ho, e4⟩
  have hX : (B.filter fun d => decide (((alook d (runS L)).getD zSpot).1 = p)).Pairwise lessD := (hBp.sublist List.filter_sublist).imp fun h => h
  have hXm : ∀ x, x ∈ (B.filter fun d => decide (((alook d (runS L)).getD zSpot).1 = p)) ↔ ∃ s, alook x (runS L) = some s ∧ s.1 = p := fun x => by
    rw [List.mem_filter, hB, decide_eq_true_eq]
    cases alook x (runS L) with
    | none => simp
    | some s => simp
  have hXl : (B.filter fun d => decide (((alook d (runS L)).getD zSpot).1 = p)).length ≤ L.length := Nat.le_trans (List.length_filter_le _ _) hBl
  generalize (B.filter fun d => decide (((alook d (runS L)).getD zSpot).1 = p)) = X at *
  have hg4 := hg.ext e4
  simp (disch := omega) only [go_sem, ↓reduceIte, Nat.reduceEqDiff, Nat.reduceAdd, Nat.reduceMul, Nat.reduceSub, Nat.reduceLT, Nat.reduceLeDiff, Nat.reduceBEq, reduceCtorEq, Int.reduceLT, Int.reduceEq, Int.reduceLE, Int.reduceAdd, Int.reduceSub, Int.reduceToNat, Int.reduceNeg, h2, h5]
  rcases ho with ⟨rfl, rfl⟩ | ⟨c, k, rfl, hB3, hcn, hck, hco⟩
  · refine wJ_of F.slices_SortStableFunc_nil_J ?_; rintro _ _ rfl
    simp (disch := omega) only [go_sem, ↓reduceIte, Nat.reduceEqDiff, Nat.reduceAdd, Nat.reduceMul, Nat.reduceSub, Nat.reduceLT, Nat.reduceLeDiff, Nat.reduceBEq, reduceCtorEq, Int.reduceLT, Int.reduceEq, Int.reduceLE, Int.reduceAdd, Int.reduceSub, Int.reduceToNat, Int.reduceNeg, h5]
    exact ⟨⟨[], ⟨List.Pairwise.nil, hXm⟩, OwnT.nil dotE _ _⟩, g2.trans (e3.trans e4)⟩
  · have hD : ∀ zs, KidG q sb w (runS L) (DatS dotE S4 c (k * 2) zs) := fun zs => by
      have hq := h.lt.1
      have hcq : c ≠ q := by have := g2.n; have := e3.n; omega
      have hcs : c ≠ sb := by
        obtain ⟨hz, -, sb', kb, kn, lv, T, -⟩ := h
        have h1 : sb < S3.n := hg.1.2.2.choose_spec.1
        omega
      have hcw : c ≠ w := by have := hg.2.2; omega
      refine ⟨hg4.1.keep (by unfold DatS; rw [St.put_n]; omega) (St.put_other _ _ _ (Ne.symm hcq)) (St.put_other _ _ _ (Ne.symm hcs)), ?_, by unfold DatS; rw [St.put_n]; have := hg4.2.2; omega⟩
      unfold DatS
      rw [St.cell_other (Ne.symm hcw)]
      exact hg4.2.1
    have hback : DatS dotE S4 c (k * 2) X = S4 := DatS.back hco hcn
    rw [← hback]
    refine wJ_of (F.slices_SortStableFunc_s_api_Dot_api_Dot_J (G := KidG q sb w (runS L)) (lt := kltK (runS L)) (R := lessD) (b := c) (cap := k * 2) (c := k) (X := X) ⟨_, _, _, rfl, F.movetree_Tree_Kids_c1.cl, fun S hS x y => F.movetree_Tree_Kids_c1_J hS⟩ hD (sw_key _) hX rfl (Nat.mul_le_mul_right 2 hck) (by omega)) ?_; rintro _ _ ⟨Z', pz, sz, rfl⟩
    simp (disch := omega) only [go_sem, ↓reduceIte, Nat.reduceEqDiff, Nat.reduceAdd, Nat.reduceMul, Nat.reduceSub, Nat.reduceLT, Nat.reduceLeDiff, Nat.reduceBEq, reduceCtorEq, Int.reduceLT, Int.reduceEq, Int.reduceLE, Int.reduceAdd, Int.reduceSub, Int.reduceToNat, Int.reduceNeg, h5]
    have hl := pz.length_eq
    refine ⟨⟨Z', ⟨sz, fun x => (pz.mem_iff).trans (hXm x)⟩, ?_⟩, ?_⟩
    · rw [← hl]
      exact .inr ⟨c, k, rfl, by have := g2.n; have := e3.n; omega, St.lt_put_self _ _ _, by omega, St.put_same _ _ _⟩
    · refine ⟨by unfold DatS; rw [St.put_n]; have := (g2.trans (e3.trans e4)).n; omega, fun i hi => ?_⟩
      unfold DatS
      rw [St.put_other _ _ _ (by have := g2.n; have := e3.n; omega)]
      exact (g2.trans (e3.trans e4)).obj i hi
end Go.Osj
