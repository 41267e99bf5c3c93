/- A tree tells what the document's tells. -/
import Derived.Test.YtdabompehgancaaRD
set_option linter.unusedVariables false
set_option linter.unusedSimpArgs false
set_option maxHeartbeats 2000000
namespace Go.Osj
theorem TreeT.sp {S : St} {Z : Nat → Prop} {q : Nat} {L : List Mv} (h : TreeT S Z q L) : ∃ sb, SpT S q sb (runS L) := by
  obtain ⟨-, -, sb, kb, kn, lv, T, -⟩ := h
  exact ⟨sb, T.spT⟩
theorem F.osierlaw10_is_J {S : St} {Z : Nat → Prop} {q : Nat} {L : List Mv} {lv sv tv : Value} {o : Dot} (h : TreeT S Z q L) (hl : SlT rmE S lv L) (hs : SlT stE S sv (doneR L).1) (ht : SlT dotE S tv (doneR L).2) (hL : L.length ≤ 40) :
    J PR F.osierlaw10_is [ptrV q, .agg #[lv, sv, tv], dotV o] S fun v S' => v = .bool true ∧ S.Ext S' := by
  obtain ⟨LE, hk, htk⟩ := doneR_is L
  have ok := doneR_ok L
  have okS := okS_run L
  have htl : (tooks L).length ≤ L.length := by
    unfold tooks
    rw [List.length_map]
    exact Nat.le_trans (List.length_filter_le _ _) (by rw [runL_len]; exact Nat.le_refl _)
  have hmt : ∀ d, d ∈ tooks L ↔ tookP L d := fun d => mem_tooks
  rw [htk] at ht
  clear htk
  generalize (doneR L).1 = sp at *
  generalize tooks L = tk at *
  have hsl := runS_len L
  have hmem : ∀ d, d ∈ (runS L).map Prod.fst ↔ d ∈ sp.map Prod.fst := fun d => by rw [← alook_isSome, ← alook_isSome, LE d]
  have hspl : sp.length ≤ 40 := by
    have h1 := hk.length_le_of_subset (l₂ := (runS L).map Prod.fst) fun d hd => (hmem d).2 hd
    simp at h1
    omega
  have hB : risen ((runS L).map Prod.fst) = risen (sp.map Prod.fst) := risen_congr hmem
  have hBl : (risen (sp.map Prod.fst)).length ≤ 40 := by
    have h1 := risen_len (sp.map Prod.fst)
    simp at h1
    omega
  have kidl : ∀ (p : Dot) (l1 l2 : List Dot), IsKids (runS L) p l1 → IsKids sp p l2 → l1 = l2 ∧ l1.length ≤ 40 := fun p l1 l2 k1 k2 => by
    have k1' := k1.look LE
    refine ⟨k1'.eq k2, ?_⟩
    have hn : l1.Nodup := k1'.rises.imp fun {x y} (h : kltP sp x y) (e : x = y) => kltP_irrefl sp x (by rw [← e] at h; exact h)
    have hsub : l1 ⊆ sp.map Prod.fst := fun z hz => by
      obtain ⟨s', h1, -⟩ := (k1'.mem z).1 hz
      exact alook_isSome.1 (by rw [h1]; rfl)
    have h1 := hn.length_le_of_subset hsub
    simp at h1
    omega
  obtain ⟨bl, cl, rfl⟩ := hl.len rmE
  obtain ⟨bs, cs, rfl⟩ := hs.len stE
  obtain ⟨bt, ct, rfl⟩ := ht.len dotE
  refine J_by PR.mixed F.osierlaw10_is.ok (by simp) ?_
  simp (disch := omega) only [go_sem, ↓reduceIte, Nat.reduceEqDiff, Nat.reduceAdd, Nat.reduceMul, Nat.reduceSub, Nat.reduceLT, Nat.reduceLeDiff, Nat.reduceBEq, reduceCtorEq, Int.reduceLT, Int.reduceEq, Int.reduceLE, Int.reduceAdd, Int.reduceSub, Int.reduceToNat, Int.reduceNeg]
  refine walloc_x [.slice bl L.length cl, .slice bs sp.length cs, .slice bt tk.length ct] fun x S1 e1 ox hx hxn => ?_
  simp (disch := omega) only [go_sem, ↓reduceIte, Nat.reduceEqDiff, Nat.reduceAdd, Nat.reduceMul, Nat.reduceSub, Nat.reduceLT, Nat.reduceLeDiff, Nat.reduceBEq, reduceCtorEq, Int.reduceLT, Int.reduceEq, Int.reduceLE, Int.reduceAdd, Int.reduceSub, Int.reduceToNat, Int.reduceNeg]
  refine walloc_x [.int .i64 o.1, .int .i64 o.2] fun y S2 e2 oy hy hyn => ?_
  have g2 := e1.trans e2
  have ox2 := (e2.obj x hx).trans ox
  have hx2 := Nat.lt_of_lt_of_le hx e2.n
  have cx2 := cells3 ox2
  simp (disch := omega) only [go_sem, ↓reduceIte, Nat.reduceEqDiff, Nat.reduceAdd, Nat.reduceMul, Nat.reduceSub, Nat.reduceLT, Nat.reduceLeDiff, Nat.reduceBEq, reduceCtorEq, Int.reduceLT, Int.reduceEq, Int.reduceLE, Int.reduceAdd, Int.reduceSub, Int.reduceToNat, Int.reduceNeg, cx2]
  refine wJ_of (F.osierref10_Tree_Blocks_J (hs.ext stE g2) (by omega)) ?_; rintro vb S3 ⟨ob, e3⟩
  simp (disch := omega) only [go_sem, ↓reduceIte, Nat.reduceEqDiff, Nat.reduceAdd, Nat.reduceMul, Nat.reduceSub, Nat.reduceLT, Nat.reduceLeDiff, Nat.reduceBEq, reduceCtorEq, Int.reduceLT, Int.reduceEq, Int.reduceLE, Int.reduceAdd, Int.reduceSub, Int.reduceToNat, Int.reduceNeg]
  refine wJ_of (F.movetree_Tree_Blocks_J (h.ext (g2.trans e3)) (by omega)) ?_; rintro vb' S4 ⟨ob', e4⟩
  rw [hB] at ob'
  simp (disch := omega) only [go_sem, ↓reduceIte, Nat.reduceEqDiff, Nat.reduceAdd, Nat.reduceMul, Nat.reduceSub, Nat.reduceLT, Nat.reduceLeDiff, Nat.reduceBEq, reduceCtorEq, Int.reduceLT, Int.reduceEq, Int.reduceLE, Int.reduceAdd, Int.reduceSub, Int.reduceToNat, Int.reduceNeg]
  refine wJ_of (F.osierref03_Same.J (ob'.sl dotE) ((ob.ext dotE e4).sl dotE) (by omega)) ?_; rintro _ _ ⟨rfl, rfl⟩
  simp (disch := omega) only [go_sem, ↓reduceIte, Nat.reduceEqDiff, Nat.reduceAdd, Nat.reduceMul, Nat.reduceSub, Nat.reduceLT, Nat.reduceLeDiff, Nat.reduceBEq, reduceCtorEq, Int.reduceLT, Int.reduceEq, Int.reduceLE, Int.reduceAdd, Int.reduceSub, Int.reduceToNat, Int.reduceNeg]
  have g4 := (g2.trans e3).trans e4
  have q4 := e3.trans e4
  have cx4 := cells3 ((q4.obj x hx2).trans ox2)
  simp (disch := omega) only [go_sem, ↓reduceIte, Nat.reduceEqDiff, Nat.reduceAdd, Nat.reduceMul, Nat.reduceSub, Nat.reduceLT, Nat.reduceLeDiff, Nat.reduceBEq, reduceCtorEq, Int.reduceLT, Int.reduceEq, Int.reduceLE, Int.reduceAdd, Int.reduceSub, Int.reduceToNat, Int.reduceNeg, cx4]
  refine wJ_of F.api_Root_J ?_; rintro _ _ ⟨rfl, rfl⟩
  simp (disch := omega) only [go_sem, ↓reduceIte, Nat.reduceEqDiff, Nat.reduceAdd, Nat.reduceMul, Nat.reduceSub, Nat.reduceLT, Nat.reduceLeDiff, Nat.reduceBEq, reduceCtorEq, Int.reduceLT, Int.reduceEq, Int.reduceLE, Int.reduceAdd, Int.reduceSub, Int.reduceToNat, Int.reduceNeg, cx4]
  refine wJ_of (F.movetree_Tree_Kids_J (p := (0, -1)) (h.ext g4) (by omega)) ?_; rintro vk S5 ⟨⟨K1, hK1, hok1⟩, e5⟩
  have q5 := q4.trans e5
  have cx5 := cells3 ((q5.obj x hx2).trans ox2)
  simp (disch := omega) only [go_sem, ↓reduceIte, Nat.reduceEqDiff, Nat.reduceAdd, Nat.reduceMul, Nat.reduceSub, Nat.reduceLT, Nat.reduceLeDiff, Nat.reduceBEq, reduceCtorEq, Int.reduceLT, Int.reduceEq, Int.reduceLE, Int.reduceAdd, Int.reduceSub, Int.reduceToNat, Int.reduceNeg, cx5]
  refine wJ_of F.api_Root_J ?_; rintro _ _ ⟨rfl, rfl⟩
  simp (disch := omega) only [go_sem, ↓reduceIte, Nat.reduceEqDiff, Nat.reduceAdd, Nat.reduceMul, Nat.reduceSub, Nat.reduceLT, Nat.reduceLeDiff, Nat.reduceBEq, reduceCtorEq, Int.reduceLT, Int.reduceEq, Int.reduceLE, Int.reduceAdd, Int.reduceSub, Int.reduceToNat, Int.reduceNeg, cx5]
  refine wJ_of (F.osierref10_Tree_Kids_J (p := (0, -1)) (hs.ext stE (g4.trans e5)) hk (by omega)) ?_; rintro vk2 S6 ⟨⟨K2, hK2, hok2⟩, e6⟩
  obtain ⟨rfl, hkl⟩ := kidl _ _ _ hK1 hK2
  simp (disch := omega) only [go_sem, ↓reduceIte, Nat.reduceEqDiff, Nat.reduceAdd, Nat.reduceMul, Nat.reduceSub, Nat.reduceLT, Nat.reduceLeDiff, Nat.reduceBEq, reduceCtorEq, Int.reduceLT, Int.reduceEq, Int.reduceLE, Int.reduceAdd, Int.reduceSub, Int.reduceToNat, Int.reduceNeg]
  refine wJ_of (F.osierref03_Same.J ((hok1.ext dotE e6).sl dotE) (hok2.sl dotE) (by omega)) ?_; rintro _ _ ⟨rfl, rfl⟩
  simp (disch := omega) only [go_sem, ↓reduceIte, Nat.reduceEqDiff, Nat.reduceAdd, Nat.reduceMul, Nat.reduceSub, Nat.reduceLT, Nat.reduceLeDiff, Nat.reduceBEq, reduceCtorEq, Int.reduceLT, Int.reduceEq, Int.reduceLE, Int.reduceAdd, Int.reduceSub, Int.reduceToNat, Int.reduceNeg]
  have g6 := (g4.trans e5).trans e6
  have q6 := q5.trans e6
  have cx6 := cells3 ((q6.obj x hx2).trans ox2)
  simp (disch := omega) only [go_sem, ↓reduceIte, Nat.reduceEqDiff, Nat.reduceAdd, Nat.reduceMul, Nat.reduceSub, Nat.reduceLT, Nat.reduceLeDiff, Nat.reduceBEq, reduceCtorEq, Int.reduceLT, Int.reduceEq, Int.reduceLE, Int.reduceAdd, Int.reduceSub, Int.reduceToNat, Int.reduceNeg, cx6]
  refine wJ_of F.api_Trash_J ?_; rintro _ _ ⟨rfl, rfl⟩
  simp (disch := omega) only [go_sem, ↓reduceIte, Nat.reduceEqDiff, Nat.reduceAdd, Nat.reduceMul, Nat.reduceSub, Nat.reduceLT, Nat.reduceLeDiff, Nat.reduceBEq, reduceCtorEq, Int.reduceLT, Int.reduceEq, Int.reduceLE, Int.reduceAdd, Int.reduceSub, Int.reduceToNat, Int.reduceNeg, cx6]
  refine wJ_of (F.movetree_Tree_Kids_J (p := (0, -2)) (h.ext g6) (by omega)) ?_; rintro vk3 S7 ⟨⟨K3, hK3, hok3⟩, e7⟩
  have q7 := q6.trans e7
  have cx7 := cells3 ((q7.obj x hx2).trans ox2)
  simp (disch := omega) only [go_sem, ↓reduceIte, Nat.reduceEqDiff, Nat.reduceAdd, Nat.reduceMul, Nat.reduceSub, Nat.reduceLT, Nat.reduceLeDiff, Nat.reduceBEq, reduceCtorEq, Int.reduceLT, Int.reduceEq, Int.reduceLE, Int.reduceAdd, Int.reduceSub, Int.reduceToNat, Int.reduceNeg, cx7]
  refine wJ_of F.api_Trash_J ?_; rintro _ _ ⟨rfl, rfl⟩
  simp (disch := omega) only [go_sem, ↓reduceIte, Nat.reduceEqDiff, Nat.reduceAdd, Nat.reduceMul, Nat.reduceSub, Nat.reduceLT, Nat.reduceLeDiff, Nat.reduceBEq, reduceCtorEq, Int.reduceLT, Int.reduceEq, Int.reduceLE, Int.reduceAdd, Int.reduceSub, Int.reduceToNat, Int.reduceNeg, cx7]
  refine wJ_of (F.osierref10_Tree_Kids_J (p := (0, -2)) (hs.ext stE (g6.trans e7)) hk (by omega)) ?_; rintro vk4 S8 ⟨⟨K4, hK4, hok4⟩, e8⟩
  obtain ⟨rfl, hkl3⟩ := kidl _ _ _ hK3 hK4
  have q8 := q7.trans e8
  have g8 := (g6.trans e7).trans e8
  have cx8 := cells3 ((q8.obj x hx2).trans ox2)
  have cy8 := cells2 ((q8.obj y hy).trans oy)
  simp (disch := omega) only [go_sem, ↓reduceIte, Nat.reduceEqDiff, Nat.reduceAdd, Nat.reduceMul, Nat.reduceSub, Nat.reduceLT, Nat.reduceLeDiff, Nat.reduceBEq, reduceCtorEq, Int.reduceLT, Int.reduceEq, Int.reduceLE, Int.reduceAdd, Int.reduceSub, Int.reduceToNat, Int.reduceNeg]
  refine wJ_of (F.osierref03_Same.J ((hok3.ext dotE e8).sl dotE) (hok4.sl dotE) (by omega)) ?_; rintro _ _ ⟨rfl, rfl⟩
  simp (disch := omega) only [go_sem, ↓reduceIte, Nat.reduceEqDiff, Nat.reduceAdd, Nat.reduceMul, Nat.reduceSub, Nat.reduceLT, Nat.reduceLeDiff, Nat.reduceBEq, reduceCtorEq, Int.reduceLT, Int.reduceEq, Int.reduceLE, Int.reduceAdd, Int.reduceSub, Int.reduceToNat, Int.reduceNeg, cx8, cy8]
  refine wJ_of (F.movetree_Tree_Kids_J (p := o) (h.ext g8) (by omega)) ?_; rintro vk5 S9 ⟨⟨K5, hK5, hok5⟩, e9⟩
  have q9 := q8.trans e9
  have g9 := g8.trans e9
  have cx9 := cells3 ((q9.obj x hx2).trans ox2)
  have cy9 := cells2 ((q9.obj y hy).trans oy)
  simp (disch := omega) only [go_sem, ↓reduceIte, Nat.reduceEqDiff, Nat.reduceAdd, Nat.reduceMul, Nat.reduceSub, Nat.reduceLT, Nat.reduceLeDiff, Nat.reduceBEq, reduceCtorEq, Int.reduceLT, Int.reduceEq, Int.reduceLE, Int.reduceAdd, Int.reduceSub, Int.reduceToNat, Int.reduceNeg, cx9, cy9]
  refine wJ_of (F.osierref10_Tree_Kids_J (p := o) (hs.ext stE g9) hk (by omega)) ?_; rintro vk6 S10 ⟨⟨K6, hK6, hok6⟩, e10⟩
  obtain ⟨rfl, hkl5⟩ := kidl _ _ _ hK5 hK6
  have q10 := q9.trans e10
  have g10 := g9.trans e10
  have cy10 := cells2 ((q10.obj y hy).trans oy)
  simp (disch := omega) only [go_sem, ↓reduceIte, Nat.reduceEqDiff, Nat.reduceAdd, Nat.reduceMul, Nat.reduceSub, Nat.reduceLT, Nat.reduceLeDiff, Nat.reduceBEq, reduceCtorEq, Int.reduceLT, Int.reduceEq, Int.reduceLE, Int.reduceAdd, Int.reduceSub, Int.reduceToNat, Int.reduceNeg]
  refine wJ_of (F.osierref03_Same.J ((hok5.ext dotE e10).sl dotE) (hok6.sl dotE) (by omega)) ?_; rintro _ _ ⟨rfl, rfl⟩
  simp (disch := omega) only [go_sem, ↓reduceIte, Nat.reduceEqDiff, Nat.reduceAdd, Nat.reduceMul, Nat.reduceSub, Nat.reduceLT, Nat.reduceLeDiff, Nat.reduceBEq, reduceCtorEq, Int.reduceLT, Int.reduceEq, Int.reduceLE, Int.reduceAdd, Int.reduceSub, Int.reduceToNat, Int.reduceNeg, cy10]
  refine walloc_sl [.int .i64 o.1, .int .i64 o.2] fun w S11 e11 ow hw hwn => ?_
  have g11 := g10.trans e11
  have q11 := q10.trans e11
  simp (disch := omega) only [go_sem, ↓reduceIte, Nat.reduceEqDiff, Nat.reduceAdd, Nat.reduceMul, Nat.reduceSub, Nat.reduceLT, Nat.reduceLeDiff, Nat.reduceBEq, reduceCtorEq, Int.reduceLT, Int.reduceEq, Int.reduceLE, Int.reduceAdd, Int.reduceSub, Int.reduceToNat, Int.reduceNeg]
  have hlit : SlT dotE S11 (.slice (some ⟨w, 0, none⟩) 1 1) [o] := ⟨_, 1, rfl, Nat.le_refl _, .inr rfl, fun _ => ⟨w, 0, rfl, hw, by rw [St.loadN_def, ow]; rfl⟩⟩
  refine wE_app dotE (bytes := 16) (ys := [o]) (ob.ext dotE (((((((e4.trans e5).trans e6).trans e7).trans e8).trans e9).trans e10).trans e11)) hlit rfl rfl (by have := q11.n; omega) (by simp only [List.length_singleton]; omega) (by simp only [List.length_singleton]; omega) fun v12 S12 ho12 hb12 hv12 => ?_
  have q12 : S2.Ext S12 := q11.but hb12 fun j hj => (ob.blk dotE j hj).1
  have g12 := g2.trans q12
  have hBs : ∀ d ∈ risen (sp.map Prod.fst) ++ [o], True := fun _ _ => trivial
  have hBl2 : (risen (sp.map Prod.fst) ++ [o]).length ≤ 41 := by rw [List.length_append, List.length_singleton]; omega
  generalize risen (sp.map Prod.fst) ++ [o] = B at *
  obtain ⟨bb, cb, hv⟩ := (ho12.sl dotE).len dotE
  subst hv
  simp (disch := omega) only [go_sem, ↓reduceIte, Nat.reduceEqDiff, Nat.reduceAdd, Nat.reduceMul, Nat.reduceSub, Nat.reduceLT, Nat.reduceLeDiff, Nat.reduceBEq, reduceCtorEq, Int.reduceLT, Int.reduceEq, Int.reduceLE, Int.reduceAdd, Int.reduceSub, Int.reduceToNat, Int.reduceNeg]
  refine wC_at 0 (fun fr S13 => fr 0 = ptrV q ∧ fr 4 = ptrV x ∧ fr 5 = ptrV y ∧ S12.Ext S13) ?_ ?_
  · refine wC_loop (fun n fr S13 => ∃ i : Nat, n = B.length - i ∧ i ≤ B.length ∧ fr 0 = ptrV q ∧ fr 4 = ptrV x ∧ fr 5 = ptrV y ∧ fr 7 = .slice bb B.length cb ∧ fr 8 = .int .i64 (i : Nat) ∧ S12.Ext S13) B.length
      ⟨0, by
        simp (disch := omega) only [go_sem, ↓reduceIte, Nat.reduceEqDiff, Nat.reduceAdd, Nat.reduceMul, Nat.reduceSub, Nat.reduceLT, Nat.reduceLeDiff, Nat.reduceBEq, reduceCtorEq, Int.reduceLT, Int.reduceEq, Int.reduceLE, Int.reduceAdd, Int.reduceSub, Int.reduceToNat, Int.reduceNeg]
        repeat' first | assumption | omega | (exact St.Ext.refl _) | (exact List.Perm.refl _) | rfl | (exact .inl trivial) | (exact trivial) | refine And.intro ?_ ?_
        ⟩ ?_
    rintro n fr S13 ⟨i, rfl, hi, h0, h4, h5, h7, h8, g13⟩
    simp (disch := omega) only [go_sem, ↓reduceIte, Nat.reduceEqDiff, Nat.reduceAdd, Nat.reduceMul, Nat.reduceSub, Nat.reduceLT, Nat.reduceLeDiff, Nat.reduceBEq, reduceCtorEq, Int.reduceLT, Int.reduceEq, Int.reduceLE, Int.reduceAdd, Int.reduceSub, Int.reduceToNat, Int.reduceNeg, F.osierlaw10_is.l0, h0, h4, h5, h7, h8]
    refine wcond_dec (fun hlt => ?_) (fun hge => ?_)
    rotate_left
    · simp (disch := omega) only [go_sem, ↓reduceIte, Nat.reduceEqDiff, Nat.reduceAdd, Nat.reduceMul, Nat.reduceSub, Nat.reduceLT, Nat.reduceLeDiff, Nat.reduceBEq, reduceCtorEq, Int.reduceLT, Int.reduceEq, Int.reduceLE, Int.reduceAdd, Int.reduceSub, Int.reduceToNat, Int.reduceNeg, h0, h4, h5]
      repeat' first | assumption | omega | (exact St.Ext.refl _) | (exact List.Perm.refl _) | rfl | (exact .inl trivial) | (exact trivial) | refine And.intro ?_ ?_
    have hlx : i < B.length := by omega
    have c1 : (0 : Int) ≤ (i : Int) ∧ (i : Int) < (B.length : Int) := by omega
    have hld : ∃ b0 o0, bb = some ⟨b0, o0, none⟩ ∧ ∀ S', S12.Ext S' → S'.loadN ⟨b0, o0 + i * 2, none⟩ 2 = some [.int .i64 B[i].1, .int .i64 B[i].2] := by
      obtain ⟨b1, o1, hbb, -, -⟩ := (ho12.sl dotE).dot hlx
      refine ⟨b1, o1, hbb, fun S' e => ?_⟩
      obtain ⟨b2, o2, hbb2, -, l2⟩ := ((ho12.sl dotE).ext dotE e).dot hlx
      rw [hbb] at hbb2
      injection hbb2 with hbb2
      injection hbb2 with hb1 hb2
      subst hb1 hb2
      exact l2
    obtain ⟨b0, o0, rfl, hld⟩ := hld
    have l13 := hld S13 g13
    generalize B[i] = d at *
    have gS : ∀ S', S12.Ext S' → S.Ext S' := fun S' e => g12.trans e
    have cxx : ∀ S', S12.Ext S' → _ := fun S' e => cells3 (((q12.trans e).obj x hx2).trans ox2)
    have cx13 := cxx S13 g13
    simp (disch := omega) only [go_sem, ↓reduceIte, Nat.reduceEqDiff, Nat.reduceAdd, Nat.reduceMul, Nat.reduceSub, Nat.reduceLT, Nat.reduceLeDiff, Nat.reduceBEq, reduceCtorEq, Int.reduceLT, Int.reduceEq, Int.reduceLE, Int.reduceAdd, Int.reduceSub, Int.reduceToNat, Int.reduceNeg, h0, h4, h5, h7, h8, c1, l13, cx13]
    refine wJ_of (F.osierref10_Tree_At_J (b := d) (hs.ext stE (gS _ g13)) (by omega)) ?_; rintro _ _ ⟨⟨k, rfl, hAt⟩, rfl⟩
    simp (disch := omega) only [go_sem, ↓reduceIte, Nat.reduceEqDiff, Nat.reduceAdd, Nat.reduceMul, Nat.reduceSub, Nat.reduceLT, Nat.reduceLeDiff, Nat.reduceBEq, reduceCtorEq, Int.reduceLT, Int.reduceEq, Int.reduceLE, Int.reduceAdd, Int.reduceSub, Int.reduceToNat, Int.reduceNeg, h0, h4, h5, h7, h8, c1, l13]
    refine wJ_of (F.movetree_Tree_Parent_J (d := d) (h.ext (gS _ g13))) ?_; rintro _ _ ⟨rfl, rfl⟩
    simp (disch := omega) only [go_sem, ↓reduceIte, Nat.reduceEqDiff, Nat.reduceAdd, Nat.reduceMul, Nat.reduceSub, Nat.reduceLT, Nat.reduceLeDiff, Nat.reduceBEq, reduceCtorEq, Int.reduceLT, Int.reduceEq, Int.reduceLE, Int.reduceAdd, Int.reduceSub, Int.reduceToNat, Int.reduceNeg]
    refine walloc_x [.int .i64 0, .int .i64 0] fun z S14 e14 oz hz hzn => ?_
    simp (disch := omega) only [go_sem, ↓reduceIte, Nat.reduceEqDiff, Nat.reduceAdd, Nat.reduceMul, Nat.reduceSub, Nat.reduceLT, Nat.reduceLeDiff, Nat.reduceBEq, reduceCtorEq, Int.reduceLT, Int.reduceEq, Int.reduceLE, Int.reduceAdd, Int.reduceSub, Int.reduceToNat, Int.reduceNeg]
    refine wst_w [.int .i64 ((alook d (runS L)).getD zSpot).1.1, .int .i64 ((alook d (runS L)).getD zSpot).1.2] oz rfl rfl (by simp) (by simp) rfl fun S15 oz15 b15 hz15 => ?_
    have k15 : S13.Ext S15 := e14.but b15 fun j hj => by simp [blkOf] at hj; omega
    have g15 := g13.trans k15
    have l15 := hld S15 g15
    have cx15 := cxx S15 g15
    have cz15 := cells2 oz15
    have hAi := hAt.iff
    have hSo : (alook d (runS L)).isSome = decide (0 ≤ k) := by
      rw [LE d]
      by_cases h1 : 0 ≤ k
      · rw [decide_eq_true h1, hAi.1 h1]
      · rw [decide_eq_false h1]
        cases h2 : (alook d sp).isSome with
        | false => rfl
        | true => exact absurd (hAi.2 h2) h1
    have ebb : (decide (0 ≤ k) == decide (0 ≤ k)) = true := beq_self_eq_true _
    obtain ⟨sb, hSp⟩ := (h.ext (gS _ g15)).sp
    simp (disch := omega) only [go_sem, ↓reduceIte, Nat.reduceEqDiff, Nat.reduceAdd, Nat.reduceMul, Nat.reduceSub, Nat.reduceLT, Nat.reduceLeDiff, Nat.reduceBEq, reduceCtorEq, Int.reduceLT, Int.reduceEq, Int.reduceLE, Int.reduceAdd, Int.reduceSub, Int.reduceToNat, Int.reduceNeg, h0, h4, h5, h7, h8, c1, l15, cx15, hSo, ebb]
    refine wJ_of (F.movetree_Tree_There_J (b := d) hSp) ?_; rintro _ _ ⟨rfl, rfl⟩
    simp (disch := omega) only [go_sem, ↓reduceIte, Nat.reduceEqDiff, Nat.reduceAdd, Nat.reduceMul, Nat.reduceSub, Nat.reduceLT, Nat.reduceLeDiff, Nat.reduceBEq, reduceCtorEq, Int.reduceLT, Int.reduceEq, Int.reduceLE, Int.reduceAdd, Int.reduceSub, Int.reduceToNat, Int.reduceNeg, h0, h4, h5, h7, h8, c1, l15, cx15, hSo, ebb]
    have hpl := (okS.pth d).len
    refine wJ_of (F.movetree_Tree_Path_J (b := d) hSp (okS.pth d) (by omega)) ?_; rintro vp S16 ⟨op, e16⟩
    have g16 := g15.trans e16
    have l16 := hld S16 g16
    have cx16 := cxx S16 g16
    simp (disch := omega) only [go_sem, ↓reduceIte, Nat.reduceEqDiff, Nat.reduceAdd, Nat.reduceMul, Nat.reduceSub, Nat.reduceLT, Nat.reduceLeDiff, Nat.reduceBEq, reduceCtorEq, Int.reduceLT, Int.reduceEq, Int.reduceLE, Int.reduceAdd, Int.reduceSub, Int.reduceToNat, Int.reduceNeg, h0, h4, h5, h7, h8, c1, l16, cx16]
    refine wJ_of (F.osierref10_Tree_Path_J (b := d) (hs.ext stE (gS _ g16)) ok (by omega)) ?_; rintro vp2 S17 ⟨op2, e17⟩
    have g17 := g16.trans e17
    rw [path_look LE okS] at op2
    simp (disch := omega) only [go_sem, ↓reduceIte, Nat.reduceEqDiff, Nat.reduceAdd, Nat.reduceMul, Nat.reduceSub, Nat.reduceLT, Nat.reduceLeDiff, Nat.reduceBEq, reduceCtorEq, Int.reduceLT, Int.reduceEq, Int.reduceLE, Int.reduceAdd, Int.reduceSub, Int.reduceToNat, Int.reduceNeg]
    refine wJ_of (F.osierref03_Same.J ((op.ext dotE e17).sl dotE) (op2.sl dotE) (by omega)) ?_; rintro _ _ ⟨rfl, rfl⟩
    have l17 := hld S17 g17
    have cx17 := cxx S17 g17
    simp (disch := omega) only [go_sem, ↓reduceIte, Nat.reduceEqDiff, Nat.reduceAdd, Nat.reduceMul, Nat.reduceSub, Nat.reduceLT, Nat.reduceLeDiff, Nat.reduceBEq, reduceCtorEq, Int.reduceLT, Int.reduceEq, Int.reduceLE, Int.reduceAdd, Int.reduceSub, Int.reduceToNat, Int.reduceNeg, h0, h4, h5, h7, h8, c1, l17, cx17]
    refine wJ_of (F.movetree_Tree_Kids_J (p := d) (h.ext (gS _ g17)) (by omega)) ?_; rintro vk7 S18 ⟨⟨K7, hK7, hok7⟩, e18⟩
    have g18 := g17.trans e18
    have l18 := hld S18 g18
    have cx18 := cxx S18 g18
    simp (disch := omega) only [go_sem, ↓reduceIte, Nat.reduceEqDiff, Nat.reduceAdd, Nat.reduceMul, Nat.reduceSub, Nat.reduceLT, Nat.reduceLeDiff, Nat.reduceBEq, reduceCtorEq, Int.reduceLT, Int.reduceEq, Int.reduceLE, Int.reduceAdd, Int.reduceSub, Int.reduceToNat, Int.reduceNeg, h0, h4, h5, h7, h8, c1, l18, cx18]
    refine wJ_of (F.osierref10_Tree_Kids_J (p := d) (hs.ext stE (gS _ g18)) hk (by omega)) ?_; rintro vk8 S19 ⟨⟨K8, hK8, hok8⟩, e19⟩
    obtain ⟨rfl, hkl7⟩ := kidl _ _ _ hK7 hK8
    have g19 := g18.trans e19
    have cx19 := cxx S19 g19
    have cz19 := cells2 ((((e16.trans e17).trans e18).trans e19).obj z hz15 |>.trans oz15)
    simp (disch := omega) only [go_sem, ↓reduceIte, Nat.reduceEqDiff, Nat.reduceAdd, Nat.reduceMul, Nat.reduceSub, Nat.reduceLT, Nat.reduceLeDiff, Nat.reduceBEq, reduceCtorEq, Int.reduceLT, Int.reduceEq, Int.reduceLE, Int.reduceAdd, Int.reduceSub, Int.reduceToNat, Int.reduceNeg]
    refine wJ_of (F.osierref03_Same.J ((hok7.ext dotE e19).sl dotE) (hok8.sl dotE) (by omega)) ?_; rintro _ _ ⟨rfl, rfl⟩
    rcases hAt with ⟨rfl, hno⟩ | ⟨kk, s, rfl, hsk, hyes⟩
    · have hno' := (LE d).trans hno
      rw [hno'] at cz19
      have q0 : eqV [.i .i64, .i .i64] true (dotV ((none : Option Spot).getD zSpot).1) (dotV (0, 0)) = some true := eqV_d _ _ rfl
      have q1 : (((none : Option Spot).getD zSpot).2 == (⟨#[]⟩ : ByteArray)) = true := by rw [ba_beq]; rfl
      simp (disch := omega) only [go_sem, ↓reduceIte, Nat.reduceEqDiff, Nat.reduceAdd, Nat.reduceMul, Nat.reduceSub, Nat.reduceLT, Nat.reduceLeDiff, Nat.reduceBEq, reduceCtorEq, Int.reduceLT, Int.reduceEq, Int.reduceLE, Int.reduceAdd, Int.reduceSub, Int.reduceToNat, Int.reduceNeg, h0, h4, h5, h7, h8, cx19, cz19, hno', q0, q1]
      refine ⟨B.length - (i + 1), by omega, i + 1, ?_⟩
      repeat' first | assumption | omega | (exact St.Ext.refl _) | (exact List.Perm.refl _) | rfl | (exact .inl trivial) | (exact trivial) | refine And.intro ?_ ?_
    · have hyes' := (LE d).trans hyes
      rw [hyes'] at cz19
      obtain ⟨hkl, hke⟩ := List.getElem?_eq_some_iff.1 hsk
      have c2 : (0 : Int) ≤ (kk : Int) ∧ (kk : Int) < (sp.length : Int) := by omega
      obtain ⟨b3, o3, rfl, hb3, ⟨-, y2, y3⟩, -⟩ := (hs.ext stE (gS _ g19)).stt hkl
      rw [hke] at y2 y3
      have q0 : eqV [.i .i64, .i .i64] true (dotV ((some s).getD zSpot).1) (dotV s.1) = some true := eqV_d _ _ (by simp)
      have q1 : (((some s).getD zSpot).2 == s.2) = true := by rw [ba_beq]; simp
      have c3 : decide ((kk : Int) < 0) = false := decide_eq_false (by omega)
      have c4 : decide ((kk : Int) ≥ 0) = true := decide_eq_true (by omega)
      simp (disch := omega) only [go_sem, ↓reduceIte, Nat.reduceEqDiff, Nat.reduceAdd, Nat.reduceMul, Nat.reduceSub, Nat.reduceLT, Nat.reduceLeDiff, Nat.reduceBEq, reduceCtorEq, Int.reduceLT, Int.reduceEq, Int.reduceLE, Int.reduceAdd, Int.reduceSub, Int.reduceToNat, Int.reduceNeg, h0, h4, h5, h7, h8, cx19, cz19, hyes', q0, q1, c2, y2, y3, c3, c4]
      refine ⟨B.length - (i + 1), by omega, i + 1, ?_⟩
      repeat' first | assumption | omega | (exact St.Ext.refl _) | (exact List.Perm.refl _) | rfl | (exact .inl trivial) | (exact trivial) | refine And.intro ?_ ?_
  rintro fr S13 ⟨h0, h4, h5, g13⟩
  have g13' := g12.trans g13
  have cx13 := cells3 (((q12.trans g13).obj x hx2).trans ox2)
  have cy13 := cells2 (((q12.trans g13).obj y hy).trans oy)
  have tin : ∀ d, decide (tookP L d) = decide (d ∈ tk) := fun d => decide_eq_decide.2 (hmt d).symm
  simp (disch := omega) only [go_sem, ↓reduceIte, Nat.reduceEqDiff, Nat.reduceAdd, Nat.reduceMul, Nat.reduceSub, Nat.reduceLT, Nat.reduceLeDiff, Nat.reduceBEq, reduceCtorEq, Int.reduceLT, Int.reduceEq, Int.reduceLE, Int.reduceAdd, Int.reduceSub, Int.reduceToNat, Int.reduceNeg, h0, h4, h5]
  refine wC_at 2 (fun fr S14 => S14 = S13 ∧ fr 0 = ptrV q ∧ fr 4 = ptrV x ∧ fr 5 = ptrV y) ?_ ?_
  · refine wC_loop (fun n fr S14 => ∃ i : Nat, n = L.length - i ∧ i ≤ L.length ∧ S14 = S13 ∧ fr 0 = ptrV q ∧ fr 4 = ptrV x ∧ fr 5 = ptrV y ∧ fr 13 = .int .i64 (i : Nat)) L.length
      ⟨0, by
        simp (disch := omega) only [go_sem, ↓reduceIte, Nat.reduceEqDiff, Nat.reduceAdd, Nat.reduceMul, Nat.reduceSub, Nat.reduceLT, Nat.reduceLeDiff, Nat.reduceBEq, reduceCtorEq, Int.reduceLT, Int.reduceEq, Int.reduceLE, Int.reduceAdd, Int.reduceSub, Int.reduceToNat, Int.reduceNeg]
        repeat' first | assumption | omega | (exact St.Ext.refl _) | (exact List.Perm.refl _) | rfl | (exact .inl trivial) | (exact trivial) | refine And.intro ?_ ?_
        ⟩ ?_
    rintro n fr S14 ⟨i, rfl, hi, rfl, h0, h4, h5, h13⟩
    simp (disch := omega) only [go_sem, ↓reduceIte, Nat.reduceEqDiff, Nat.reduceAdd, Nat.reduceMul, Nat.reduceSub, Nat.reduceLT, Nat.reduceLeDiff, Nat.reduceBEq, reduceCtorEq, Int.reduceLT, Int.reduceEq, Int.reduceLE, Int.reduceAdd, Int.reduceSub, Int.reduceToNat, Int.reduceNeg, F.osierlaw10_is.l1, h0, h4, h5, h13, cx13]
    refine wcond_dec (fun hlt => ?_) (fun hge => ?_)
    rotate_left
    · simp (disch := omega) only [go_sem, ↓reduceIte, Nat.reduceEqDiff, Nat.reduceAdd, Nat.reduceMul, Nat.reduceSub, Nat.reduceLT, Nat.reduceLeDiff, Nat.reduceBEq, reduceCtorEq, Int.reduceLT, Int.reduceEq, Int.reduceLE, Int.reduceAdd, Int.reduceSub, Int.reduceToNat, Int.reduceNeg, h0, h4, h5]
      repeat' first | assumption | omega | (exact St.Ext.refl _) | (exact List.Perm.refl _) | rfl | (exact .inl trivial) | (exact trivial) | refine And.intro ?_ ?_
    have hlx : i < L.length := by omega
    have c1 : (0 : Int) ≤ (i : Int) ∧ (i : Int) < (L.length : Int) := by omega
    obtain ⟨b, off, rfl, hb, ⟨x1, -⟩, -⟩ := (hl.ext rmE g13').rm hlx
    simp (disch := omega) only [go_sem, ↓reduceIte, Nat.reduceEqDiff, Nat.reduceAdd, Nat.reduceMul, Nat.reduceSub, Nat.reduceLT, Nat.reduceLeDiff, Nat.reduceBEq, reduceCtorEq, Int.reduceLT, Int.reduceEq, Int.reduceLE, Int.reduceAdd, Int.reduceSub, Int.reduceToNat, Int.reduceNeg, h0, h4, h5, h13, cx13, c1, x1]
    refine wJ_of (F.movetree_Tree_Took_J (d := L[i].id) (h.ext g13') (by omega)) ?_; rintro _ _ ⟨rfl, rfl⟩
    simp (disch := omega) only [go_sem, ↓reduceIte, Nat.reduceEqDiff, Nat.reduceAdd, Nat.reduceMul, Nat.reduceSub, Nat.reduceLT, Nat.reduceLeDiff, Nat.reduceBEq, reduceCtorEq, Int.reduceLT, Int.reduceEq, Int.reduceLE, Int.reduceAdd, Int.reduceSub, Int.reduceToNat, Int.reduceNeg, h0, h4, h5, h13, cx13, c1, x1]
    refine wJ_of (F.osierref03_In_P (d := L[i].id) (ht.ext dotE g13') (by omega)) ?_; rintro _ _ ⟨rfl, rfl⟩
    have bt : ∀ b : Bool, (b == b) = true := fun b => by cases b <;> rfl
    simp (disch := omega) only [go_sem, ↓reduceIte, Nat.reduceEqDiff, Nat.reduceAdd, Nat.reduceMul, Nat.reduceSub, Nat.reduceLT, Nat.reduceLeDiff, Nat.reduceBEq, reduceCtorEq, Int.reduceLT, Int.reduceEq, Int.reduceLE, Int.reduceAdd, Int.reduceSub, Int.reduceToNat, Int.reduceNeg, tin, bt, h0, h4, h5, h13]
    refine ⟨L.length - (i + 1), by omega, i + 1, ?_⟩
    repeat' first | assumption | omega | (exact St.Ext.refl _) | (exact List.Perm.refl _) | rfl | (exact .inl trivial) | (exact trivial) | refine And.intro ?_ ?_
  rintro fr S14 ⟨rfl, h0, h4, h5⟩
  simp (disch := omega) only [go_sem, ↓reduceIte, Nat.reduceEqDiff, Nat.reduceAdd, Nat.reduceMul, Nat.reduceSub, Nat.reduceLT, Nat.reduceLeDiff, Nat.reduceBEq, reduceCtorEq, Int.reduceLT, Int.reduceEq, Int.reduceLE, Int.reduceAdd, Int.reduceSub, Int.reduceToNat, Int.reduceNeg, h0, h4, h5, cx13, cy13]
  refine wJ_of (F.osierref03_In_P (d := o) (ht.ext dotE g13') (by omega)) ?_; rintro _ _ ⟨rfl, rfl⟩
  simp (disch := omega) only [go_sem, ↓reduceIte, Nat.reduceEqDiff, Nat.reduceAdd, Nat.reduceMul, Nat.reduceSub, Nat.reduceLT, Nat.reduceLeDiff, Nat.reduceBEq, reduceCtorEq, Int.reduceLT, Int.reduceEq, Int.reduceLE, Int.reduceAdd, Int.reduceSub, Int.reduceToNat, Int.reduceNeg, h0, h4, h5, cx13, cy13]
  refine wJ_of (F.movetree_Tree_Took_J (d := o) (h.ext g13') (by omega)) ?_; rintro _ _ ⟨rfl, rfl⟩
  have bt : ∀ b : Bool, (b == b) = true := fun b => by cases b <;> rfl
  simp (disch := omega) only [go_sem, ↓reduceIte, Nat.reduceEqDiff, Nat.reduceAdd, Nat.reduceMul, Nat.reduceSub, Nat.reduceLT, Nat.reduceLeDiff, Nat.reduceBEq, reduceCtorEq, Int.reduceLT, Int.reduceEq, Int.reduceLE, Int.reduceAdd, Int.reduceSub, Int.reduceToNat, Int.reduceNeg, tin, bt]
  exact g13'
end Go.Osj
