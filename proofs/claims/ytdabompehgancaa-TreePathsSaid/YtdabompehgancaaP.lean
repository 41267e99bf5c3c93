/- The law TreePaths. -/
import Derived.Test.YtdabompehgancaaKI
import Derived.Test.YtdabompehgancaaXD
set_option linter.unusedVariables false
set_option linter.unusedSimpArgs false
set_option maxHeartbeats 2000000
namespace Go.Osj
theorem risen_nodup_len {l : List Dot} (h : l.Nodup) : (risen l).length = l.length := by
  have h1 : (risen l).Nodup := (risen_ris l).1.imp fun {a b} (h : lessP a b) (e : a = b) => lessP_irrefl a (by rw [← e] at h; exact h)
  exact ((List.perm_ext_iff_of_nodup h1 h).2 fun d => (risen_ris l).2 d).length_eq
theorem F.osierlaw10_TreePaths.J {S : St} {l : Value} {xs : List Mv} (hl : SlT rmE S l xs) (hX : xs.length < 9223372036854775808) : J PR F.osierlaw10_TreePaths [l] S fun v _ => v = .bool true := by
  obtain ⟨base, cap, rfl⟩ := hl.len rmE
  refine J_by PR.mixed F.osierlaw10_TreePaths.ok (by simp) ?_
  simp (disch := omega) only [go_sem, ↓reduceIte, Nat.reduceEqDiff, Nat.reduceAdd, Nat.reduceMul, Nat.reduceSub, Nat.reduceLT, Nat.reduceLeDiff, Nat.reduceBEq, reduceCtorEq, Int.reduceLT, Int.reduceEq, Int.reduceLE, Int.reduceAdd, Int.reduceSub, Int.reduceToNat, Int.reduceNeg]
  refine wJ_of F.osierlaw10_awake_J ?_; rintro _ _ ⟨rfl, rfl⟩
  simp (disch := omega) only [go_sem, ↓reduceIte, Nat.reduceEqDiff, Nat.reduceAdd, Nat.reduceMul, Nat.reduceSub, Nat.reduceLT, Nat.reduceLeDiff, Nat.reduceBEq, reduceCtorEq, Int.reduceLT, Int.reduceEq, Int.reduceLE, Int.reduceAdd, Int.reduceSub, Int.reduceToNat, Int.reduceNeg]
  refine wJ_of F.movetree_New_J ?_; rintro _ S1 ⟨q, Z1, rfl, T1, z1, g1⟩
  simp (disch := omega) only [go_sem, ↓reduceIte, Nat.reduceEqDiff, Nat.reduceAdd, Nat.reduceMul, Nat.reduceSub, Nat.reduceLT, Nat.reduceLeDiff, Nat.reduceBEq, reduceCtorEq, Int.reduceLT, Int.reduceEq, Int.reduceLE, Int.reduceAdd, Int.reduceSub, Int.reduceToNat, Int.reduceNeg]
  refine wC_at 0 (fun fr S2 => ∃ (L : List Mv) (Z : Nat → Prop), fr 4 = ptrV q ∧ TreeT S2 Z q L ∧ (∀ j, Z j → S.n ≤ j) ∧ S.Ext S2 ∧ L.length ≤ 60) ?_ ?_
  · refine wC_loop (fun n fr S2 => ∃ (i : Nat) (L : List Mv) (Z : Nat → Prop), n = 60 - i ∧ i ≤ 60 ∧ i ≤ xs.length ∧ fr 0 = .slice base xs.length cap ∧ fr 4 = ptrV q ∧ fr 5 = .int .i64 (i : Nat) ∧ TreeT S2 Z q L ∧
        (∀ j, Z j → S.n ≤ j) ∧ S.Ext S2 ∧ L.length ≤ i) 60
      ⟨0, [], Z1, by
        simp (disch := omega) only [go_sem, ↓reduceIte, Nat.reduceEqDiff, Nat.reduceAdd, Nat.reduceMul, Nat.reduceSub, Nat.reduceLT, Nat.reduceLeDiff, Nat.reduceBEq, reduceCtorEq, Int.reduceLT, Int.reduceEq, Int.reduceLE, Int.reduceAdd, Int.reduceSub, Int.reduceToNat, Int.reduceNeg]
        repeat' first | assumption | omega | (exact St.Ext.refl _) | (exact List.Perm.refl _) | rfl | (exact .inl trivial) | refine And.intro ?_ ?_
        ⟩ ?_
    rintro n fr S2 ⟨i, L, Z, rfl, hi, hix, h0, h4, h5, T2, hz, g2, hLi⟩
    simp (disch := omega) only [go_sem, ↓reduceIte, Nat.reduceEqDiff, Nat.reduceAdd, Nat.reduceMul, Nat.reduceSub, Nat.reduceLT, Nat.reduceLeDiff, Nat.reduceBEq, reduceCtorEq, Int.reduceLT, Int.reduceEq, Int.reduceLE, Int.reduceAdd, Int.reduceSub, Int.reduceToNat, Int.reduceNeg, F.osierlaw10_TreePaths.l0, h0, h4, h5]
    by_cases hx : i < xs.length
    rotate_left
    · have d1 : ¬ ((i : Int) < (xs.length : Int)) := by omega
      simp (disch := omega) only [go_sem, ↓reduceIte, Nat.reduceEqDiff, Nat.reduceAdd, Nat.reduceMul, Nat.reduceSub, Nat.reduceLT, Nat.reduceLeDiff, Nat.reduceBEq, reduceCtorEq, Int.reduceLT, Int.reduceEq, Int.reduceLE, Int.reduceAdd, Int.reduceSub, Int.reduceToNat, Int.reduceNeg, d1, h4]
      refine ⟨L, Z, ?_⟩
      repeat' first | assumption | omega | (exact St.Ext.refl _) | (exact List.Perm.refl _) | rfl | (exact .inl trivial) | refine And.intro ?_ ?_
    have d1 : (i : Int) < (xs.length : Int) := by omega
    by_cases hx6 : i < 60
    rotate_left
    · have d2 : ¬ ((i : Int) < 60) := by omega
      simp (disch := omega) only [go_sem, ↓reduceIte, Nat.reduceEqDiff, Nat.reduceAdd, Nat.reduceMul, Nat.reduceSub, Nat.reduceLT, Nat.reduceLeDiff, Nat.reduceBEq, reduceCtorEq, Int.reduceLT, Int.reduceEq, Int.reduceLE, Int.reduceAdd, Int.reduceSub, Int.reduceToNat, Int.reduceNeg, d1, d2, h4, h5]
      refine ⟨L, Z, ?_⟩
      repeat' first | assumption | omega | (exact St.Ext.refl _) | (exact List.Perm.refl _) | rfl | (exact .inl trivial) | refine And.intro ?_ ?_
    have d2 : (i : Int) < 60 := by omega
    have d3 : (0 : Int) ≤ (i : Int) ∧ (i : Int) < (xs.length : Int) := by omega
    have hs2 := hl.ext rmE g2
    obtain ⟨b, off, rfl, hb, ⟨x1, x2, x3, x4, x5⟩, x6⟩ := hs2.rm hx
    simp (disch := omega) only [go_sem, ↓reduceIte, Nat.reduceEqDiff, Nat.reduceAdd, Nat.reduceMul, Nat.reduceSub, Nat.reduceLT, Nat.reduceLeDiff, Nat.reduceBEq, reduceCtorEq, Int.reduceLT, Int.reduceEq, Int.reduceLE, Int.reduceAdd, Int.reduceSub, Int.reduceToNat, Int.reduceNeg, d1, d2, d3, h0, h4, h5, x1, x2, x3, x4, x5]
    refine wJ_of (F.movetree_Tree_Move_J (m := xs[i]) T2 (by omega)) ?_; rintro _ S3 ⟨rfl, Z3, T3, z3, f3⟩
    have g3 : S.Ext S3 := g2.frm f3 hz
    have hz3 : ∀ j, Z3 j → S.n ≤ j := fun j hj => (z3 j hj).elim (hz j) (fun h => Nat.le_trans g2.n h)
    have hl3 := moveA_len L xs[i]
    simp (disch := omega) only [go_sem, ↓reduceIte, Nat.reduceEqDiff, Nat.reduceAdd, Nat.reduceMul, Nat.reduceSub, Nat.reduceLT, Nat.reduceLeDiff, Nat.reduceBEq, reduceCtorEq, Int.reduceLT, Int.reduceEq, Int.reduceLE, Int.reduceAdd, Int.reduceSub, Int.reduceToNat, Int.reduceNeg, h0, h4, h5]
    refine ⟨60 - (i + 1), by omega, i + 1, (moveA L xs[i]).2, Z3, ?_⟩
    repeat' first | assumption | omega | (exact St.Ext.refl _) | (exact List.Perm.refl _) | rfl | (exact .inl trivial) | refine And.intro ?_ ?_
  rintro fr S2 ⟨L, Z, h4, T2, hz, g2, hLi⟩
  simp (disch := omega) only [go_sem, ↓reduceIte, Nat.reduceEqDiff, Nat.reduceAdd, Nat.reduceMul, Nat.reduceSub, Nat.reduceLT, Nat.reduceLeDiff, Nat.reduceBEq, reduceCtorEq, Int.reduceLT, Int.reduceEq, Int.reduceLE, Int.reduceAdd, Int.reduceSub, Int.reduceToNat, Int.reduceNeg, h4]
  refine wJ_of (F.movetree_Tree_Blocks_J T2 (by omega)) ?_; rintro vb S3 ⟨hob, e3⟩
  have T3 := T2.ext e3
  have hBm : ∀ d, d ∈ risen ((runS L).map Prod.fst) ↔ (alook d (runS L)).isSome = true := fun d => by rw [(risen_ris _).2, alook_isSome]
  have hBl : (risen ((runS L).map Prod.fst)).length ≤ 60 := by
    have h1 := risen_len ((runS L).map Prod.fst)
    have h2 := runS_len L
    simp at h1
    omega
  generalize risen ((runS L).map Prod.fst) = B at *
  have hsb := hob.sl dotE
  obtain ⟨bb, cb, hv⟩ := hsb.len dotE
  subst hv
  simp (disch := omega) only [go_sem, ↓reduceIte, Nat.reduceEqDiff, Nat.reduceAdd, Nat.reduceMul, Nat.reduceSub, Nat.reduceLT, Nat.reduceLeDiff, Nat.reduceBEq, reduceCtorEq, Int.reduceLT, Int.reduceEq, Int.reduceLE, Int.reduceAdd, Int.reduceSub, Int.reduceToNat, Int.reduceNeg]
  refine wC_loop (fun n fr S4 => ∃ i : Nat, n = B.length - i ∧ i ≤ B.length ∧ fr 4 = ptrV q ∧ fr 6 = .slice bb B.length cb ∧ fr 7 = .int .i64 (i : Nat) ∧ S3.Ext S4) B.length
    ⟨0, by
      simp (disch := omega) only [go_sem, ↓reduceIte, Nat.reduceEqDiff, Nat.reduceAdd, Nat.reduceMul, Nat.reduceSub, Nat.reduceLT, Nat.reduceLeDiff, Nat.reduceBEq, reduceCtorEq, Int.reduceLT, Int.reduceEq, Int.reduceLE, Int.reduceAdd, Int.reduceSub, Int.reduceToNat, Int.reduceNeg]
      repeat' first | assumption | omega | (exact St.Ext.refl _) | (exact List.Perm.refl _) | rfl | (exact .inl trivial) | refine And.intro ?_ ?_
      ⟩ ?_
  rintro n fr S4 ⟨i, rfl, hi, h4, h6, h7, g4⟩
  simp (disch := omega) only [go_sem, ↓reduceIte, Nat.reduceEqDiff, Nat.reduceAdd, Nat.reduceMul, Nat.reduceSub, Nat.reduceLT, Nat.reduceLeDiff, Nat.reduceBEq, reduceCtorEq, Int.reduceLT, Int.reduceEq, Int.reduceLE, Int.reduceAdd, Int.reduceSub, Int.reduceToNat, Int.reduceNeg, F.osierlaw10_TreePaths.l2, h4, h6, h7]
  refine wcond_dec (fun hlt => ?_) (fun hge => ?_)
  rotate_left
  · simp (disch := omega) only [go_sem, ↓reduceIte, Nat.reduceEqDiff, Nat.reduceAdd, Nat.reduceMul, Nat.reduceSub, Nat.reduceLT, Nat.reduceLeDiff, Nat.reduceBEq, reduceCtorEq, Int.reduceLT, Int.reduceEq, Int.reduceLE, Int.reduceAdd, Int.reduceSub, Int.reduceToNat, Int.reduceNeg]
  have hlx : i < B.length := by omega
  have T4 := T3.ext g4
  obtain ⟨b0, o0, rfl, hb0, l0⟩ := (hsb.ext dotE g4).dot hlx
  have c1 : (0 : Int) ≤ (i : Int) ∧ (i : Int) < (B.length : Int) := by omega
  simp (disch := omega) only [go_sem, ↓reduceIte, Nat.reduceEqDiff, Nat.reduceAdd, Nat.reduceMul, Nat.reduceSub, Nat.reduceLT, Nat.reduceLeDiff, Nat.reduceBEq, reduceCtorEq, Int.reduceLT, Int.reduceEq, Int.reduceLE, Int.reduceAdd, Int.reduceSub, Int.reduceToNat, Int.reduceNeg, h4, h6, h7, c1, l0]
  have hsome := (hBm B[i]).1 (List.getElem_mem hlx)
  have hld : ∀ S', S4.Ext S' → S'.loadN ⟨b0, o0 + i * 2, none⟩ 2 = some [.int .i64 B[i].1, .int .i64 B[i].2] := fun S' e => by
    obtain ⟨b1, o1, hbb, -, l1⟩ := (hsb.ext dotE (g4.trans e)).dot hlx
    injection hbb with hbb
    injection hbb with hb1 hb2
    subst hb1 hb2
    exact l1
  generalize B[i] = d at *
  obtain ⟨s, hs⟩ := Option.isSome_iff_exists.1 hsome
  obtain ⟨pl, hp1, hp2, hp3, x, hp4, hp5⟩ := (okS_run L).path_some hs
  refine wJ_of (F.movetree_Tree_Path_T (b := d) T4 (by omega)) ?_; rintro vp S5 ⟨hop, e5⟩
  rw [hp1] at hop
  have hpl : (s.1 :: pl).length ≤ 60 := by
    have h1 := ((okS_run L).pth d).len
    have h2 := runS_len L
    rw [hp1] at h1
    omega
  obtain ⟨P, hP⟩ : ∃ P, P = s.1 :: pl := ⟨_, rfl⟩
  rw [← hP] at hop hp2 hp3 hp4 hpl
  have hPl : 0 < P.length := by rw [hP]; simp
  have hsp := hop.sl dotE
  obtain ⟨bp, cp, hv⟩ := hsp.len dotE
  subst hv
  have hlast : P[P.length - 1]'(by omega) = x := by
    have := List.getLast?_eq_getElem? (l := P)
    rw [hp4, List.getElem?_eq_getElem (by omega)] at this
    exact (Option.some.inj this).symm
  obtain ⟨b2, o2, rfl, hb2, lp⟩ := hsp.dot (i := P.length - 1) (by omega)
  rw [hlast] at lp
  have lp0 : S5.loadN ⟨b2, o2, none⟩ 2 = some [.int .i64 s.1.1, .int .i64 s.1.2] := by
    obtain ⟨b1, o1, hbb, -, l1⟩ := hsp.dot (i := 0) hPl
    injection hbb with hbb
    injection hbb with hb1 hb2
    subst hb1 hb2
    rw [Nat.zero_mul, Nat.add_zero] at l1
    have : P[0] = s.1 := by simp [hP]
    rw [this] at l1
    exact l1
  have z0 : ¬ ((P.length : Int) = 0) := by omega
  have i1 : (P.length : Int) - 1 = ((P.length - 1 : Nat) : Int) := by omega
  have c2 : (0 : Int) ≤ ((P.length - 1 : Nat) : Int) ∧ ((P.length - 1 : Nat) : Int) < (P.length : Int) := by omega
  simp (disch := omega) only [go_sem, ↓reduceIte, Nat.reduceEqDiff, Nat.reduceAdd, Nat.reduceMul, Nat.reduceSub, Nat.reduceLT, Nat.reduceLeDiff, Nat.reduceBEq, reduceCtorEq, Int.reduceLT, Int.reduceEq, Int.reduceLE, Int.reduceAdd, Int.reduceSub, Int.reduceToNat, Int.reduceNeg, z0, i1, c2, lp]
  refine wJ_of F.api_Root_J ?_; rintro _ _ ⟨rfl, rfl⟩
  by_cases hx1 : x = (0, -1)
  · have ex := eqV_d x (0, -1) (decide_eq_true hx1)
    simp (disch := omega) only [go_sem, ↓reduceIte, Nat.reduceEqDiff, Nat.reduceAdd, Nat.reduceMul, Nat.reduceSub, Nat.reduceLT, Nat.reduceLeDiff, Nat.reduceBEq, reduceCtorEq, Int.reduceLT, Int.reduceEq, Int.reduceLE, Int.reduceAdd, Int.reduceSub, Int.reduceToNat, Int.reduceNeg, ex, i1, c2, lp, h4, h6, h7, c1, hld S5 e5]
    refine wJ_of (F.osierref03_In_P hsp (by omega)) ?_; rintro _ _ ⟨rfl, rfl⟩
    have dn : decide (d ∈ P) = false := decide_eq_false hp2
    simp (disch := omega) only [go_sem, ↓reduceIte, Nat.reduceEqDiff, Nat.reduceAdd, Nat.reduceMul, Nat.reduceSub, Nat.reduceLT, Nat.reduceLeDiff, Nat.reduceBEq, reduceCtorEq, Int.reduceLT, Int.reduceEq, Int.reduceLE, Int.reduceAdd, Int.reduceSub, Int.reduceToNat, Int.reduceNeg, dn]
    refine wJ_of (F.osierref03_Rising.J hsp (by omega)) ?_; rintro vr S6 ⟨hor, e6⟩
    obtain ⟨br, cr, hv⟩ := (hor.sl dotE).len dotE
    subst hv
    have hrl := risen_nodup_len hp3
    have g6 := e5.trans e6
    have T6 := T4.ext g6
    simp (disch := omega) only [go_sem, ↓reduceIte, Nat.reduceEqDiff, Nat.reduceAdd, Nat.reduceMul, Nat.reduceSub, Nat.reduceLT, Nat.reduceLeDiff, Nat.reduceBEq, reduceCtorEq, Int.reduceLT, Int.reduceEq, Int.reduceLE, Int.reduceAdd, Int.reduceSub, Int.reduceToNat, Int.reduceNeg, hrl, h4, h6, h7, c1, hld S6 g6]
    refine wJ_of (F.movetree_Tree_Parent_J (d := d) T6) ?_; rintro _ _ ⟨rfl, rfl⟩
    simp (disch := omega) only [go_sem, ↓reduceIte, Nat.reduceEqDiff, Nat.reduceAdd, Nat.reduceMul, Nat.reduceSub, Nat.reduceLT, Nat.reduceLeDiff, Nat.reduceBEq, reduceCtorEq, Int.reduceLT, Int.reduceEq, Int.reduceLE, Int.reduceAdd, Int.reduceSub, Int.reduceToNat, Int.reduceNeg, hs, Option.getD_some, Option.isSome_some]
    refine walloc_x [.int .i64 0, .int .i64 0] fun y S7 e7 oy hy hyn => ?_
    simp (disch := omega) only [go_sem, ↓reduceIte, Nat.reduceEqDiff, Nat.reduceAdd, Nat.reduceMul, Nat.reduceSub, Nat.reduceLT, Nat.reduceLeDiff, Nat.reduceBEq, reduceCtorEq, Int.reduceLT, Int.reduceEq, Int.reduceLE, Int.reduceAdd, Int.reduceSub, Int.reduceToNat, Int.reduceNeg]
    refine wst_w [.int .i64 s.1.1, .int .i64 s.1.2] oy rfl rfl (by simp) (by simp) rfl fun S8 oy8 b8 hy8 => ?_
    have k8 : S6.Ext S8 := e7.but b8 fun j hj => by simp [blkOf] at hj; omega
    have g8 := g6.trans k8
    have T8 := T4.ext g8
    have ly8 := cells2 oy8
    simp (disch := omega) only [go_sem, ↓reduceIte, Nat.reduceEqDiff, Nat.reduceAdd, Nat.reduceMul, Nat.reduceSub, Nat.reduceLT, Nat.reduceLeDiff, Nat.reduceBEq, reduceCtorEq, Int.reduceLT, Int.reduceEq, Int.reduceLE, Int.reduceAdd, Int.reduceSub, Int.reduceToNat, Int.reduceNeg, ly8, h4]
    refine wJ_of (F.movetree_Tree_Kids_J (p := s.1) T8 (by omega)) ?_; rintro vk S9 ⟨⟨K, hK, hok⟩, e9⟩
    have hsk := hok.sl dotE
    obtain ⟨bk, ck, hv⟩ := hsk.len dotE
    subst hv
    have g9 := g8.trans e9
    have hcount := hK.once hs rfl
    have hKl : K.length ≤ 60 := by
      have hn : K.Nodup := hK.rises.imp fun {x y} (h : kltP (runS L) x y) (e : x = y) => kltP_irrefl (runS L) x (by rw [← e] at h; exact h)
      have hsub : K ⊆ (runS L).map Prod.fst := fun z hz => by
        obtain ⟨s', h1, -⟩ := (hK.mem z).1 hz
        exact alook_isSome.1 (by rw [h1]; rfl)
      have h1 := hn.length_le_of_subset hsub
      have h2 := runS_len L
      simp at h1
      omega
    have ly9 := cells2 ((e9.obj y hy8).trans oy8)
    have lp9 : S9.loadN ⟨b2, o2, none⟩ 2 = some [.int .i64 s.1.1, .int .i64 s.1.2] := by
      rw [((e6.trans k8).trans e9).loadN hb2]
      exact lp0
    have ld9 := hld S9 g9
    simp (disch := omega) only [go_sem, ↓reduceIte, Nat.reduceEqDiff, Nat.reduceAdd, Nat.reduceMul, Nat.reduceSub, Nat.reduceLT, Nat.reduceLeDiff, Nat.reduceBEq, reduceCtorEq, Int.reduceLT, Int.reduceEq, Int.reduceLE, Int.reduceAdd, Int.reduceSub, Int.reduceToNat, Int.reduceNeg]
    refine wC_at 4 (fun fr S10 => S10 = S9 ∧ fr 4 = ptrV q ∧ fr 6 = .slice (some ⟨b0, o0, none⟩) B.length cb ∧ fr 7 = .int .i64 (i : Nat) ∧ fr 8 = .slice (some ⟨b2, o2, none⟩) P.length cp ∧ fr 10 = ptrV y ∧ fr 12 = .bool true ∧ fr 14 = .int .i64 (1 : Nat)) ?_ ?_
    · refine wC_loop (fun n fr S10 => ∃ j : Nat, n = K.length - j ∧ j ≤ K.length ∧ S10 = S9 ∧ fr 4 = ptrV q ∧ fr 6 = .slice (some ⟨b0, o0, none⟩) B.length cb ∧ fr 7 = .int .i64 (i : Nat) ∧ fr 8 = .slice (some ⟨b2, o2, none⟩) P.length cp ∧ fr 10 = ptrV y ∧ fr 12 = .bool true ∧ fr 13 = .slice bk K.length ck ∧
          fr 14 = .int .i64 ((K.take j).count d : Nat) ∧ fr 15 = .int .i64 (j : Nat)) K.length
        ⟨0, by
          simp (disch := omega) only [go_sem, ↓reduceIte, Nat.reduceEqDiff, Nat.reduceAdd, Nat.reduceMul, Nat.reduceSub, Nat.reduceLT, Nat.reduceLeDiff, Nat.reduceBEq, reduceCtorEq, Int.reduceLT, Int.reduceEq, Int.reduceLE, Int.reduceAdd, Int.reduceSub, Int.reduceToNat, Int.reduceNeg]
          repeat' first | assumption | omega | (exact St.Ext.refl _) | (exact List.Perm.refl _) | rfl | (exact .inl trivial) | refine And.intro ?_ ?_
          ⟩ ?_
      rintro n fr S10 ⟨j, rfl, hj, rfl, k4, k6, k7, k8', k10, k12, k13, k14, k15⟩
      simp (disch := omega) only [go_sem, ↓reduceIte, Nat.reduceEqDiff, Nat.reduceAdd, Nat.reduceMul, Nat.reduceSub, Nat.reduceLT, Nat.reduceLeDiff, Nat.reduceBEq, reduceCtorEq, Int.reduceLT, Int.reduceEq, Int.reduceLE, Int.reduceAdd, Int.reduceSub, Int.reduceToNat, Int.reduceNeg, F.osierlaw10_TreePaths.l1, k4, k6, k7, k8', k10, k12, k13, k14, k15]
      refine wcond_dec (fun hlj => ?_) (fun hgj => ?_)
      · have hlk : j < K.length := by omega
        obtain ⟨b3, o3, rfl, hb3, lk⟩ := hsk.dot hlk
        have c3 : (0 : Int) ≤ (j : Int) ∧ (j : Int) < (K.length : Int) := by omega
        have eq := eqV_dot K[j] d
        have hct : (K.take (j + 1)).count d = (K.take j).count d + (if K[j] = d then 1 else 0) := by
          rw [take_snoc (List.getElem?_eq_getElem hlk), List.count_append, List.count_singleton]
          simp
        have hcl : (K.take j).count d ≤ K.length := Nat.le_trans List.count_le_length (by rw [List.length_take]; omega)
        simp (disch := omega) only [go_sem, ↓reduceIte, Nat.reduceEqDiff, Nat.reduceAdd, Nat.reduceMul, Nat.reduceSub, Nat.reduceLT, Nat.reduceLeDiff, Nat.reduceBEq, reduceCtorEq, Int.reduceLT, Int.reduceEq, Int.reduceLE, Int.reduceAdd, Int.reduceSub, Int.reduceToNat, Int.reduceNeg, k4, k6, k7, k8', k10, k12, k13, k14, k15, c1, c3, lk, ld9, eq]
        refine wcond_dec (fun hq => ?_) (fun hq => ?_)
        · rw [if_pos hq] at hct
          simp (disch := omega) only [go_sem, ↓reduceIte, Nat.reduceEqDiff, Nat.reduceAdd, Nat.reduceMul, Nat.reduceSub, Nat.reduceLT, Nat.reduceLeDiff, Nat.reduceBEq, reduceCtorEq, Int.reduceLT, Int.reduceEq, Int.reduceLE, Int.reduceAdd, Int.reduceSub, Int.reduceToNat, Int.reduceNeg, k4, k6, k7, k8', k10, k12, k13, k14, k15]
          have hct' : ((K.take j).count d : Int) + 1 = ((K.take (j + 1)).count d : Nat) := by rw [hct]; rfl
          rw [hct']
          refine ⟨K.length - (j + 1), by omega, j + 1, ?_⟩
          repeat' first | assumption | omega | (exact St.Ext.refl _) | (exact List.Perm.refl _) | rfl | (exact .inl trivial) | refine And.intro ?_ ?_
        · have hct2 : (K.take j).count d = (K.take (j + 1)).count d := by rw [hct, if_neg hq]; rfl
          rw [hct2] at k14
          simp (disch := omega) only [go_sem, ↓reduceIte, Nat.reduceEqDiff, Nat.reduceAdd, Nat.reduceMul, Nat.reduceSub, Nat.reduceLT, Nat.reduceLeDiff, Nat.reduceBEq, reduceCtorEq, Int.reduceLT, Int.reduceEq, Int.reduceLE, Int.reduceAdd, Int.reduceSub, Int.reduceToNat, Int.reduceNeg, k4, k6, k7, k8', k10, k12, k13, k14, k15]
          refine ⟨K.length - (j + 1), by omega, j + 1, ?_⟩
          repeat' first | assumption | omega | (exact St.Ext.refl _) | (exact List.Perm.refl _) | rfl | (exact .inl trivial) | refine And.intro ?_ ?_
      · rw [List.take_of_length_le (by omega), hcount] at k14
        simp (disch := omega) only [go_sem, ↓reduceIte, Nat.reduceEqDiff, Nat.reduceAdd, Nat.reduceMul, Nat.reduceSub, Nat.reduceLT, Nat.reduceLeDiff, Nat.reduceBEq, reduceCtorEq, Int.reduceLT, Int.reduceEq, Int.reduceLE, Int.reduceAdd, Int.reduceSub, Int.reduceToNat, Int.reduceNeg, k4, k6, k7, k8', k10, k12, k14]
        repeat' first | assumption | omega | (exact St.Ext.refl _) | (exact List.Perm.refl _) | rfl | (exact .inl trivial) | refine And.intro ?_ ?_
    rintro fr S10 ⟨rfl, k4, k6, k7, k8', k10, k12, k14⟩
    have c4 : (0 : Int) < (P.length : Int) := by omega
    have epp := eqV_d s.1 s.1 (t := true) (by simp)
    simp (disch := omega) only [go_sem, ↓reduceIte, Nat.reduceEqDiff, Nat.reduceAdd, Nat.reduceMul, Nat.reduceSub, Nat.reduceLT, Nat.reduceLeDiff, Nat.reduceBEq, reduceCtorEq, Int.reduceLT, Int.reduceEq, Int.reduceLE, Int.reduceAdd, Int.reduceSub, Int.reduceToNat, Int.reduceNeg, k4, k6, k7, k8', k10, k12, k14, ly9, lp9, epp, c4]
    refine ⟨B.length - (i + 1), by omega, i + 1, ?_⟩
    have g3' := g4.trans g9
    repeat' first | assumption | omega | (exact St.Ext.refl _) | (exact List.Perm.refl _) | rfl | (exact .inl trivial) | refine And.intro ?_ ?_
  · have hx2 : x = (0, -2) := hp5.resolve_left hx1
    have ex := eqV_d x (0, -1) (decide_eq_false hx1)
    simp (disch := omega) only [go_sem, ↓reduceIte, Nat.reduceEqDiff, Nat.reduceAdd, Nat.reduceMul, Nat.reduceSub, Nat.reduceLT, Nat.reduceLeDiff, Nat.reduceBEq, reduceCtorEq, Int.reduceLT, Int.reduceEq, Int.reduceLE, Int.reduceAdd, Int.reduceSub, Int.reduceToNat, Int.reduceNeg, ex, i1, c2, lp]
    refine wJ_of F.api_Trash_J ?_; rintro _ _ ⟨rfl, rfl⟩
    have ex2 := eqV_d x (0, -2) (decide_eq_true hx2)
    simp (disch := omega) only [go_sem, ↓reduceIte, Nat.reduceEqDiff, Nat.reduceAdd, Nat.reduceMul, Nat.reduceSub, Nat.reduceLT, Nat.reduceLeDiff, Nat.reduceBEq, reduceCtorEq, Int.reduceLT, Int.reduceEq, Int.reduceLE, Int.reduceAdd, Int.reduceSub, Int.reduceToNat, Int.reduceNeg, ex2, i1, c2, lp, h4, h6, h7, c1, hld S5 e5]
    refine wJ_of (F.osierref03_In_P hsp (by omega)) ?_; rintro _ _ ⟨rfl, rfl⟩
    have dn : decide (d ∈ P) = false := decide_eq_false hp2
    simp (disch := omega) only [go_sem, ↓reduceIte, Nat.reduceEqDiff, Nat.reduceAdd, Nat.reduceMul, Nat.reduceSub, Nat.reduceLT, Nat.reduceLeDiff, Nat.reduceBEq, reduceCtorEq, Int.reduceLT, Int.reduceEq, Int.reduceLE, Int.reduceAdd, Int.reduceSub, Int.reduceToNat, Int.reduceNeg, dn]
    refine wJ_of (F.osierref03_Rising.J hsp (by omega)) ?_; rintro vr S6 ⟨hor, e6⟩
    obtain ⟨br, cr, hv⟩ := (hor.sl dotE).len dotE
    subst hv
    have hrl := risen_nodup_len hp3
    have g6 := e5.trans e6
    have T6 := T4.ext g6
    simp (disch := omega) only [go_sem, ↓reduceIte, Nat.reduceEqDiff, Nat.reduceAdd, Nat.reduceMul, Nat.reduceSub, Nat.reduceLT, Nat.reduceLeDiff, Nat.reduceBEq, reduceCtorEq, Int.reduceLT, Int.reduceEq, Int.reduceLE, Int.reduceAdd, Int.reduceSub, Int.reduceToNat, Int.reduceNeg, hrl, h4, h6, h7, c1, hld S6 g6]
    refine wJ_of (F.movetree_Tree_Parent_J (d := d) T6) ?_; rintro _ _ ⟨rfl, rfl⟩
    simp (disch := omega) only [go_sem, ↓reduceIte, Nat.reduceEqDiff, Nat.reduceAdd, Nat.reduceMul, Nat.reduceSub, Nat.reduceLT, Nat.reduceLeDiff, Nat.reduceBEq, reduceCtorEq, Int.reduceLT, Int.reduceEq, Int.reduceLE, Int.reduceAdd, Int.reduceSub, Int.reduceToNat, Int.reduceNeg, hs, Option.getD_some, Option.isSome_some]
    refine walloc_x [.int .i64 0, .int .i64 0] fun y S7 e7 oy hy hyn => ?_
    simp (disch := omega) only [go_sem, ↓reduceIte, Nat.reduceEqDiff, Nat.reduceAdd, Nat.reduceMul, Nat.reduceSub, Nat.reduceLT, Nat.reduceLeDiff, Nat.reduceBEq, reduceCtorEq, Int.reduceLT, Int.reduceEq, Int.reduceLE, Int.reduceAdd, Int.reduceSub, Int.reduceToNat, Int.reduceNeg]
    refine wst_w [.int .i64 s.1.1, .int .i64 s.1.2] oy rfl rfl (by simp) (by simp) rfl fun S8 oy8 b8 hy8 => ?_
    have k8 : S6.Ext S8 := e7.but b8 fun j hj => by simp [blkOf] at hj; omega
    have g8 := g6.trans k8
    have T8 := T4.ext g8
    have ly8 := cells2 oy8
    simp (disch := omega) only [go_sem, ↓reduceIte, Nat.reduceEqDiff, Nat.reduceAdd, Nat.reduceMul, Nat.reduceSub, Nat.reduceLT, Nat.reduceLeDiff, Nat.reduceBEq, reduceCtorEq, Int.reduceLT, Int.reduceEq, Int.reduceLE, Int.reduceAdd, Int.reduceSub, Int.reduceToNat, Int.reduceNeg, ly8, h4]
    refine wJ_of (F.movetree_Tree_Kids_J (p := s.1) T8 (by omega)) ?_; rintro vk S9 ⟨⟨K, hK, hok⟩, e9⟩
    have hsk := hok.sl dotE
    obtain ⟨bk, ck, hv⟩ := hsk.len dotE
    subst hv
    have g9 := g8.trans e9
    have hcount := hK.once hs rfl
    have hKl : K.length ≤ 60 := by
      have hn : K.Nodup := hK.rises.imp fun {x y} (h : kltP (runS L) x y) (e : x = y) => kltP_irrefl (runS L) x (by rw [← e] at h; exact h)
      have hsub : K ⊆ (runS L).map Prod.fst := fun z hz => by
        obtain ⟨s', h1, -⟩ := (hK.mem z).1 hz
        exact alook_isSome.1 (by rw [h1]; rfl)
      have h1 := hn.length_le_of_subset hsub
      have h2 := runS_len L
      simp at h1
      omega
    have ly9 := cells2 ((e9.obj y hy8).trans oy8)
    have lp9 : S9.loadN ⟨b2, o2, none⟩ 2 = some [.int .i64 s.1.1, .int .i64 s.1.2] := by
      rw [((e6.trans k8).trans e9).loadN hb2]
      exact lp0
    have ld9 := hld S9 g9
    simp (disch := omega) only [go_sem, ↓reduceIte, Nat.reduceEqDiff, Nat.reduceAdd, Nat.reduceMul, Nat.reduceSub, Nat.reduceLT, Nat.reduceLeDiff, Nat.reduceBEq, reduceCtorEq, Int.reduceLT, Int.reduceEq, Int.reduceLE, Int.reduceAdd, Int.reduceSub, Int.reduceToNat, Int.reduceNeg]
    refine wC_at 4 (fun fr S10 => S10 = S9 ∧ fr 4 = ptrV q ∧ fr 6 = .slice (some ⟨b0, o0, none⟩) B.length cb ∧ fr 7 = .int .i64 (i : Nat) ∧ fr 8 = .slice (some ⟨b2, o2, none⟩) P.length cp ∧ fr 10 = ptrV y ∧ fr 12 = .bool true ∧ fr 14 = .int .i64 (1 : Nat)) ?_ ?_
    · refine wC_loop (fun n fr S10 => ∃ j : Nat, n = K.length - j ∧ j ≤ K.length ∧ S10 = S9 ∧ fr 4 = ptrV q ∧ fr 6 = .slice (some ⟨b0, o0, none⟩) B.length cb ∧ fr 7 = .int .i64 (i : Nat) ∧ fr 8 = .slice (some ⟨b2, o2, none⟩) P.length cp ∧ fr 10 = ptrV y ∧ fr 12 = .bool true ∧ fr 13 = .slice bk K.length ck ∧
          fr 14 = .int .i64 ((K.take j).count d : Nat) ∧ fr 15 = .int .i64 (j : Nat)) K.length
        ⟨0, by
          simp (disch := omega) only [go_sem, ↓reduceIte, Nat.reduceEqDiff, Nat.reduceAdd, Nat.reduceMul, Nat.reduceSub, Nat.reduceLT, Nat.reduceLeDiff, Nat.reduceBEq, reduceCtorEq, Int.reduceLT, Int.reduceEq, Int.reduceLE, Int.reduceAdd, Int.reduceSub, Int.reduceToNat, Int.reduceNeg]
          repeat' first | assumption | omega | (exact St.Ext.refl _) | (exact List.Perm.refl _) | rfl | (exact .inl trivial) | refine And.intro ?_ ?_
          ⟩ ?_
      rintro n fr S10 ⟨j, rfl, hj, rfl, k4, k6, k7, k8', k10, k12, k13, k14, k15⟩
      simp (disch := omega) only [go_sem, ↓reduceIte, Nat.reduceEqDiff, Nat.reduceAdd, Nat.reduceMul, Nat.reduceSub, Nat.reduceLT, Nat.reduceLeDiff, Nat.reduceBEq, reduceCtorEq, Int.reduceLT, Int.reduceEq, Int.reduceLE, Int.reduceAdd, Int.reduceSub, Int.reduceToNat, Int.reduceNeg, F.osierlaw10_TreePaths.l1, k4, k6, k7, k8', k10, k12, k13, k14, k15]
      refine wcond_dec (fun hlj => ?_) (fun hgj => ?_)
      · have hlk : j < K.length := by omega
        obtain ⟨b3, o3, rfl, hb3, lk⟩ := hsk.dot hlk
        have c3 : (0 : Int) ≤ (j : Int) ∧ (j : Int) < (K.length : Int) := by omega
        have eq := eqV_dot K[j] d
        have hct : (K.take (j + 1)).count d = (K.take j).count d + (if K[j] = d then 1 else 0) := by
          rw [take_snoc (List.getElem?_eq_getElem hlk), List.count_append, List.count_singleton]
          simp
        have hcl : (K.take j).count d ≤ K.length := Nat.le_trans List.count_le_length (by rw [List.length_take]; omega)
        simp (disch := omega) only [go_sem, ↓reduceIte, Nat.reduceEqDiff, Nat.reduceAdd, Nat.reduceMul, Nat.reduceSub, Nat.reduceLT, Nat.reduceLeDiff, Nat.reduceBEq, reduceCtorEq, Int.reduceLT, Int.reduceEq, Int.reduceLE, Int.reduceAdd, Int.reduceSub, Int.reduceToNat, Int.reduceNeg, k4, k6, k7, k8', k10, k12, k13, k14, k15, c1, c3, lk, ld9, eq]
        refine wcond_dec (fun hq => ?_) (fun hq => ?_)
        · rw [if_pos hq] at hct
          simp (disch := omega) only [go_sem, ↓reduceIte, Nat.reduceEqDiff, Nat.reduceAdd, Nat.reduceMul, Nat.reduceSub, Nat.reduceLT, Nat.reduceLeDiff, Nat.reduceBEq, reduceCtorEq, Int.reduceLT, Int.reduceEq, Int.reduceLE, Int.reduceAdd, Int.reduceSub, Int.reduceToNat, Int.reduceNeg, k4, k6, k7, k8', k10, k12, k13, k14, k15]
          have hct' : ((K.take j).count d : Int) + 1 = ((K.take (j + 1)).count d : Nat) := by rw [hct]; rfl
          rw [hct']
          refine ⟨K.length - (j + 1), by omega, j + 1, ?_⟩
          repeat' first | assumption | omega | (exact St.Ext.refl _) | (exact List.Perm.refl _) | rfl | (exact .inl trivial) | refine And.intro ?_ ?_
        · have hct2 : (K.take j).count d = (K.take (j + 1)).count d := by rw [hct, if_neg hq]; rfl
          rw [hct2] at k14
          simp (disch := omega) only [go_sem, ↓reduceIte, Nat.reduceEqDiff, Nat.reduceAdd, Nat.reduceMul, Nat.reduceSub, Nat.reduceLT, Nat.reduceLeDiff, Nat.reduceBEq, reduceCtorEq, Int.reduceLT, Int.reduceEq, Int.reduceLE, Int.reduceAdd, Int.reduceSub, Int.reduceToNat, Int.reduceNeg, k4, k6, k7, k8', k10, k12, k13, k14, k15]
          refine ⟨K.length - (j + 1), by omega, j + 1, ?_⟩
          repeat' first | assumption | omega | (exact St.Ext.refl _) | (exact List.Perm.refl _) | rfl | (exact .inl trivial) | refine And.intro ?_ ?_
      · rw [List.take_of_length_le (by omega), hcount] at k14
        simp (disch := omega) only [go_sem, ↓reduceIte, Nat.reduceEqDiff, Nat.reduceAdd, Nat.reduceMul, Nat.reduceSub, Nat.reduceLT, Nat.reduceLeDiff, Nat.reduceBEq, reduceCtorEq, Int.reduceLT, Int.reduceEq, Int.reduceLE, Int.reduceAdd, Int.reduceSub, Int.reduceToNat, Int.reduceNeg, k4, k6, k7, k8', k10, k12, k14]
        repeat' first | assumption | omega | (exact St.Ext.refl _) | (exact List.Perm.refl _) | rfl | (exact .inl trivial) | refine And.intro ?_ ?_
    rintro fr S10 ⟨rfl, k4, k6, k7, k8', k10, k12, k14⟩
    have c4 : (0 : Int) < (P.length : Int) := by omega
    have epp := eqV_d s.1 s.1 (t := true) (by simp)
    simp (disch := omega) only [go_sem, ↓reduceIte, Nat.reduceEqDiff, Nat.reduceAdd, Nat.reduceMul, Nat.reduceSub, Nat.reduceLT, Nat.reduceLeDiff, Nat.reduceBEq, reduceCtorEq, Int.reduceLT, Int.reduceEq, Int.reduceLE, Int.reduceAdd, Int.reduceSub, Int.reduceToNat, Int.reduceNeg, k4, k6, k7, k8', k10, k12, k14, ly9, lp9, epp, c4]
    refine ⟨B.length - (i + 1), by omega, i + 1, ?_⟩
    have g3' := g4.trans g9
    repeat' first | assumption | omega | (exact St.Ext.refl _) | (exact List.Perm.refl _) | rfl | (exact .inl trivial) | refine And.intro ?_ ?_
end Go.Osj
