/- Trees of blocks: made, looked at. -/
import Derived.Test.YtdabompehgancaaX
import Derived.Test.YtdabompehgancaaW
set_option linter.unusedVariables false
set_option linter.unusedSimpArgs false
set_option maxHeartbeats 1000000
namespace Go.Osj
/-- a function value of one element that only looks -/
def FunE {α : Type} (E : Enc α) (S : St) (f : Value) (xs : List α) (p : α → Bool) : Prop :=
  ∃ g first captured, f = .func (.func g) first captured ∧ callable PR g = true ∧ ∀ x ∈ xs, J PR g (first.toList ++ [.agg (E.enc x).toArray] ++ captured.toList) S fun v S' => v = .bool (p x) ∧ S = S'
theorem FunE.call {α : Type} {E : Enc α} {S : St} {f : Value} {xs : List α} {p : α → Bool} (h : FunE E S f xs p) {x : α} (hx : x ∈ xs) {k : KV} (hk : k.run (.bool (p x)) S) : @wcallv PR f [.agg (E.enc x).toArray] S k := by
  obtain ⟨g, first, captured, rfl, hc, hj⟩ := h
  exact ⟨hc, (hj x hx).mono fun v S' ⟨h1, h2⟩ => by subst h1 h2; exact hk⟩
theorem walloc_x {S : St} {k : KV} (cs : List Value) (hk : ∀ x S1, S.Ext S1 → S1.obj x = some (.cells true cs.length cs) → x < S1.n → S.n ≤ x → k.run (ptrV x) S1) :
    @wfresh S.n ⟨fun b => k.run (.pointer (some ⟨b, 0, none⟩)) (S.put b (.cells true cs.length cs))⟩ :=
  wfresh_of fun b hb => hk b _ ((St.Ext.refl S).put hb _) (St.put_same _ _ _) (St.lt_put_self _ _ _) hb
theorem cells2 {S : St} {x : Nat} {rw : Bool} {cap : Nat} {a b : Value} (h : S.obj x = some (.cells rw cap [a, b])) : S.loadN ⟨x, 0, none⟩ 2 = some [a, b] := by rw [St.loadN_def, h]; rfl
theorem F.slices_IndexFunc_s_movetree_entry_movetree_entry_J {S : St} {l f : Value} {xs : List En} {p : En → Bool} (hl : SlT enE S l xs) (hf : FunE enE S f xs p) (hL : xs.length < 9223372036854775808) :
    J PR F.slices_IndexFunc_s_movetree_entry_movetree_entry [l, f] S fun v S' => (∃ i : Int, v = .int .i64 i ∧ (0 ≤ i ↔ xs.any p = true)) ∧ S = S' := by
  obtain ⟨base, cap, rfl⟩ := hl.len enE
  refine J_by PR.mixed F.slices_IndexFunc_s_movetree_entry_movetree_entry.ok (by simp) ?_
  simp (disch := omega) only [go_sem, ↓reduceIte, Nat.reduceEqDiff, Nat.reduceAdd, Nat.reduceMul, Nat.reduceSub, Nat.reduceLT, Nat.reduceLeDiff, Nat.reduceBEq, reduceCtorEq, Int.reduceLT, Int.reduceEq, Int.reduceLE, Int.reduceAdd, Int.reduceSub, Int.reduceToNat, Int.reduceNeg]
  refine wC_loop (fun n fr S' => ∃ i, n = xs.length - i ∧ i ≤ xs.length ∧ S' = S ∧ fr 0 = .slice base xs.length cap ∧ fr 1 = f ∧ fr 7 = .int .i64 xs.length ∧ fr 8 = .int .i64 (i : Nat) ∧ ∀ x ∈ xs.take i, p x = false) xs.length ⟨0, by simp (disch := omega) only [go_sem, ↓reduceIte, Nat.reduceEqDiff, Nat.reduceAdd, Nat.reduceMul, Nat.reduceSub, Nat.reduceLT, Nat.reduceLeDiff, Nat.reduceBEq, reduceCtorEq, Int.reduceLT, Int.reduceEq, Int.reduceLE, Int.reduceAdd, Int.reduceSub, Int.reduceToNat, Int.reduceNeg]; simp⟩ ?_
  rintro n fr S' ⟨i, rfl, hi, rfl, h0, h1, h7, h8, hn⟩
  simp (disch := omega) only [go_sem, ↓reduceIte, Nat.reduceEqDiff, Nat.reduceAdd, Nat.reduceMul, Nat.reduceSub, Nat.reduceLT, Nat.reduceLeDiff, Nat.reduceBEq, reduceCtorEq, Int.reduceLT, Int.reduceEq, Int.reduceLE, Int.reduceAdd, Int.reduceSub, Int.reduceToNat, Int.reduceNeg, F.slices_IndexFunc_s_movetree_entry_movetree_entry.l0, h0, h1, h7, h8]
  refine wcond_dec (fun hlt => ?_) (fun hge => ?_)
  · have hlx : i < xs.length := by omega
    obtain ⟨b, off, rfl, hb, hx, -⟩ := hl.at enE (i := i) (x := xs[i]) (by simp)
    replace hx : S'.loadN ⟨b, off + i * 13, none⟩ 13 = some (enC xs[i]) := hx
    have c1 : (0 : Int) ≤ (i : Int) ∧ (i : Int) < (xs.length : Int) := by omega
    simp (disch := omega) only [go_sem, ↓reduceIte, Nat.reduceEqDiff, Nat.reduceAdd, Nat.reduceMul, Nat.reduceSub, Nat.reduceLT, Nat.reduceLeDiff, Nat.reduceBEq, reduceCtorEq, Int.reduceLT, Int.reduceEq, Int.reduceLE, Int.reduceAdd, Int.reduceSub, Int.reduceToNat, Int.reduceNeg, h0, h1, h7, h8, c1, hx]
    refine hf.call (x := xs[i]) (List.getElem_mem _) ?_
    simp (disch := omega) only [go_sem, ↓reduceIte, Nat.reduceEqDiff, Nat.reduceAdd, Nat.reduceMul, Nat.reduceSub, Nat.reduceLT, Nat.reduceLeDiff, Nat.reduceBEq, reduceCtorEq, Int.reduceLT, Int.reduceEq, Int.reduceLE, Int.reduceAdd, Int.reduceSub, Int.reduceToNat, Int.reduceNeg]
    refine wcond_of (fun hq => ?_) (fun hq => ?_)
    · simp (disch := omega) only [go_sem, ↓reduceIte, Nat.reduceEqDiff, Nat.reduceAdd, Nat.reduceMul, Nat.reduceSub, Nat.reduceLT, Nat.reduceLeDiff, Nat.reduceBEq, reduceCtorEq, Int.reduceLT, Int.reduceEq, Int.reduceLE, Int.reduceAdd, Int.reduceSub, Int.reduceToNat, Int.reduceNeg, h8]
      exact ⟨_, rfl, by simp only [Int.natCast_nonneg, true_iff]; exact List.any_eq_true.2 ⟨_, List.getElem_mem _, hq⟩⟩
    · simp (disch := omega) only [go_sem, ↓reduceIte, Nat.reduceEqDiff, Nat.reduceAdd, Nat.reduceMul, Nat.reduceSub, Nat.reduceLT, Nat.reduceLeDiff, Nat.reduceBEq, reduceCtorEq, Int.reduceLT, Int.reduceEq, Int.reduceLE, Int.reduceAdd, Int.reduceSub, Int.reduceToNat, Int.reduceNeg, h0, h1, h7, h8]
      refine ⟨xs.length - (i + 1), by omega, i + 1, rfl, by omega, rfl, ?_⟩
      rw [take_snoc (List.getElem?_eq_getElem hlx)]
      intro x hx
      rcases List.mem_append.1 hx with hx | hx
      · exact hn x hx
      · simp at hx; subst hx; exact hq
  · simp (disch := omega) only [go_sem, ↓reduceIte, Nat.reduceEqDiff, Nat.reduceAdd, Nat.reduceMul, Nat.reduceSub, Nat.reduceLT, Nat.reduceLeDiff, Nat.reduceBEq, reduceCtorEq, Int.reduceLT, Int.reduceEq, Int.reduceLE, Int.reduceAdd, Int.reduceSub, Int.reduceToNat, Int.reduceNeg]
    rw [List.take_of_length_le (by omega)] at hn
    refine ⟨_, rfl, ?_⟩
    have : xs.any p = false := by rw [List.any_eq_false]; intro x hx; simp [hn x hx]
    rw [this]
    simp
theorem F.slices_ContainsFunc_s_movetree_entry_movetree_entry_J {S : St} {l f : Value} {xs : List En} {p : En → Bool} (hl : SlT enE S l xs) (hf : FunE enE S f xs p) (hL : xs.length < 9223372036854775808) :
    J PR F.slices_ContainsFunc_s_movetree_entry_movetree_entry [l, f] S fun v S' => v = .bool (xs.any p) ∧ S = S' := by
  refine J_by PR.mixed F.slices_ContainsFunc_s_movetree_entry_movetree_entry.ok (by simp) ?_
  simp (disch := omega) only [go_sem, ↓reduceIte, Nat.reduceEqDiff, Nat.reduceAdd, Nat.reduceMul, Nat.reduceSub, Nat.reduceLT, Nat.reduceLeDiff, Nat.reduceBEq, reduceCtorEq, Int.reduceLT, Int.reduceEq, Int.reduceLE, Int.reduceAdd, Int.reduceSub, Int.reduceToNat, Int.reduceNeg]
  refine wJ_of (F.slices_IndexFunc_s_movetree_entry_movetree_entry_J hl hf hL) ?_; rintro _ _ ⟨⟨i, rfl, hi⟩, rfl⟩
  simp (disch := omega) only [go_sem, ↓reduceIte, Nat.reduceEqDiff, Nat.reduceAdd, Nat.reduceMul, Nat.reduceSub, Nat.reduceLT, Nat.reduceLeDiff, Nat.reduceBEq, reduceCtorEq, Int.reduceLT, Int.reduceEq, Int.reduceLE, Int.reduceAdd, Int.reduceSub, Int.reduceToNat, Int.reduceNeg]
  congr 1
  rw [Bool.eq_iff_iff, decide_eq_true_eq]
  exact hi
instance (L : List Mv) (d : Dot) : Decidable (tookP L d) := inferInstanceAs (Decidable (∃ e ∈ runL L, _))
theorem F.movetree_Tree_Took_c1_J {S : St} {q : Nat} {d : Dot} {e : En} (hq : S.loadN ⟨q, 0, none⟩ 2 = some [.int .i64 d.1, .int .i64 d.2]) (hqn : q < S.n) : J PR F.movetree_Tree_Took_c1 [.agg (enC e).toArray, ptrV q] S fun v S' => v = .bool (decide (e.mv.id = d) && e.took) ∧ S = S' := by
  refine J.back (J_by PR.mixed F.movetree_Tree_Took_c1.ok (by simp) ?_)
  simp (disch := omega) only [go_sem, ↓reduceIte, Nat.reduceEqDiff, Nat.reduceAdd, Nat.reduceMul, Nat.reduceSub, Nat.reduceLT, Nat.reduceLeDiff, Nat.reduceBEq, reduceCtorEq, Int.reduceLT, Int.reduceEq, Int.reduceLE, Int.reduceAdd, Int.reduceSub, Int.reduceToNat, Int.reduceNeg]
  refine wfresh_of fun x hx => ?_
  have he := (St.Ext.refl S).put hx (.cells true 13 (enC e))
  have hb : enB (S.put x (.cells true 13 (enC e))) x e := ⟨St.lt_put_self _ _ _, St.put_same _ _ _⟩
  have c := hb.c
  have eq := eqV_dot e.mv.id d
  simp (disch := omega) only [go_sem, ↓reduceIte, Nat.reduceEqDiff, Nat.reduceAdd, Nat.reduceMul, Nat.reduceSub, Nat.reduceLT, Nat.reduceLeDiff, Nat.reduceBEq, reduceCtorEq, Int.reduceLT, Int.reduceEq, Int.reduceLE, Int.reduceAdd, Int.reduceSub, Int.reduceToNat, Int.reduceNeg, c, hq, eq, enC_len]
  refine wguard_dec (fun h1 => ?_) (fun h1 => ?_)
  · simp (disch := omega) only [go_sem, ↓reduceIte, Nat.reduceEqDiff, Nat.reduceAdd, Nat.reduceMul, Nat.reduceSub, Nat.reduceLT, Nat.reduceLeDiff, Nat.reduceBEq, reduceCtorEq, Int.reduceLT, Int.reduceEq, Int.reduceLE, Int.reduceAdd, Int.reduceSub, Int.reduceToNat, Int.reduceNeg, c, h1]
    exact ⟨by simp, he⟩
  · simp (disch := omega) only [go_sem, ↓reduceIte, Nat.reduceEqDiff, Nat.reduceAdd, Nat.reduceMul, Nat.reduceSub, Nat.reduceLT, Nat.reduceLeDiff, Nat.reduceBEq, reduceCtorEq, Int.reduceLT, Int.reduceEq, Int.reduceLE, Int.reduceAdd, Int.reduceSub, Int.reduceToNat, Int.reduceNeg, h1]
    exact ⟨by simp, he⟩
theorem any_took {L : List Mv} {d : Dot} : (runL L).any (fun e => decide (e.mv.id = d) && e.took) = decide (tookP L d) := by
  rw [Bool.eq_iff_iff, decide_eq_true_eq, List.any_eq_true]
  simp only [Bool.and_eq_true, decide_eq_true_eq, tookP]
theorem F.movetree_Tree_Took_J {S : St} {Z : Nat → Prop} {q : Nat} {L : List Mv} {d : Dot} (h : TreeT S Z q L) (hL : L.length < 80000) : J PR F.movetree_Tree_Took [ptrV q, dotV d] S fun v S' => v = .bool (decide (tookP L d)) ∧ S = S' := by
  obtain ⟨hZ, hS, sb, kb, kn, lv, T, hk1, hk2⟩ := h
  refine J.back (J_by PR.mixed F.movetree_Tree_Took.ok (by simp) ?_)
  simp (disch := omega) only [go_sem, ↓reduceIte, Nat.reduceEqDiff, Nat.reduceAdd, Nat.reduceMul, Nat.reduceSub, Nat.reduceLT, Nat.reduceLeDiff, Nat.reduceBEq, reduceCtorEq, Int.reduceLT, Int.reduceEq, Int.reduceLE, Int.reduceAdd, Int.reduceSub, Int.reduceToNat, Int.reduceNeg]
  refine wfresh_of fun x hx => ?_
  have he := (St.Ext.refl S).put hx (.cells true 2 [.int .i64 d.1, .int .i64 d.2])
  have T1 := T.ext he
  have t1 := T1.c0
  simp (disch := omega) only [go_sem, ↓reduceIte, Nat.reduceEqDiff, Nat.reduceAdd, Nat.reduceMul, Nat.reduceSub, Nat.reduceLT, Nat.reduceLeDiff, Nat.reduceBEq, reduceCtorEq, Int.reduceLT, Int.reduceEq, Int.reduceLE, Int.reduceAdd, Int.reduceSub, Int.reduceToNat, Int.reduceNeg, eqN, Option.isNone_none, t1]
  refine wJ_of (F.slices_ContainsFunc_s_movetree_entry_movetree_entry_J (p := fun e => decide (e.mv.id = d) && e.took) (T1.log.sl enE) ⟨_, _, _, rfl, F.movetree_Tree_Took_c1.cl, fun e _ => F.movetree_Tree_Took_c1_J (by simp (disch := omega) only [go_sem, ↓reduceIte, Nat.reduceEqDiff, Nat.reduceAdd, Nat.reduceMul, Nat.reduceSub, Nat.reduceLT, Nat.reduceLeDiff, Nat.reduceBEq, reduceCtorEq, Int.reduceLT, Int.reduceEq, Int.reduceLE, Int.reduceAdd, Int.reduceSub, Int.reduceToNat, Int.reduceNeg]) (St.lt_put_self ..)⟩ (by rw [runL_len]; omega)) ?_; rintro _ _ ⟨rfl, rfl⟩
  simp (disch := omega) only [go_sem, ↓reduceIte, Nat.reduceEqDiff, Nat.reduceAdd, Nat.reduceMul, Nat.reduceSub, Nat.reduceLT, Nat.reduceLeDiff, Nat.reduceBEq, reduceCtorEq, Int.reduceLT, Int.reduceEq, Int.reduceLE, Int.reduceAdd, Int.reduceSub, Int.reduceToNat, Int.reduceNeg]
  rw [any_took]
  exact ⟨rfl, he⟩
theorem F.movetree_Tree_Parent_J {S : St} {Z : Nat → Prop} {q : Nat} {L : List Mv} {d : Dot} (h : TreeT S Z q L) : J PR F.movetree_Tree_Parent [ptrV q, dotV d] S fun v S' => v = .tuple #[dotV ((alook d (runS L)).getD zSpot).1, .string ((alook d (runS L)).getD zSpot).2, .bool (alook d (runS L)).isSome] ∧ S = S' := by
  obtain ⟨hZ, hS, sb, kb, kn, lv, T, hk1, hk2⟩ := h
  refine J.back (J_by PR.mixed F.movetree_Tree_Parent.ok (by simp) ?_)
  simp (disch := omega) only [go_sem, ↓reduceIte, Nat.reduceEqDiff, Nat.reduceAdd, Nat.reduceMul, Nat.reduceSub, Nat.reduceLT, Nat.reduceLeDiff, Nat.reduceBEq, reduceCtorEq, Int.reduceLT, Int.reduceEq, Int.reduceLE, Int.reduceAdd, Int.reduceSub, Int.reduceToNat, Int.reduceNeg]
  refine walloc_x [.int .i64 d.1, .int .i64 d.2] fun x S1 he1 ox hx hxn => ?_
  simp (disch := omega) only [go_sem, ↓reduceIte, Nat.reduceEqDiff, Nat.reduceAdd, Nat.reduceMul, Nat.reduceSub, Nat.reduceLT, Nat.reduceLeDiff, Nat.reduceBEq, reduceCtorEq, Int.reduceLT, Int.reduceEq, Int.reduceLE, Int.reduceAdd, Int.reduceSub, Int.reduceToNat, Int.reduceNeg]
  refine walloc_x [.int .i64 0, .int .i64 0] fun y S2 he2 oy hy hyn => ?_
  have g2 := he1.trans he2
  have T2 := (T.ext g2).spT
  have f2 := T2.f
  have cx := cells2 ((he2.obj x hx).trans ox)
  simp (disch := omega) only [go_sem, ↓reduceIte, Nat.reduceEqDiff, Nat.reduceAdd, Nat.reduceMul, Nat.reduceSub, Nat.reduceLT, Nat.reduceLeDiff, Nat.reduceBEq, reduceCtorEq, Int.reduceLT, Int.reduceEq, Int.reduceLE, Int.reduceAdd, Int.reduceSub, Int.reduceToNat, Int.reduceNeg, eqN, Option.isNone_none, cx]
  refine wJ_of (F.movetree_Tree_There_J T2) ?_; rintro _ _ ⟨rfl, rfl⟩
  cases ha : alook d (runS L) with
  | none =>
    simp (disch := omega) only [go_sem, ↓reduceIte, Nat.reduceEqDiff, Nat.reduceAdd, Nat.reduceMul, Nat.reduceSub, Nat.reduceLT, Nat.reduceLeDiff, Nat.reduceBEq, reduceCtorEq, Int.reduceLT, Int.reduceEq, Int.reduceLE, Int.reduceAdd, Int.reduceSub, Int.reduceToNat, Int.reduceNeg, Option.isSome_none]
    refine wst_w [.int .i64 0, .int .i64 0] oy rfl rfl (by simp) (by simp) rfl fun S3 oy3 hb3 hy3 => ?_
    have cy3 := cells2 oy3
    simp (disch := omega) only [go_sem, ↓reduceIte, Nat.reduceEqDiff, Nat.reduceAdd, Nat.reduceMul, Nat.reduceSub, Nat.reduceLT, Nat.reduceLeDiff, Nat.reduceBEq, reduceCtorEq, Int.reduceLT, Int.reduceEq, Int.reduceLE, Int.reduceAdd, Int.reduceSub, Int.reduceToNat, Int.reduceNeg, cy3]
    exact ⟨rfl, g2.but hb3 fun j hj => by simp [blkOf] at hj; have := he1.n; omega⟩
  | some s =>
    simp (disch := omega) only [go_sem, ↓reduceIte, Nat.reduceEqDiff, Nat.reduceAdd, Nat.reduceMul, Nat.reduceSub, Nat.reduceLT, Nat.reduceLeDiff, Nat.reduceBEq, reduceCtorEq, Int.reduceLT, Int.reduceEq, Int.reduceLE, Int.reduceAdd, Int.reduceSub, Int.reduceToNat, Int.reduceNeg, Option.isSome_some, f2, ha, cx]
    refine wst_w [.int .i64 s.1.1, .int .i64 s.1.2] oy rfl rfl (by simp) (by simp) rfl fun S3 oy3 hb3 hy3 => ?_
    have g3 : S.Ext S3 := g2.but hb3 fun j hj => by simp [blkOf] at hj; have := he1.n; omega
    have f3 := (T.ext g3).spT.f
    have cy3 := cells2 oy3
    have hxy : y ≠ x := by omega
    have cx3 := cells2 ((hb3.obj x (Nat.lt_of_lt_of_le hx he2.n) (by simp [blkOf]; exact hxy)).trans ((he2.obj x hx).trans ox))
    simp (disch := omega) only [go_sem, ↓reduceIte, Nat.reduceEqDiff, Nat.reduceAdd, Nat.reduceMul, Nat.reduceSub, Nat.reduceLT, Nat.reduceLeDiff, Nat.reduceBEq, reduceCtorEq, Int.reduceLT, Int.reduceEq, Int.reduceLE, Int.reduceAdd, Int.reduceSub, Int.reduceToNat, Int.reduceNeg, f3, cx3, ha, cy3]
    exact ⟨rfl, g3⟩
/-- a tree without blocks -/
theorem F.movetree_New_J {S : St} : J PR F.movetree_New [] S fun v S' => ∃ q Z, v = ptrV q ∧ TreeT S' Z q [] ∧ (∀ i, Z i → S.n ≤ i) ∧ S.Ext S' := by
  refine J_by PR.mixed F.movetree_New.ok (by simp) ?_
  simp (disch := omega) only [go_sem, ↓reduceIte, Nat.reduceEqDiff, Nat.reduceAdd, Nat.reduceMul, Nat.reduceSub, Nat.reduceLT, Nat.reduceLeDiff, Nat.reduceBEq, reduceCtorEq, Int.reduceLT, Int.reduceEq, Int.reduceLE, Int.reduceAdd, Int.reduceSub, Int.reduceToNat, Int.reduceNeg]
  refine wfresh_of fun a ha => ?_
  have e1 := (St.Ext.refl S).put ha (.map true [] 0)
  have m1 : MapT dotKE spV true (S.put a (.map true [] 0)) a ([] : List (Dot × Spot)) := MapT.new dotKE spV
  simp (disch := omega) only [go_sem, ↓reduceIte, Nat.reduceEqDiff, Nat.reduceAdd, Nat.reduceMul, Nat.reduceSub, Nat.reduceLT, Nat.reduceLeDiff, Nat.reduceBEq, reduceCtorEq, Int.reduceLT, Int.reduceEq, Int.reduceLE, Int.reduceAdd, Int.reduceSub, Int.reduceToNat, Int.reduceNeg]
  refine wfresh_of fun b hb => ?_
  have e2 := (St.Ext.refl (S.put a (.map true [] 0))).put hb (.map true [] 0)
  have m2 : MapT dotKE boolV true ((S.put a (.map true [] 0)).put b (.map true [] 0)) b ([] : List (Dot × Bool)) := MapT.new dotKE boolV
  simp (disch := omega) only [go_sem, ↓reduceIte, Nat.reduceEqDiff, Nat.reduceAdd, Nat.reduceMul, Nat.reduceSub, Nat.reduceLT, Nat.reduceLeDiff, Nat.reduceBEq, reduceCtorEq, Int.reduceLT, Int.reduceEq, Int.reduceLE, Int.reduceAdd, Int.reduceSub, Int.reduceToNat, Int.reduceNeg]
  refine wfresh_of fun q hq => ?_
  simp (disch := omega) only [go_sem, ↓reduceIte, Nat.reduceEqDiff, Nat.reduceAdd, Nat.reduceMul, Nat.reduceSub, Nat.reduceLT, Nat.reduceLeDiff, Nat.reduceBEq, reduceCtorEq, Int.reduceLT, Int.reduceEq, Int.reduceLE, Int.reduceAdd, Int.reduceSub, Int.reduceToNat, Int.reduceNeg]
  have e3 := (St.Ext.refl ((S.put a (.map true [] 0)).put b (.map true [] 0))).put hq (.cells true 3 [.slice none 0 0, .map (some a), .map (some b)])
  have m1' := (m1.ext dotKE spV e2).ext dotKE spV e3
  have m2' := m2.ext dotKE boolV e3
  have h1 := m1'.1
  have ha2 : a < b := by omega
  have hb2 : b < q := by omega
  have T : TrR (((S.put a (.map true [] 0)).put b (.map true [] 0)).put q (.cells true 3 [.slice none 0 0, .map (some a), .map (some b)])) (Zof q a b (.slice none 0 0)) q a b [] (.slice none 0 0) [] :=
    ⟨St.put_same _ _ _, St.lt_put_self _ _ _, OwnT.nil enE _ _, m1', m2', by omega, by omega, by omega, by simp [blkOf], .inl rfl, .inr (.inl rfl), .inr (.inr (.inl rfl))⟩
  refine ⟨q, Zof q a b (.slice none 0 0), rfl, ⟨T.own_lt, Srt.nil, a, b, [], _, T, by simp, by simp⟩, ?_, (e1.trans e2).trans e3⟩
  rintro i (rfl | rfl | rfl | h)
  · omega
  · exact ha
  · omega
  · simp [blkOf] at h
/-- all blocks, in their order -/
theorem F.movetree_Tree_Blocks_J {S : St} {Z : Nat → Prop} {q : Nat} {L : List Mv} (h : TreeT S Z q L) (hL : L.length < 80000) : J PR F.movetree_Tree_Blocks [ptrV q] S fun v S' => OwnT dotE S.n S' v (risen ((runS L).map Prod.fst)) ∧ S.Ext S' := by
  obtain ⟨hZ, hS, sb, kb, kn, lv, T, hk1, hk2⟩ := h
  have t0 := T.c0
  have hsl := runS_len L
  refine J_by PR.mixed F.movetree_Tree_Blocks.ok (by simp) ?_
  simp (disch := omega) only [go_sem, ↓reduceIte, Nat.reduceEqDiff, Nat.reduceAdd, Nat.reduceMul, Nat.reduceSub, Nat.reduceLT, Nat.reduceLeDiff, Nat.reduceBEq, reduceCtorEq, Int.reduceLT, Int.reduceEq, Int.reduceLE, Int.reduceAdd, Int.reduceSub, Int.reduceToNat, Int.reduceNeg, eqN, Option.isNone_none, t0]
  refine wE_rng dotKE spV T.sp rfl fun r S1 hr hit he1 => ?_
  simp (disch := omega) only [go_sem, ↓reduceIte, Nat.reduceEqDiff, Nat.reduceAdd, Nat.reduceMul, Nat.reduceSub, Nat.reduceLT, Nat.reduceLeDiff, Nat.reduceBEq, reduceCtorEq, Int.reduceLT, Int.reduceEq, Int.reduceLE, Int.reduceAdd, Int.reduceSub, Int.reduceToNat, Int.reduceNeg]
  refine wC_at 0 (fun fr S2 => ∃ (vis : List (Dot × Spot)) (v : Value), vis.Perm (runS L) ∧ fr 3 = v ∧ OwnT dotE S.n S2 v (vis.map Prod.fst) ∧ S.Ext S2) ?_ ?_
  · refine wC_loop (fun n fr S2 => ∃ (vis : List (Dot × Spot)) (v : Value), n = (runS L).length - vis.length ∧ fr 11 = ptrV r ∧ fr 3 = v ∧ IterT dotKE spV true S2 r sb (runS L) vis ∧ OwnT dotE S.n S2 v (vis.map Prod.fst) ∧ (∀ j, blkOf v = some j → j ≠ r ∧ j ≠ sb) ∧ S.Ext S2) (runS L).length
      ⟨[], nilS, by simp (disch := omega) only [go_sem, ↓reduceIte, Nat.reduceEqDiff, Nat.reduceAdd, Nat.reduceMul, Nat.reduceSub, Nat.reduceLT, Nat.reduceLeDiff, Nat.reduceBEq, reduceCtorEq, Int.reduceLT, Int.reduceEq, Int.reduceLE, Int.reduceAdd, Int.reduceSub, Int.reduceToNat, Int.reduceNeg]; exact ⟨by simp, hit, OwnT.nil dotE _ _, by simp [blkOf], he1⟩⟩ ?_
    rintro n fr S2 ⟨vis, v, rfl, h11, h3, hit2, ho2, hne, he2⟩
    simp (disch := omega) only [go_sem, ↓reduceIte, Nat.reduceEqDiff, Nat.reduceAdd, Nat.reduceMul, Nat.reduceSub, Nat.reduceLT, Nat.reduceLeDiff, Nat.reduceBEq, reduceCtorEq, Int.reduceLT, Int.reduceEq, Int.reduceLE, Int.reduceAdd, Int.reduceSub, Int.reduceToNat, Int.reduceNeg, F.movetree_Tree_Blocks.l0, h11]
    refine wE_nxt dotKE spV hit2 h11 (fun hperm => ?_) (fun p S3 hp hpv hit3 hbut => ?_)
    · simp (disch := omega) only [go_sem, ↓reduceIte, Nat.reduceEqDiff, Nat.reduceAdd, Nat.reduceMul, Nat.reduceSub, Nat.reduceLT, Nat.reduceLeDiff, Nat.reduceBEq, reduceCtorEq, Int.reduceLT, Int.reduceEq, Int.reduceLE, Int.reduceAdd, Int.reduceSub, Int.reduceToNat, Int.reduceNeg, h3]
      exact ⟨vis, v, hperm, rfl, ho2, he2⟩
    · simp (disch := omega) only [go_sem, ↓reduceIte, Nat.reduceEqDiff, Nat.reduceAdd, Nat.reduceMul, Nat.reduceSub, Nat.reduceLT, Nat.reduceLeDiff, Nat.reduceBEq, reduceCtorEq, Int.reduceLT, Int.reduceEq, Int.reduceLE, Int.reduceAdd, Int.reduceSub, Int.reduceToNat, Int.reduceNeg, h11]
      refine wE_ent dotKE spV hit3 h11 ?_
      simp (disch := omega) only [go_sem, ↓reduceIte, Nat.reduceEqDiff, Nat.reduceAdd, Nat.reduceMul, Nat.reduceSub, Nat.reduceLT, Nat.reduceLeDiff, Nat.reduceBEq, reduceCtorEq, Int.reduceLT, Int.reduceEq, Int.reduceLE, Int.reduceAdd, Int.reduceSub, Int.reduceToNat, Int.reduceNeg]
      refine wfresh_of fun x hx => ?_
      simp (disch := omega) only [go_sem, ↓reduceIte, Nat.reduceEqDiff, Nat.reduceAdd, Nat.reduceMul, Nat.reduceSub, Nat.reduceLT, Nat.reduceLeDiff, Nat.reduceBEq, reduceCtorEq, Int.reduceLT, Int.reduceEq, Int.reduceLE, Int.reduceAdd, Int.reduceSub, Int.reduceToNat, Int.reduceNeg, h3]
      refine wfresh_of fun y hy => ?_
      simp (disch := omega) only [go_sem, ↓reduceIte, Nat.reduceEqDiff, Nat.reduceAdd, Nat.reduceMul, Nat.reduceSub, Nat.reduceLT, Nat.reduceLeDiff, Nat.reduceBEq, reduceCtorEq, Int.reduceLT, Int.reduceEq, Int.reduceLE, Int.reduceAdd, Int.reduceSub, Int.reduceToNat, Int.reduceNeg]
      have e1 := (St.Ext.refl S3).put hx (.cells true 2 [.int .i64 p.1.1, .int .i64 p.1.2])
      have e2 := e1.put (b := y) (by rw [St.put_n]; exact hy) (.cells true 2 [.int .i64 p.1.1, .int .i64 p.1.2])
      have ho3 : OwnT dotE S.n S3 v (vis.map Prod.fst) := ho2.but dotE hbut (by intro i hi; simp [blkOf]; exact Ne.symm (hne i hi).1)
      have hlen := hit3.len
      simp at hlen
      refine wE_app dotE (bytes := 16) (ys := [p.1]) (ho3.ext dotE e2) (SlT.lit dotE (xs := [p.1])) rfl rfl ?_ (by simp; omega) (by simp; omega) fun v2 S4 ho4 hb4 hv4 => ?_
      · exact Nat.le_trans he2.n (Nat.le_trans hbut.n e2.n)
      · simp (disch := omega) only [go_sem, ↓reduceIte, Nat.reduceEqDiff, Nat.reduceAdd, Nat.reduceMul, Nat.reduceSub, Nat.reduceLT, Nat.reduceLeDiff, Nat.reduceBEq, reduceCtorEq, Int.reduceLT, Int.reduceEq, Int.reduceLE, Int.reduceAdd, Int.reduceSub, Int.reduceToNat, Int.reduceNeg, h11]
        have hvb : ∀ j, blkOf v = some j → S.n ≤ j ∧ j < S3.n := fun j hj => ho3.blk dotE j hj
        have hr3 := hit3.1
        have hb3 := hit3.2.1
        have hre : S.n ≤ r := hr
        refine ⟨(runS L).length - (vis.length + 1), by omega, vis ++ [p], v2, by simp, rfl, hit3.congr _ _ (Nat.le_trans e2.n hb4.n) ?_ ?_, by simpa using ho4, fun j hj => ?_, ?_⟩
        · rw [hb4.obj sb (Nat.lt_of_lt_of_le hb3 e2.n) (fun e => (hne sb e).2 rfl), e2.obj sb hb3]
        · rw [hb4.obj r (Nat.lt_of_lt_of_le hr3 e2.n) (fun e => (hne r e).1 rfl), e2.obj r hr3]
        · rcases hv4 with h | ⟨b', h, hb'⟩
          · rw [h] at hj; exact hne j hj
          · rw [h] at hj
            injection hj with hj
            subst hj
            have h1 := Nat.lt_of_lt_of_le hr3 (Nat.le_trans e2.n hb')
            have h2 := Nat.lt_of_lt_of_le hb3 (Nat.le_trans e2.n hb')
            exact ⟨by omega, by omega⟩
        · exact ((he2.but hbut (by simp only [blkOf]; rintro i ⟨⟩; exact hre)).trans e2).but hb4 fun j hj => (hvb j hj).1
  rintro fr S2 ⟨vis, v, hperm, h3, ho2, he2⟩
  have hlv := hperm.length_eq
  simp (disch := omega) only [go_sem, ↓reduceIte, Nat.reduceEqDiff, Nat.reduceAdd, Nat.reduceMul, Nat.reduceSub, Nat.reduceLT, Nat.reduceLeDiff, Nat.reduceBEq, reduceCtorEq, Int.reduceLT, Int.reduceEq, Int.reduceLE, Int.reduceAdd, Int.reduceSub, Int.reduceToNat, Int.reduceNeg, h3]
  refine wJ_of (F.dots_Rising.J (ho2.sl dotE) (by simp; omega)) ?_; rintro v3 S3 ⟨ho3, he3⟩
  simp (disch := omega) only [go_sem, ↓reduceIte, Nat.reduceEqDiff, Nat.reduceAdd, Nat.reduceMul, Nat.reduceSub, Nat.reduceLT, Nat.reduceLeDiff, Nat.reduceBEq, reduceCtorEq, Int.reduceLT, Int.reduceEq, Int.reduceLE, Int.reduceAdd, Int.reduceSub, Int.reduceToNat, Int.reduceNeg]
  have hr : risen (vis.map Prod.fst) = risen ((runS L).map Prod.fst) := risen_congr fun d => (hperm.map Prod.fst).mem_iff
  rw [hr] at ho3
  exact ⟨ho3.mono dotE he2.n, he2.trans he3⟩
end Go.Osj
