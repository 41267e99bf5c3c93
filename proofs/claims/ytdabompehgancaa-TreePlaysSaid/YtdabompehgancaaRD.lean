/- The document's tree: kids. -/
import Derived.Test.YtdabompehgancaaRC
import Derived.Laws.StructEq
set_option linter.unusedVariables false
set_option linter.unusedSimpArgs false
set_option maxHeartbeats 2000000
namespace Go.Osj
theorem bl_inj {a b : ByteArray} (h : a.toList = b.toList) : a = b := by
  have h1 := beq_toListBytes a b
  rw [h, beq_self_eq_true, ba_beq] at h1
  exact of_decide_eq_true h1
/-- by keys, then by identities -/
def plt (x y : Dot × Spot) : Prop := Op.bytesLess x.2.2.toList y.2.2.toList = true ∨ (x.2.2 = y.2.2 ∧ lessD x.1 y.1)
theorem plt_iff {sp : Sp} (hk : (sp.map Prod.fst).Nodup) {x y : Dot × Spot} (hx : x ∈ sp) (hy : y ∈ sp) : plt x y ↔ kltP sp x.1 y.1 := by
  have ex : keyS sp x.1 = x.2.2 := by unfold keyS; rw [mem_alook hk (x := x.1) (v := x.2) hx]; rfl
  have ey : keyS sp y.1 = y.2.2 := by unfold keyS; rw [mem_alook hk (x := y.1) (v := y.2) hy]; rfl
  unfold plt kltP kltK
  rw [ex, ey]
  constructor
  · rintro (h | ⟨h1, h2⟩)
    · exact .inl h
    · exact .inr ⟨by rw [h1, bless_irrefl]; simp, h2⟩
  · rintro (h | ⟨h1, h2⟩)
    · exact .inl h
    · by_cases e : x.2.2.toList = y.2.2.toList
      · exact .inr ⟨bl_inj e, h2⟩
      · exact .inl ((bless_total e).resolve_right h1)
theorem F.osierref10_Tree_Kids_J {S : St} {lv sv tv : Value} {sp : Sp} {p : Dot} (hs : SlT stE S sv sp) (hk : (sp.map Prod.fst).Nodup) (hL : sp.length < 10000) : J PR F.osierref10_Tree_Kids [.agg #[lv, sv, tv], dotV p] S fun v S' => (∃ l, IsKids sp p l ∧ OwnT dotE S.n S' v l) ∧ S.Ext S' := by
  obtain ⟨base, cap, rfl⟩ := hs.len stE
  refine J_by PR.mixed F.osierref10_Tree_Kids.ok (by simp) ?_
  simp (disch := omega) only [go_sem, ↓reduceIte, Nat.reduceEqDiff, Nat.reduceAdd, Nat.reduceMul, Nat.reduceSub, Nat.reduceLT, Nat.reduceLeDiff, Nat.reduceBEq, reduceCtorEq, Int.reduceLT, Int.reduceEq, Int.reduceLE, Int.reduceAdd, Int.reduceSub, Int.reduceToNat, Int.reduceNeg]
  refine walloc_x [lv, .slice base sp.length cap, tv] fun x S1 e1 ox hx hxn => ?_
  simp (disch := omega) only [go_sem, ↓reduceIte, Nat.reduceEqDiff, Nat.reduceAdd, Nat.reduceMul, Nat.reduceSub, Nat.reduceLT, Nat.reduceLeDiff, Nat.reduceBEq, reduceCtorEq, Int.reduceLT, Int.reduceEq, Int.reduceLE, Int.reduceAdd, Int.reduceSub, Int.reduceToNat, Int.reduceNeg]
  refine walloc_x [.int .i64 p.1, .int .i64 p.2] fun y S2 e2 oy hy hyn => ?_
  have g2 := e1.trans e2
  have ox2 := (e2.obj x hx).trans ox
  have hx2 := Nat.lt_of_lt_of_le hx e2.n
  simp (disch := omega) only [go_sem, ↓reduceIte, Nat.reduceEqDiff, Nat.reduceAdd, Nat.reduceMul, Nat.reduceSub, Nat.reduceLT, Nat.reduceLeDiff, Nat.reduceBEq, reduceCtorEq, Int.reduceLT, Int.reduceEq, Int.reduceLE, Int.reduceAdd, Int.reduceSub, Int.reduceToNat, Int.reduceNeg]
  refine wC_at 0 (fun fr S3 => ∃ (out : Sp) (v : Value), fr 5 = v ∧ OwnT stE S2.n S3 v out ∧ out.Pairwise (fun a b => kltP sp a.1 b.1) ∧ (∀ q, q ∈ out ↔ q ∈ sp ∧ q.2.1 = p) ∧ out.length ≤ sp.length ∧ S2.Ext S3) ?_ ?_
  · refine wC_loop (fun n fr S3 => ∃ (i : Nat) (out : Sp) (v : Value), n = sp.length - i ∧ i ≤ sp.length ∧ fr 2 = ptrV x ∧ fr 3 = ptrV y ∧ fr 5 = v ∧ fr 6 = .int .i64 (i : Nat) ∧ OwnT stE S2.n S3 v out ∧ out.Pairwise (fun a b => kltP sp a.1 b.1) ∧ (∀ q, q ∈ out ↔ q ∈ sp.take i ∧ q.2.1 = p) ∧ out.length ≤ i ∧ S2.Ext S3) sp.length
      ⟨0, [], nilS, by
        have k0 : OwnT stE S2.n S2 nilS [] := OwnT.nil stE _ _
        have k1 : ([] : Sp).Pairwise (fun a b => kltP sp a.1 b.1) := List.Pairwise.nil
        have k2 : ∀ q, q ∈ ([] : Sp) ↔ q ∈ sp.take 0 ∧ q.2.1 = p := by simp
        have k3 : ([] : Sp).length ≤ 0 := Nat.le_refl _
        simp (disch := omega) only [go_sem, ↓reduceIte, Nat.reduceEqDiff, Nat.reduceAdd, Nat.reduceMul, Nat.reduceSub, Nat.reduceLT, Nat.reduceLeDiff, Nat.reduceBEq, reduceCtorEq, Int.reduceLT, Int.reduceEq, Int.reduceLE, Int.reduceAdd, Int.reduceSub, Int.reduceToNat, Int.reduceNeg]
        repeat' first | assumption | omega | (exact St.Ext.refl _) | rfl | (refine And.intro ?_ ?_) | (intro q; simp)
        ⟩ ?_
    rintro n fr S3 ⟨i, out, v, rfl, hi, h2, h3, h5, h6, ho, hpw, hm, hol, g3⟩
    have cx3 := cells3 ((g3.obj x hx2).trans ox2)
    have cy3 := cells2 ((g3.obj y hy).trans oy)
    simp (disch := omega) only [go_sem, ↓reduceIte, Nat.reduceEqDiff, Nat.reduceAdd, Nat.reduceMul, Nat.reduceSub, Nat.reduceLT, Nat.reduceLeDiff, Nat.reduceBEq, reduceCtorEq, Int.reduceLT, Int.reduceEq, Int.reduceLE, Int.reduceAdd, Int.reduceSub, Int.reduceToNat, Int.reduceNeg, F.osierref10_Tree_Kids.l1, h2, h3, h5, h6, cx3]
    refine wcond_dec (fun hlt => ?_) (fun hge => ?_)
    rotate_left
    · simp (disch := omega) only [go_sem, ↓reduceIte, Nat.reduceEqDiff, Nat.reduceAdd, Nat.reduceMul, Nat.reduceSub, Nat.reduceLT, Nat.reduceLeDiff, Nat.reduceBEq, reduceCtorEq, Int.reduceLT, Int.reduceEq, Int.reduceLE, Int.reduceAdd, Int.reduceSub, Int.reduceToNat, Int.reduceNeg, h5]
      rw [List.take_of_length_le (by omega)] at hm
      refine ⟨out, v, ?_⟩
      have k0 : out.length ≤ sp.length := by omega
      repeat' first | assumption | omega | (exact St.Ext.refl _) | (exact List.Perm.refl _) | rfl | (exact .inl trivial) | (exact trivial) | refine And.intro ?_ ?_
    have hli : i < sp.length := by omega
    have c1 : (0 : Int) ≤ (i : Int) ∧ (i : Int) < (sp.length : Int) := by omega
    obtain ⟨b0, o0, rfl, hb, -, x5⟩ := (hs.ext stE (g2.trans g3)).stt hli
    have hsm : sp[i] ∈ sp := List.getElem_mem hli
    have htk : sp.take (i + 1) = sp.take i ++ [sp[i]] := take_snoc (List.getElem?_eq_getElem hli)
    have hnew : ∀ q ∈ out, q.1 ≠ sp[i].1 := fun q hq e => by
      have hq' := ((hm q).1 hq).1
      obtain ⟨j, hj, hje⟩ := List.mem_take_iff_getElem.1 hq'
      have h1 : (sp.map Prod.fst)[j]'(by simp; omega) = (sp.map Prod.fst)[i]'(by simpa using hli) := by simp [hje, e]
      have := (List.getElem_inj hk).1 h1
      omega
    generalize hsd : sp[i] = s at *
    simp (disch := omega) only [go_sem, ↓reduceIte, Nat.reduceEqDiff, Nat.reduceAdd, Nat.reduceMul, Nat.reduceSub, Nat.reduceLT, Nat.reduceLeDiff, Nat.reduceBEq, reduceCtorEq, Int.reduceLT, Int.reduceEq, Int.reduceLE, Int.reduceAdd, Int.reduceSub, Int.reduceToNat, Int.reduceNeg, h2, h3, h5, h6, c1, cx3, x5]
    refine walloc_x (stC ((0, 0), ((0, 0), ⟨#[]⟩))) fun u S4 e4 ou hu hun => ?_
    simp (disch := omega) only [go_sem, ↓reduceIte, Nat.reduceEqDiff, Nat.reduceAdd, Nat.reduceMul, Nat.reduceSub, Nat.reduceLT, Nat.reduceLeDiff, Nat.reduceBEq, reduceCtorEq, Int.reduceLT, Int.reduceEq, Int.reduceLE, Int.reduceAdd, Int.reduceSub, Int.reduceToNat, Int.reduceNeg]
    refine wst_w (stC s) ou rfl rfl (by simp) (by decide) rfl fun S5 ou5 b5 hu5 => ?_
    have e5 : S3.Ext S5 := e4.but b5 fun j hj => by simp [blkOf] at hj; omega
    have g5 := g3.trans e5
    have cu : ∀ S', S5.Ext S' → S'.loadN ⟨u, 0, none⟩ 2 = some [.int .i64 s.1.1, .int .i64 s.1.2] ∧ S'.loadN ⟨u, 2, none⟩ 2 = some [.int .i64 s.2.1.1, .int .i64 s.2.1.2] ∧ S'.cell ⟨u, 4, none⟩ = some (.string s.2.2) ∧ S'.loadN ⟨u, 0, none⟩ 5 = some (stC s) := fun S' e => by
      have o := (e.obj u hu5).trans ou5
      exact ⟨by rw [St.loadN_def, o]; rfl, by rw [St.loadN_def, o]; rfl, by rw [St.cell_def, o]; rfl, by rw [St.loadN_def, o]; rfl⟩
    have cu5 := cu S5 (St.Ext.refl _)
    have cy5 := cells2 ((g5.obj y hy).trans oy)
    have eq := eqV_dot s.2.1 p
    have ho5 := ho.ext stE e5
    simp (disch := omega) only [go_sem, ↓reduceIte, Nat.reduceEqDiff, Nat.reduceAdd, Nat.reduceMul, Nat.reduceSub, Nat.reduceLT, Nat.reduceLeDiff, Nat.reduceBEq, reduceCtorEq, Int.reduceLT, Int.reduceEq, Int.reduceLE, Int.reduceAdd, Int.reduceSub, Int.reduceToNat, Int.reduceNeg, h2, h3, h5, h6, cu5, cy5, eq]
    refine wcond_ndec (fun hq => ?_) (fun hq => ?_)
    · -- another one's
      have k0 : ∀ q, q ∈ out ↔ q ∈ sp.take (i + 1) ∧ q.2.1 = p := fun q => by
        rw [hm, htk, List.mem_append]
        constructor
        · rintro ⟨h1, h2⟩; exact ⟨.inl h1, h2⟩
        · rintro ⟨h1 | h1, h2⟩
          · exact ⟨h1, h2⟩
          · obtain rfl : q = s := by simpa using h1
            exact absurd h2 hq
      simp (disch := omega) only [go_sem, ↓reduceIte, Nat.reduceEqDiff, Nat.reduceAdd, Nat.reduceMul, Nat.reduceSub, Nat.reduceLT, Nat.reduceLeDiff, Nat.reduceBEq, reduceCtorEq, Int.reduceLT, Int.reduceEq, Int.reduceLE, Int.reduceAdd, Int.reduceSub, Int.reduceToNat, Int.reduceNeg, h2, h3, h5, h6]
      refine ⟨sp.length - (i + 1), by omega, i + 1, out, v, ?_⟩
      repeat' first | assumption | omega | (exact St.Ext.refl _) | (exact List.Perm.refl _) | rfl | (exact .inl trivial) | (exact trivial) | refine And.intro ?_ ?_
    obtain ⟨bv, cv, hv⟩ := (ho5.sl stE).len stE
    subst hv
    simp (disch := omega) only [go_sem, ↓reduceIte, Nat.reduceEqDiff, Nat.reduceAdd, Nat.reduceMul, Nat.reduceSub, Nat.reduceLT, Nat.reduceLeDiff, Nat.reduceBEq, reduceCtorEq, Int.reduceLT, Int.reduceEq, Int.reduceLE, Int.reduceAdd, Int.reduceSub, Int.reduceToNat, Int.reduceNeg, h2, h3, h5, h6]
    refine wC_at 2 (fun fr S6 => ∃ k : Nat, S6 = S5 ∧ k ≤ out.length ∧ fr 2 = ptrV x ∧ fr 3 = ptrV y ∧ fr 5 = .slice bv out.length cv ∧ fr 6 = .int .i64 (i : Nat) ∧ fr 7 = ptrV u ∧ fr 8 = .int .i64 (k : Nat) ∧ (∀ q ∈ out.take k, kltP sp q.1 s.1) ∧ (∀ q ∈ (out.drop k).head?, ¬ kltP sp q.1 s.1)) ?_ ?_
    · refine wC_loop (fun n fr S6 => ∃ k : Nat, n = out.length - k ∧ S6 = S5 ∧ k ≤ out.length ∧ fr 2 = ptrV x ∧ fr 3 = ptrV y ∧ fr 5 = .slice bv out.length cv ∧ fr 6 = .int .i64 (i : Nat) ∧ fr 7 = ptrV u ∧ fr 8 = .int .i64 (k : Nat) ∧ (∀ q ∈ out.take k, kltP sp q.1 s.1)) out.length
        ⟨0, by
          have k0 : ∀ q ∈ out.take 0, kltP sp q.1 s.1 := by simp
          simp (disch := omega) only [go_sem, ↓reduceIte, Nat.reduceEqDiff, Nat.reduceAdd, Nat.reduceMul, Nat.reduceSub, Nat.reduceLT, Nat.reduceLeDiff, Nat.reduceBEq, reduceCtorEq, Int.reduceLT, Int.reduceEq, Int.reduceLE, Int.reduceAdd, Int.reduceSub, Int.reduceToNat, Int.reduceNeg]
          repeat' first | assumption | omega | (exact St.Ext.refl _) | (exact List.Perm.refl _) | rfl | (exact .inl trivial) | (exact trivial) | refine And.intro ?_ ?_
          ⟩ ?_
      rintro n fr S6 ⟨k, rfl, rfl, hkl, h2, h3, h5, h6, h7, h8, hlt'⟩
      simp (disch := omega) only [go_sem, ↓reduceIte, Nat.reduceEqDiff, Nat.reduceAdd, Nat.reduceMul, Nat.reduceSub, Nat.reduceLT, Nat.reduceLeDiff, Nat.reduceBEq, reduceCtorEq, Int.reduceLT, Int.reduceEq, Int.reduceLE, Int.reduceAdd, Int.reduceSub, Int.reduceToNat, Int.reduceNeg, F.osierref10_Tree_Kids.l0, h2, h3, h5, h6, h7, h8]
      by_cases hkk : k < out.length
      rotate_left
      · have d1 : ¬ ((k : Int) < (out.length : Int)) := by omega
        simp (disch := omega) only [go_sem, ↓reduceIte, Nat.reduceEqDiff, Nat.reduceAdd, Nat.reduceMul, Nat.reduceSub, Nat.reduceLT, Nat.reduceLeDiff, Nat.reduceBEq, reduceCtorEq, Int.reduceLT, Int.reduceEq, Int.reduceLE, Int.reduceAdd, Int.reduceSub, Int.reduceToNat, Int.reduceNeg, d1, h2, h3, h5, h6, h7, h8]
        refine ⟨k, ?_⟩
        have k0 : ∀ q ∈ (out.drop k).head?, ¬ kltP sp q.1 s.1 := by
          rw [List.drop_eq_nil_of_le (by omega)]
          simp
        repeat' first | assumption | omega | (exact St.Ext.refl _) | (exact List.Perm.refl _) | rfl | (exact .inl trivial) | (exact trivial) | refine And.intro ?_ ?_
      have d1 : (k : Int) < (out.length : Int) := by omega
      have c2 : (0 : Int) ≤ (k : Int) ∧ (k : Int) < (out.length : Int) := by omega
      obtain ⟨b1, o1, rfl, hb1, ⟨y1, y2, y3⟩, y4⟩ := (ho5.sl stE).stt hkk
      have hom : out[k] ∈ sp := List.mem_of_mem_take ((hm _).1 (List.getElem_mem hkk)).1
      have hpi := plt_iff hk hom hsm
      have htk2 : out.take (k + 1) = out.take k ++ [out[k]] := take_snoc (List.getElem?_eq_getElem hkk)
      have hdk : (out.drop k).head? = some out[k] := by rw [List.drop_eq_getElem_cons hkk]; rfl
      generalize out[k] = t at *
      have go : plt t s → ∀ q ∈ out.take (k + 1), kltP sp q.1 s.1 := fun h q hq => by
        rw [htk2] at hq
        rcases List.mem_append.1 hq with hq | hq
        · exact hlt' q hq
        · obtain rfl : q = t := by simpa using hq
          exact hpi.1 h
      have stay : ¬ plt t s → ∀ q ∈ (out.drop k).head?, ¬ kltP sp q.1 s.1 := fun h q hq => by
        rw [hdk] at hq
        obtain rfl : t = q := by simpa using hq
        exact fun h' => h (hpi.2 h')
      by_cases t1 : Op.bytesLess t.2.2.toList s.2.2.toList = true
      · have hgo := go (.inl t1)
        by_cases t2 : t.2.2 = s.2.2
        · rw [t2, bless_irrefl] at t1; cases t1
        have ek : (t.2.2 == s.2.2) = false := by rw [ba_beq]; exact decide_eq_false t2
        simp (disch := omega) only [go_sem, ↓reduceIte, Nat.reduceEqDiff, Nat.reduceAdd, Nat.reduceMul, Nat.reduceSub, Nat.reduceLT, Nat.reduceLeDiff, Nat.reduceBEq, reduceCtorEq, Int.reduceLT, Int.reduceEq, Int.reduceLE, Int.reduceAdd, Int.reduceSub, Int.reduceToNat, Int.reduceNeg, d1, h2, h3, h5, h6, h7, h8, c2, y1, y3, cu5, t1, ek]
        refine ⟨out.length - (k + 1), by omega, k + 1, ?_⟩
        repeat' first | assumption | omega | (exact St.Ext.refl _) | (exact List.Perm.refl _) | rfl | (exact .inl trivial) | (exact trivial) | refine And.intro ?_ ?_
      have t1' : Op.bytesLess t.2.2.toList s.2.2.toList = false := by simpa using t1
      by_cases t2 : t.2.2 = s.2.2
      · have ek : (t.2.2 == s.2.2) = true := by rw [ba_beq]; exact decide_eq_true t2
        simp (disch := omega) only [go_sem, ↓reduceIte, Nat.reduceEqDiff, Nat.reduceAdd, Nat.reduceMul, Nat.reduceSub, Nat.reduceLT, Nat.reduceLeDiff, Nat.reduceBEq, reduceCtorEq, Int.reduceLT, Int.reduceEq, Int.reduceLE, Int.reduceAdd, Int.reduceSub, Int.reduceToNat, Int.reduceNeg, d1, h2, h3, h5, h6, h7, h8, c2, y1, y3, cu5, t1', ek]
        refine wJ_of (F.osierref03_Less_P (a := t.1) (b := s.1)) ?_; rintro _ _ ⟨rfl, rfl⟩
        by_cases t3 : lessP t.1 s.1
        · have hgo := go (.inr ⟨t2, t3⟩)
          simp (disch := omega) only [go_sem, ↓reduceIte, Nat.reduceEqDiff, Nat.reduceAdd, Nat.reduceMul, Nat.reduceSub, Nat.reduceLT, Nat.reduceLeDiff, Nat.reduceBEq, reduceCtorEq, Int.reduceLT, Int.reduceEq, Int.reduceLE, Int.reduceAdd, Int.reduceSub, Int.reduceToNat, Int.reduceNeg, t3, h2, h3, h5, h6, h7, h8]
          refine ⟨out.length - (k + 1), by omega, k + 1, ?_⟩
          repeat' first | assumption | omega | (exact St.Ext.refl _) | (exact List.Perm.refl _) | rfl | (exact .inl trivial) | (exact trivial) | refine And.intro ?_ ?_
        · have hst := stay fun h => h.elim t1 fun h => t3 h.2
          simp (disch := omega) only [go_sem, ↓reduceIte, Nat.reduceEqDiff, Nat.reduceAdd, Nat.reduceMul, Nat.reduceSub, Nat.reduceLT, Nat.reduceLeDiff, Nat.reduceBEq, reduceCtorEq, Int.reduceLT, Int.reduceEq, Int.reduceLE, Int.reduceAdd, Int.reduceSub, Int.reduceToNat, Int.reduceNeg, t3, h2, h3, h5, h6, h7, h8]
          refine ⟨k, ?_⟩
          repeat' first | assumption | omega | (exact St.Ext.refl _) | (exact List.Perm.refl _) | rfl | (exact .inl trivial) | (exact trivial) | refine And.intro ?_ ?_
      · have ek : (t.2.2 == s.2.2) = false := by rw [ba_beq]; exact decide_eq_false t2
        have hst := stay fun h => h.elim t1 fun h => t2 h.1
        simp (disch := omega) only [go_sem, ↓reduceIte, Nat.reduceEqDiff, Nat.reduceAdd, Nat.reduceMul, Nat.reduceSub, Nat.reduceLT, Nat.reduceLeDiff, Nat.reduceBEq, reduceCtorEq, Int.reduceLT, Int.reduceEq, Int.reduceLE, Int.reduceAdd, Int.reduceSub, Int.reduceToNat, Int.reduceNeg, d1, h2, h3, h5, h6, h7, h8, c2, y1, y3, cu5, t1', ek]
        refine ⟨k, ?_⟩
        repeat' first | assumption | omega | (exact St.Ext.refl _) | (exact List.Perm.refl _) | rfl | (exact .inl trivial) | (exact trivial) | refine And.intro ?_ ?_
    rintro fr S6 ⟨k, rfl, hkl, h2, h3, h5, h6, h7, h8, hA, hB⟩
    obtain ⟨u1, hu1, hus1⟩ := (ho5.sl stE).to stE (k := k) (q := .i64) (i := k) rfl hkl
    replace hu1 : slV 5 _ _ _ _ = _ := hu1
    simp (disch := omega) only [go_sem, ↓reduceIte, Nat.reduceEqDiff, Nat.reduceAdd, Nat.reduceMul, Nat.reduceSub, Nat.reduceLT, Nat.reduceLeDiff, Nat.reduceBEq, reduceCtorEq, Int.reduceLT, Int.reduceEq, Int.reduceLE, Int.reduceAdd, Int.reduceSub, Int.reduceToNat, Int.reduceNeg, h2, h3, h5, h6, h7, h8, hu1]
    have hl1 : (out.take k).length = k := by rw [List.length_take]; omega
    refine wE_app stE (B := S6.n) (bytes := 48) (xs := []) (ys := out.take k) (OwnT.nil stE _ _) hus1 rfl rfl (Nat.le_refl _) (by simp; omega) (by simp; omega) fun v7 S7 ho7 hb7 hv7 => ?_
    have g7 : S6.Ext S7 := ⟨hb7.n, fun i hi => hb7.obj i hi (by simp [blkOf])⟩
    rw [List.nil_append] at ho7
    have cu7 := cu S7 g7
    simp (disch := omega) only [go_sem, ↓reduceIte, Nat.reduceEqDiff, Nat.reduceAdd, Nat.reduceMul, Nat.reduceSub, Nat.reduceLT, Nat.reduceLeDiff, Nat.reduceBEq, reduceCtorEq, Int.reduceLT, Int.reduceEq, Int.reduceLE, Int.reduceAdd, Int.reduceSub, Int.reduceToNat, Int.reduceNeg, h2, h3, h5, h6, h7, h8, cu7, stC_len]
    refine walloc_sl (stC s) fun w S8 e8 ow hw hwn => ?_
    simp (disch := omega) only [go_sem, ↓reduceIte, Nat.reduceEqDiff, Nat.reduceAdd, Nat.reduceMul, Nat.reduceSub, Nat.reduceLT, Nat.reduceLeDiff, Nat.reduceBEq, reduceCtorEq, Int.reduceLT, Int.reduceEq, Int.reduceLE, Int.reduceAdd, Int.reduceSub, Int.reduceToNat, Int.reduceNeg]
    have hlit : SlT stE S8 (.slice (some ⟨w, 0, none⟩) 1 1) [s] := ⟨_, 1, rfl, Nat.le_refl _, .inr rfl, fun _ => ⟨w, 0, rfl, hw, by rw [St.loadN_def, ow]; rfl⟩⟩
    refine wE_app stE (bytes := 48) (xs := out.take k) (ys := [s]) (ho7.ext stE e8) hlit rfl rfl (Nat.le_trans g7.n e8.n) (by simp only [List.length_singleton]; omega) (by simp only [List.length_singleton]; omega) fun v9 S9 ho9 hb9 hv9 => ?_
    have g9 : S6.Ext S9 := (g7.trans e8).but hb9 fun j hj => (ho7.blk stE j hj).1
    obtain ⟨u2, hu2, hus2⟩ := ((ho5.sl stE).ext stE g9).from stE (l := k) (q := .i64) (i := k) rfl hkl
    replace hu2 : slV 5 _ _ _ _ = _ := hu2
    simp (disch := omega) only [go_sem, ↓reduceIte, Nat.reduceEqDiff, Nat.reduceAdd, Nat.reduceMul, Nat.reduceSub, Nat.reduceLT, Nat.reduceLeDiff, Nat.reduceBEq, reduceCtorEq, Int.reduceLT, Int.reduceEq, Int.reduceLE, Int.reduceAdd, Int.reduceSub, Int.reduceToNat, Int.reduceNeg, h2, h3, h5, h6, h7, h8, hu2]
    have hl2 : (out.drop k).length ≤ out.length := by rw [List.length_drop]; omega
    refine wE_app stE (bytes := 48) (xs := out.take k ++ [s]) (ys := out.drop k) ho9 hus2 rfl rfl g9.n (by simp only [List.length_append, List.length_singleton]; omega) (by simp only [List.length_append, List.length_singleton]; omega) fun v10 S10 ho10 hb10 hv10 => ?_
    have g10 : S6.Ext S10 := g9.but hb10 fun j hj => (ho9.blk stE j hj).1
    have k0 : OwnT stE S2.n S10 v10 (out.take k ++ [s] ++ out.drop k) := ho10.mono stE g5.n
    have k1 : (out.take k ++ [s] ++ out.drop k).Pairwise (fun a b => kltP sp a.1 b.1) := by
      have hsp := hpw
      rw [← List.take_append_drop k out] at hsp
      have hpa := List.pairwise_append.1 hsp
      have hD : ∀ q ∈ out.drop k, kltP sp s.1 q.1 := by
        cases hd : out.drop k with
        | nil => simp
        | cons t r =>
          have ht : t ∈ out := List.mem_of_mem_drop (by rw [hd]; simp)
          have h1 : kltP sp s.1 t.1 := (kltP_total (hnew t ht)).resolve_left (hB t (by rw [hd]; rfl))
          intro q hq
          rcases List.mem_cons.1 hq with rfl | hq
          · exact h1
          · have h2 := hpa.2.1
            rw [hd] at h2
            exact kltP_trans h1 ((List.pairwise_cons.1 h2).1 q hq)
      rw [List.append_assoc]
      refine List.pairwise_append.2 ⟨hpa.1, List.pairwise_cons.2 ⟨hD, hpa.2.1⟩, fun a ha b hb => ?_⟩
      rcases List.mem_cons.1 hb with rfl | hb
      · exact hA a ha
      · exact hpa.2.2 a ha b hb
    have k2 : ∀ q, q ∈ (out.take k ++ [s] ++ out.drop k) ↔ q ∈ sp.take (i + 1) ∧ q.2.1 = p := fun q => by
      have hperm : q ∈ (out.take k ++ [s] ++ out.drop k) ↔ q = s ∨ q ∈ out := by
        rw [List.append_assoc, List.mem_append, List.singleton_append, List.mem_cons]
        conv => rhs; rw [← List.take_append_drop k out, List.mem_append]
        constructor
        · rintro (h | h | h)
          · exact .inr (.inl h)
          · exact .inl h
          · exact .inr (.inr h)
        · rintro (h | h | h)
          · exact .inr (.inl h)
          · exact .inl h
          · exact .inr (.inr h)
      rw [hperm, hm, htk, List.mem_append, List.mem_singleton]
      constructor
      · rintro (rfl | ⟨h1, h2⟩)
        · exact ⟨.inr rfl, hq⟩
        · exact ⟨.inl h1, h2⟩
      · rintro ⟨h1 | h1, h2⟩
        · exact .inr ⟨h1, h2⟩
        · exact .inl h1
    have k3 : (out.take k ++ [s] ++ out.drop k).length ≤ i + 1 := by
      simp only [List.length_append, List.length_singleton, List.length_drop]
      omega
    have k4 := g5.trans g10
    simp (disch := omega) only [go_sem, ↓reduceIte, Nat.reduceEqDiff, Nat.reduceAdd, Nat.reduceMul, Nat.reduceSub, Nat.reduceLT, Nat.reduceLeDiff, Nat.reduceBEq, reduceCtorEq, Int.reduceLT, Int.reduceEq, Int.reduceLE, Int.reduceAdd, Int.reduceSub, Int.reduceToNat, Int.reduceNeg, h2, h3, h6]
    refine ⟨sp.length - (i + 1), by omega, i + 1, out.take k ++ [s] ++ out.drop k, v10, ?_⟩
    repeat' first | assumption | omega | (exact St.Ext.refl _) | (exact List.Perm.refl _) | rfl | (exact .inl trivial) | (exact trivial) | refine And.intro ?_ ?_
  rintro fr S3 ⟨out, v, h5, ho, hpw, hm, hol, g3⟩
  have hkids : IsKids sp p (out.map Prod.fst) := by
    refine ⟨?_, fun d => ?_⟩
    · rw [List.pairwise_map]
      exact hpw
    · rw [List.mem_map]
      constructor
      · rintro ⟨q, hq, rfl⟩
        obtain ⟨h1, h2⟩ := (hm q).1 hq
        exact ⟨q.2, mem_alook hk h1, h2⟩
      · rintro ⟨s, h1, h2⟩
        exact ⟨(d, s), (hm _).2 ⟨alook_mem h1, h2⟩, rfl⟩
  obtain ⟨bv, cv, hv⟩ := (ho.sl stE).len stE
  subst hv
  simp (disch := omega) only [go_sem, ↓reduceIte, Nat.reduceEqDiff, Nat.reduceAdd, Nat.reduceMul, Nat.reduceSub, Nat.reduceLT, Nat.reduceLeDiff, Nat.reduceBEq, reduceCtorEq, Int.reduceLT, Int.reduceEq, Int.reduceLE, Int.reduceAdd, Int.reduceSub, Int.reduceToNat, Int.reduceNeg, h5]
  refine wC_loop (fun n fr S4 => ∃ (i : Nat) (w : Value), n = out.length - i ∧ i ≤ out.length ∧ fr 5 = .slice bv out.length cv ∧ fr 10 = w ∧ fr 11 = .int .i64 (i : Nat) ∧ OwnT dotE S3.n S4 w ((out.map Prod.fst).take i) ∧ S3.Ext S4) out.length
    ⟨0, nilS, by
      have k0 : OwnT dotE S3.n S3 nilS ((out.map Prod.fst).take 0) := OwnT.nil dotE _ _
      simp (disch := omega) only [go_sem, ↓reduceIte, Nat.reduceEqDiff, Nat.reduceAdd, Nat.reduceMul, Nat.reduceSub, Nat.reduceLT, Nat.reduceLeDiff, Nat.reduceBEq, reduceCtorEq, Int.reduceLT, Int.reduceEq, Int.reduceLE, Int.reduceAdd, Int.reduceSub, Int.reduceToNat, Int.reduceNeg]
      repeat' first | assumption | omega | (exact St.Ext.refl _) | (exact List.Perm.refl _) | rfl | (exact .inl trivial) | (exact trivial) | refine And.intro ?_ ?_
      ⟩ ?_
  rintro n fr S4 ⟨i, w, rfl, hi, h5, h10, h11, hw, g4⟩
  simp (disch := omega) only [go_sem, ↓reduceIte, Nat.reduceEqDiff, Nat.reduceAdd, Nat.reduceMul, Nat.reduceSub, Nat.reduceLT, Nat.reduceLeDiff, Nat.reduceBEq, reduceCtorEq, Int.reduceLT, Int.reduceEq, Int.reduceLE, Int.reduceAdd, Int.reduceSub, Int.reduceToNat, Int.reduceNeg, F.osierref10_Tree_Kids.l2, h5, h10, h11]
  refine wcond_dec (fun hlt => ?_) (fun hge => ?_)
  · have hli : i < out.length := by omega
    have hli' : i < (out.map Prod.fst).length := by simpa using hli
    have c1 : (0 : Int) ≤ (i : Int) ∧ (i : Int) < (out.length : Int) := by omega
    obtain ⟨b0, o0, rfl, hb, ⟨x1, -⟩, -⟩ := ((ho.sl stE).ext stE g4).stt hli
    have hts : (out.map Prod.fst).take (i + 1) = (out.map Prod.fst).take i ++ [out[i].1] := by
      rw [take_snoc (List.getElem?_eq_getElem hli')]
      simp
    have htl : ((out.map Prod.fst).take i).length = i := by rw [List.length_take]; simp; omega
    generalize (out.map Prod.fst).take i = Y at *
    simp (disch := omega) only [go_sem, ↓reduceIte, Nat.reduceEqDiff, Nat.reduceAdd, Nat.reduceMul, Nat.reduceSub, Nat.reduceLT, Nat.reduceLeDiff, Nat.reduceBEq, reduceCtorEq, Int.reduceLT, Int.reduceEq, Int.reduceLE, Int.reduceAdd, Int.reduceSub, Int.reduceToNat, Int.reduceNeg, h5, h10, h11, c1, x1]
    refine walloc_sl [.int .i64 out[i].1.1, .int .i64 out[i].1.2] fun u S5 e5 ou hu hun => ?_
    simp (disch := omega) only [go_sem, ↓reduceIte, Nat.reduceEqDiff, Nat.reduceAdd, Nat.reduceMul, Nat.reduceSub, Nat.reduceLT, Nat.reduceLeDiff, Nat.reduceBEq, reduceCtorEq, Int.reduceLT, Int.reduceEq, Int.reduceLE, Int.reduceAdd, Int.reduceSub, Int.reduceToNat, Int.reduceNeg, h10]
    have hlit : SlT dotE S5 (.slice (some ⟨u, 0, none⟩) 1 1) [out[i].1] := ⟨_, 1, rfl, Nat.le_refl _, .inr rfl, fun _ => ⟨u, 0, rfl, hu, by rw [St.loadN_def, ou]; rfl⟩⟩
    refine wE_app dotE (bytes := 16) (xs := Y) (ys := [out[i].1]) (hw.ext dotE e5) hlit rfl rfl (Nat.le_trans g4.n e5.n) (by simp only [List.length_singleton]; omega) (by simp only [List.length_singleton]; omega) fun v6 S6 ho6 hb6 hv6 => ?_
    have g6 : S3.Ext S6 := (g4.trans e5).but hb6 fun j hj => (hw.blk dotE j hj).1
    rw [← hts] at ho6
    simp (disch := omega) only [go_sem, ↓reduceIte, Nat.reduceEqDiff, Nat.reduceAdd, Nat.reduceMul, Nat.reduceSub, Nat.reduceLT, Nat.reduceLeDiff, Nat.reduceBEq, reduceCtorEq, Int.reduceLT, Int.reduceEq, Int.reduceLE, Int.reduceAdd, Int.reduceSub, Int.reduceToNat, Int.reduceNeg, h5, h11]
    refine ⟨out.length - (i + 1), by omega, i + 1, v6, ?_⟩
    repeat' first | assumption | omega | (exact St.Ext.refl _) | (exact List.Perm.refl _) | rfl | (exact .inl trivial) | (exact trivial) | refine And.intro ?_ ?_
  · simp (disch := omega) only [go_sem, ↓reduceIte, Nat.reduceEqDiff, Nat.reduceAdd, Nat.reduceMul, Nat.reduceSub, Nat.reduceLT, Nat.reduceLeDiff, Nat.reduceBEq, reduceCtorEq, Int.reduceLT, Int.reduceEq, Int.reduceLE, Int.reduceAdd, Int.reduceSub, Int.reduceToNat, Int.reduceNeg, h10]
    rw [List.take_of_length_le (by simp; omega)] at hw
    exact ⟨⟨_, hkids, hw.mono dotE (Nat.le_trans g2.n g3.n)⟩, (g2.trans g3).trans g4⟩
end Go.Osj
