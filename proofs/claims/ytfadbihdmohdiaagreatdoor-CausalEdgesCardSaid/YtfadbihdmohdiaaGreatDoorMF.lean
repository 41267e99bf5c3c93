/- Operations put in order. -/
import Derived.Test.YtfadbihdmohdiaaGreatDoorME
set_option linter.unusedVariables false
set_option linter.unusedSimpArgs false
set_option maxHeartbeats 2000000
namespace Go.Osj
theorem map_cut {α β : Type} (f : α → β) (l : List α) (i : Nat) : (l.take i ++ l.drop (i + 1)).map f = (l.map f).take i ++ (l.map f).drop (i + 1) := by
  rw [List.map_append, List.map_take, List.map_drop]
theorem mem_cut {α : Type} {l : List α} {i : Nat} {x : α} (h : x ∈ l.take i ++ l.drop (i + 1)) : x ∈ l := by
  rcases List.mem_append.1 h with h | h
  · exact List.mem_of_mem_take h
  · exact List.mem_of_mem_drop h
theorem F.causal_Order_J {S : St} {l : Value} {ps : List OpR} (hl : SlT opE S l ps) (hd : DepsT S ps) (hn : ps.length < 1000) (hD : ∀ p ∈ ps, p.1.deps.length < 20000) :
    J PR F.causal_Order [l] S fun v S' => ∃ va vb pa pb, v = .tuple #[va, vb] ∧ SlT opE S' va pa ∧ SlT opE S' vb pb ∧ DepsT S' pa ∧ DepsT S' pb ∧ (pa.map Prod.fst, pb.map Prod.fst) = orderA (ps.map Prod.fst) ∧ S.Ext S' := by
  obtain ⟨base, cap, rfl⟩ := hl.len opE
  refine J_by PR.mixed F.causal_Order.ok (by simp) ?_
  simp (disch := omega) only [go_sem, simprocAttr]
  refine wJ_of (F.causal_counted_J hl hd hn hD) ?_; rintro vr S1 ⟨qs, ho1, hq1, hd1, e1⟩
  have hqm : ∀ p ∈ qs, p.1 ∈ ps.map Prod.fst := fun p hp => by
    have h1 : p.1 ∈ countedA (ps.map Prod.fst) := by rw [← hq1]; exact List.mem_map_of_mem hp
    have K := keptI (ps.map Prod.fst)
    exact (K.may _ (K.perm.mem_iff.1 h1)).2
  have hqD : ∀ p ∈ qs, p.1.deps.length < 20000 := fun p hp => by
    obtain ⟨r, h1, h2⟩ := List.mem_map.1 (hqm p hp)
    rw [← h2]
    exact hD r h1
  have hql : qs.length ≤ ps.length := by
    have h1 := congrArg List.length hq1
    have h2 := counted_len (ps.map Prod.fst)
    rw [List.length_map] at h1 h2
    omega
  simp (disch := omega) only [go_sem, simprocAttr]
  refine walloc_sl (n := 0) (m := 0) [] fun db S2 e2 odb hdb hdbn => ?_
  simp (disch := omega) only [go_sem, simprocAttr]
  refine walloc_sl (n := 0) (m := 0) [] fun vb S3 e3 ovb hvb hvbn => ?_
  have hdv : db < S3.n := Nat.lt_of_lt_of_le hdb e3.n
  have T3 : OrdT S3 S.n vr (.slice (some ⟨db, 0, none⟩) 0 0) (.slice (some ⟨vb, 0, none⟩) 0 0) qs [] [] := by
    have hrl : ∀ j, blkOf vr = some j → j < S1.n := fun j hj => (ho1.blk opE j hj).2
    exact {
      rest := (ho1.row opE).ext opE (e2.trans e3)
      done := .inr ⟨db, 0, rfl, Nat.le_trans e1.n hdbn, hdv, Nat.le_refl _, (e3.obj db hdb).trans odb⟩
      hav := OwnT.sl dotE (B := 0) (.inr ⟨vb, 0, rfl, Nat.zero_le _, hvb, Nat.le_refl _, ovb⟩)
      hap := fun j hj => by
        simp [blkOf] at hj
        subst hj
        refine ⟨hvb, fun h => ?_, fun h => ?_⟩
        · have := hrl _ h; have := e2.n; omega
        · simp [blkOf] at h; omega
      dr := fun p hp => ⟨(hd1 p hp).1.ext dotE (e2.trans e3), fun _ j hj => by
        obtain ⟨h1, h2⟩ := (hd1 p hp).2 j hj
        refine ⟨Nat.lt_of_lt_of_le h1 (e2.trans e3).n, h2, fun h => ?_⟩
        simp [blkOf] at h; omega⟩
      dd := fun p hp => by simp at hp
      ne := fun j hj h => by
        have := hrl j hj
        simp [blkOf] at h; omega }
  have g3 : S.Ext S3 := (e1.trans e2).trans e3
  simp (disch := omega) only [go_sem, simprocAttr]
  refine wC_loop (fun n fr S4 => ∃ (vr vd vh : Value) (pr pd : List OpR) (v : List Dot), n = pr.length ∧ fr 4 = vr ∧ fr 5 = vd ∧ fr 6 = vh ∧ OrdT S4 S.n vr vd vh pr pd v ∧ isV v ∧ v.length ≤ pd.length ∧ pr.length + pd.length ≤ 1000 ∧ (∀ p ∈ pr, p.1.deps.length < 20000) ∧ ordA (pd.map Prod.fst) v (pr.map Prod.fst) = orderA (ps.map Prod.fst) ∧ S.Ext S4) qs.length
    ⟨vr, .slice (some ⟨db, 0, none⟩) 0 0, .slice (some ⟨vb, 0, none⟩) 0 0, qs, [], [], by
      have k0 : ordA (([] : List OpR).map Prod.fst) [] (qs.map Prod.fst) = orderA (ps.map Prod.fst) := by rw [hq1]; rfl
      have k1 : isV [] := isV_nil
      have k2 : qs.length + ([] : List OpR).length ≤ 1000 := by simp; omega
      have k3 : ([] : List Dot).length ≤ ([] : List OpR).length := Nat.le_refl _
      simp (disch := omega) only [go_sem, simprocAttr]
      repeat' first | assumption | omega | (exact St.Ext.refl _) | (exact List.Perm.refl _) | rfl | (exact .inl trivial) | (exact trivial) | refine And.intro ?_ ?_
      ⟩ ?_
  rintro n fr S4 ⟨vr, vd, vh, pr, pd, v, rfl, h4, h5, h6, T4, hv, hvl, hlen, hdl, hord, g4⟩
  obtain ⟨br, cr, hvr⟩ := (T4.rest.sl opE).len opE
  subst hvr
  simp (disch := omega) only [go_sem, simprocAttr, F.causal_Order.l1, h4, h5, h6]
  refine wC_at 2 (fun fr S5 => fr 4 = .slice br pr.length cr ∧ fr 5 = vd ∧ OrdT S5 S.n (.slice br pr.length cr) vd vh pr pd v ∧ (∀ o ∈ pr.map Prod.fst, readyA v o ≠ 0) ∧ S.Ext S5) ?_ ?_
  · refine wC_loop (fun n fr S5 => ∃ i : Nat, n = pr.length - i ∧ i ≤ pr.length ∧ fr 4 = .slice br pr.length cr ∧ fr 5 = vd ∧ fr 6 = vh ∧ fr 13 = .slice br pr.length cr ∧ fr 14 = .int .i64 pr.length ∧ fr 15 = .int .i64 (i : Nat) ∧ OrdT S5 S.n (.slice br pr.length cr) vd vh pr pd v ∧ (∀ o ∈ (pr.map Prod.fst).take i, readyA v o ≠ 0) ∧ S.Ext S5) pr.length
      ⟨0, by
        have k0 : ∀ o ∈ (pr.map Prod.fst).take 0, readyA v o ≠ 0 := by simp
        simp (disch := omega) only [go_sem, simprocAttr, h4, h5, h6]
        repeat' first | assumption | omega | (exact St.Ext.refl _) | (exact List.Perm.refl _) | rfl | (exact .inl trivial) | (exact trivial) | refine And.intro ?_ ?_
        ⟩ ?_
    rintro n fr S5 ⟨i, rfl, hi, h4, h5, h6, h13, h14, h15, T5, hno, g5⟩
    simp (disch := omega) only [go_sem, simprocAttr, F.causal_Order.l0, h4, h5, h6, h13, h14, h15]
    refine wcond_dec (fun hlt => ?_) (fun hge => ?_)
    rotate_left
    · have hall : ∀ o ∈ pr.map Prod.fst, readyA v o ≠ 0 := by rwa [List.take_of_length_le (by rw [List.length_map]; omega)] at hno
      simp (disch := omega) only [go_sem, simprocAttr, h4, h5]
      repeat' first | assumption | omega | (exact St.Ext.refl _) | (exact List.Perm.refl _) | rfl | (exact .inl trivial) | (exact trivial) | refine And.intro ?_ ?_
    have hlx : i < pr.length := by omega
    have c1 : (0 : Int) ≤ (i : Int) ∧ (i : Int) < (pr.length : Int) := by omega
    have hmem := List.getElem_mem hlx
    have hmap : (pr.map Prod.fst)[i]? = some pr[i].1 := by rw [List.getElem?_map, List.getElem?_eq_getElem hlx]; rfl
    have hDi := hdl pr[i] hmem
    obtain ⟨b, off, rfl, hb, -, x14⟩ := (T5.rest.sl opE).op hlx
    obtain ⟨p, hpi⟩ : ∃ p, p = pr[i] := ⟨_, rfl⟩
    rw [← hpi] at hmem hmap hDi x14
    obtain ⟨o, t⟩ := p
    simp only at hmap hDi x14
    simp (disch := omega) only [go_sem, simprocAttr, h4, h5, h6, h13, h14, h15, c1, x14, opC_len, opC_toList]
    refine walloc_O fun x S6 e6 hx6 hxn => ?_
    simp (disch := omega) only [go_sem, simprocAttr]
    refine wst_op o (slOf t) hx6 rfl rfl (by decide) rfl fun S7 hx7 b7 => ?_
    have e57 : S5.Ext S7 := e6.but b7 fun j hj => by simp [blkOf] at hj; omega
    have T7 := T5.ext e57
    have g7 := g5.trans e57
    have cx7 := hx7.c
    have hd7 := (T7.dr (o, t) hmem).1
    simp (disch := omega) only [go_sem, simprocAttr, h4, h5, h6, h13, h14, h15, cx7, opC_len, opC_toList]
    refine wJ_of (F.causal_Ready_J (o := o) T7.hav hd7 (by omega) (by omega)) ?_; rintro _ _ ⟨rfl, rfl⟩
    by_cases hr : readyA v o = 0
    rotate_left
    · have hno' : ∀ q ∈ (pr.map Prod.fst).take (i + 1), readyA v q ≠ 0 := by
        rw [take_snoc hmap]
        intro q hq
        rcases List.mem_append.1 hq with hq | hq
        · exact hno q hq
        · obtain rfl : q = o := by simpa using hq
          exact hr
      simp (disch := omega) only [go_sem, simprocAttr, hr, h4, h5, h6, h13, h14, h15]
      refine ⟨pr.length - (i + 1), by omega, i + 1, ?_⟩
      repeat' first | assumption | omega | (exact St.Ext.refl _) | (exact List.Perm.refl _) | rfl | (exact .inl trivial) | (exact trivial) | refine And.intro ?_ ?_
    simp (disch := omega) only [go_sem, simprocAttr, hr, h4, h5, h6, h13, h14, h15, cx7, opC_len, opC_toList]
    refine walloc_sl (opC o (slOf t)) fun u S8 e8 ou hu hun => ?_
    have T8 := T7.ext e8
    have hlit : SlT opE S8 (.slice (some ⟨u, 0, none⟩) 1 1) [(o, t)] := ⟨_, 1, rfl, Nat.le_refl _, .inr rfl, fun _ => ⟨u, 0, rfl, hu, by rw [St.loadN_def, ou]; rfl⟩⟩
    have hgn := (g7.trans e8).n
    have cx8 := (hx7.ext e8).c
    simp (disch := omega) only [go_sem, simprocAttr, h5, cx8]
    refine wE_app opE (bytes := 136) (xs := pd) (ys := [(o, t)]) T8.done hlit rfl rfl hgn (by simp only [List.length_singleton]; omega) (by simp only [List.length_singleton]; omega) fun v9 S9 ho9 hb9 hv9 => ?_
    have T9 := T8.push hmem ho9 hb9 hv9
    have hxvd : blkOf vd ≠ some x := fun h => by have := T5.lt.2 x h; omega
    have cx9 := ((hx7.ext e8).but hb9 hxvd).c
    have g9 : S.Ext S9 := (g7.trans e8).but hb9 fun j hj => (T8.done.blk opE j hj).1
    simp (disch := omega) only [go_sem, simprocAttr, h4, h5, h6, h13, h14, h15, cx9]
    refine wJ_of (F.vector_With_J (d := o.id) T9.hav hv (by omega)) ?_; rintro v10 S10 ⟨ho10, e10⟩
    have T10 := T9.have' (.inr ho10) e10
    have g10 := g9.trans e10
    simp (disch := omega) only [go_sem, simprocAttr, h4, h5, h6, h13, h14, h15]
    refine wJ_of (F.slices_Delete_op_J (i := i) T10.rest hlx (by omega)) ?_; rintro v11 S11 ⟨hr11, b11, hb11⟩
    have T11 := T10.del hr11 (fun p hp => mem_cut hp) b11 hb11
    have g11 : S.Ext S11 := g10.but b11 fun j hj => (T10.rest.blk opE j hj).1
    simp (disch := omega) only [go_sem, simprocAttr, h4, h5, h6]
    refine ⟨(pr.take i ++ pr.drop (i + 1)).length, by simp only [List.length_append, List.length_take, List.length_drop]; omega, v11, v9, v10, _, _, _, rfl, rfl, rfl, rfl, T11, withV_is hv _, ?_, ?_, fun p hp => hdl p (mem_cut hp), ?_, g11⟩
    · have := withV_len v o.id
      simp only [List.length_append, List.length_singleton]
      omega
    · simp only [List.length_append, List.length_take, List.length_drop, List.length_singleton]
      omega
    · have hlm : i < (pr.map Prod.fst).length := by rw [List.length_map]; exact hlx
      have hge : (pr.map Prod.fst)[i] = o := Option.some.inj ((List.getElem?_eq_getElem hlm).symm.trans hmap)
      have hst := ordA_step (done := pd.map Prod.fst) (v := v) hlm hno (by rw [hge]; exact hr)
      rw [hge] at hst
      rw [map_cut, List.map_append, List.map_singleton, ← hst]
      exact hord
  rintro fr S5 ⟨h4, h5, T5, hall, g5⟩
  simp (disch := omega) only [go_sem, simprocAttr, h4, h5]
  rw [ordA_none hall] at hord
  exact ⟨vd, _, pd, pr, rfl, T5.done.sl opE, T5.rest.sl opE, fun p hp => (T5.dd p hp).1, fun p hp => (T5.dr p hp).1, hord, g5⟩
end Go.Osj
