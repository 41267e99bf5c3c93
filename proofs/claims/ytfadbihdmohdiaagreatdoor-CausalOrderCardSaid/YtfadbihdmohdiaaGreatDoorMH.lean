/- Operations put in order, as the document says: Order. -/
import Derived.Test.YtfadbihdmohdiaaGreatDoorMG
set_option linter.unusedVariables false
set_option linter.unusedSimpArgs false
set_option maxHeartbeats 2000000
namespace Go.Osj
theorem F.osierref08_Order_J {S : St} {l : Value} {ps : List OpR} (hl : SlT opE S l ps) (hd : DepsT S ps) (hn : ps.length < 1000) (hD : ∀ p ∈ ps, p.1.deps.length < 20000) :
    J PR F.osierref08_Order [l] S fun v S' => ∃ va vb pa pb, v = .tuple #[va, vb] ∧ SlT opE S' va pa ∧ SlT opE S' vb pb ∧ DepsT S' pa ∧ DepsT S' pb ∧ (pa.map Prod.fst, pb.map Prod.fst) = orderA (ps.map Prod.fst) ∧ S.Ext S' := by
  obtain ⟨base, cap, rfl⟩ := hl.len opE
  refine J_by PR.mixed F.osierref08_Order.ok (by simp) ?_
  simp (disch := omega) only [go_sem, simprocAttr]
  refine wJ_of (F.osierref08_Counted_J hl hd hn hD) ?_; rintro vr S3 ⟨qs, ho1, hq1, hqp, g3⟩
  have hqD : ∀ p ∈ qs, p.1.deps.length < 20000 := fun p hp => hD p (hqp p hp)
  have hql : qs.length ≤ ps.length := by
    have h1 := congrArg List.length hq1
    have h2 := counted_len (ps.map Prod.fst)
    rw [List.length_map] at h1 h2
    omega
  have T3 : OrdT S3 S.n vr nilS nilS qs [] [] := {
    rest := ho1.row opE
    done := OwnT.nil opE _ _
    hav := (OwnT.nil dotE 0 _).sl dotE
    hap := fun j hj => by simp [blkOf] at hj
    dr := fun p hp => by
      have h1 := hd p (hqp p hp)
      refine ⟨h1.ext dotE g3, fun hne j hj => ?_⟩
      have h2 := h1.blk_lt dotE hne j hj
      refine ⟨Nat.lt_of_lt_of_le h2 g3.n, fun h => ?_, fun h => by simp [blkOf] at h⟩
      have := (ho1.blk opE j h).1
      omega
    dd := fun p hp => by simp at hp
    ne := fun j hj h => by simp [blkOf] at h }
  simp (disch := omega) only [go_sem, simprocAttr]
  refine wC_loop (fun n fr S4 => ∃ (vr vd vh : Value) (pr pd : List OpR) (v : List Dot), n = pr.length ∧ fr 4 = vr ∧ fr 5 = vd ∧ fr 6 = vh ∧ OrdT S4 S.n vr vd vh pr pd v ∧ isV v ∧ v.length ≤ pd.length ∧ pr.length + pd.length ≤ 1000 ∧ (∀ p ∈ pr, p.1.deps.length < 20000) ∧ ordA (pd.map Prod.fst) v (pr.map Prod.fst) = orderA (ps.map Prod.fst) ∧ S.Ext S4) qs.length
    ⟨vr, nilS, nilS, qs, [], [], by
      have k0 : ordA (([] : List OpR).map Prod.fst) [] (qs.map Prod.fst) = orderA (ps.map Prod.fst) := by rw [hq1]; rfl
      have k1 : isV [] := isV_nil
      have k2 : qs.length + ([] : List OpR).length ≤ 1000 := by simp; omega
      have k3 : ([] : List Dot).length ≤ ([] : List OpR).length := Nat.le_refl _
      simp (disch := omega) only [go_sem, simprocAttr]
      repeat' first | assumption | omega | (exact St.Ext.refl _) | (exact List.Perm.refl _) | rfl | (exact .inl trivial) | (exact trivial) | refine And.intro ?_ ?_
      ⟩ ?_
  rintro n fr S4 ⟨vr, vd, vh, pr, pd, v, rfl, h4, h5, h6, T4, hv, hvl, hlen, hdl, hord, g4⟩
  obtain ⟨br, cr, hvr⟩ := (T4.rest.sl opE).len opE
  subst hvr
  simp (disch := omega) only [go_sem, simprocAttr, F.osierref08_Order.l1, h4, h5, h6]
  refine wC_at 2 (fun fr S5 => S4 = S5 ∧ fr 4 = .slice br pr.length cr ∧ fr 5 = vd ∧ fr 6 = vh ∧ ((fr 7 = .int .i64 (-1) ∧ ∀ o ∈ pr.map Prod.fst, readyA v o ≠ 0) ∨ ∃ k : Nat, ∃ hk : k < pr.length, fr 7 = .int .i64 (k : Nat) ∧ (∀ o ∈ (pr.map Prod.fst).take k, readyA v o ≠ 0) ∧ readyA v pr[k].1 = 0)) ?_ ?_
  · refine wC_loop (fun n fr S5 => ∃ i : Nat, n = i ∧ i ≤ pr.length ∧ S4 = S5 ∧ fr 4 = .slice br pr.length cr ∧ fr 5 = vd ∧ fr 6 = vh ∧ fr 8 = .int .i64 ((i : Int) - 1) ∧
        ((fr 7 = .int .i64 (-1) ∧ ∀ j, (hj : j < pr.length) → i ≤ j → readyA v pr[j].1 ≠ 0) ∨ ∃ k : Nat, ∃ hk : k < pr.length, i ≤ k ∧ fr 7 = .int .i64 (k : Nat) ∧ (∀ j, (hj : j < pr.length) → i ≤ j → j < k → readyA v pr[j].1 ≠ 0) ∧ readyA v pr[k].1 = 0)) pr.length
      ⟨pr.length, by
        have k0 : ∀ j, (hj : j < pr.length) → pr.length ≤ j → readyA v pr[j].1 ≠ 0 := fun j hj h => by omega
        simp (disch := omega) only [go_sem, simprocAttr, h4, h5, h6]
        exact ⟨Nat.le_refl _, .inl k0⟩
        ⟩ ?_
    rintro i fr S5 ⟨i', hi', hi, rfl, h4, h5, h6, h8, hk⟩
    subst hi'
    simp (disch := omega) only [go_sem, simprocAttr, F.osierref08_Order.l0, h4, h5, h6, h8]
    refine wcond_dec (fun hge => ?_) (fun hlt => ?_)
    rotate_left
    · have hi0 : i = 0 := by omega
      subst hi0
      simp (disch := omega) only [go_sem, simprocAttr, h4, h5, h6]
      rcases hk with ⟨h7, hk⟩ | ⟨k, hkl, -, h7, hk, hk0⟩
      · refine .inl ⟨h7, fun o ho => ?_⟩
        obtain ⟨p, hp, rfl⟩ := List.mem_map.1 ho
        obtain ⟨j, hj, rfl⟩ := List.mem_iff_getElem.1 hp
        exact hk j hj (Nat.zero_le _)
      · refine .inr ⟨k, hkl, h7, fun o ho => ?_, hk0⟩
        obtain ⟨j, hj, rfl⟩ := List.mem_take_iff_getElem.1 ho
        rw [List.getElem_map]
        rw [List.length_map] at hj
        exact hk j (by omega) (Nat.zero_le _) (by omega)
    obtain ⟨m, rfl⟩ : ∃ m, i = m + 1 := ⟨i - 1, by omega⟩
    have hlx : m < pr.length := by omega
    have e8 : (((m + 1 : Nat) : Int) - 1) = (m : Int) := by omega
    rw [e8] at h8
    have c1 : (0 : Int) ≤ (m : Int) ∧ (m : Int) < (pr.length : Int) := by omega
    have hmem := List.getElem_mem hlx
    have hDi := hdl pr[m] hmem
    obtain ⟨b, off, rfl, hb, -, x14⟩ := (T4.rest.sl opE).op hlx
    have hd7 := (T4.dr pr[m] hmem).1
    simp (disch := omega) only [go_sem, simprocAttr, h4, h5, h6, h8, c1, x14, opC_len, opC_toList]
    refine wJ_of (F.osierref08_Ready_J (o := pr[m].1) T4.hav hd7 (by omega) (by omega)) ?_; rintro _ _ ⟨rfl, rfl⟩
    by_cases hr : readyA v pr[m].1 = 0
    · simp (disch := omega) only [go_sem, simprocAttr, hr, h4, h5, h6, h8]
      refine ⟨m, by omega, m, ?_⟩
      have k1 : ∀ j, (hj : j < pr.length) → m ≤ j → j < m → readyA v pr[j].1 ≠ 0 := fun j hj h1 h2 => by omega
      have k2 : ∃ k : Nat, ∃ hk : k < pr.length, m ≤ k ∧ Value.int .i64 (m : Int) = Value.int .i64 (k : Nat) ∧ (∀ j, (hj : j < pr.length) → m ≤ j → j < k → readyA v pr[j].1 ≠ 0) ∧ readyA v pr[k].1 = 0 := ⟨m, hlx, Nat.le_refl _, rfl, k1, hr⟩
      exact ⟨rfl, by omega, rfl, .inr k2⟩
    · simp (disch := omega) only [go_sem, simprocAttr, hr, h4, h5, h6, h8]
      refine ⟨m, by omega, m, rfl, by omega, rfl, ?_⟩
      rcases hk with ⟨h7, hk⟩ | ⟨k, hkl, hik, h7, hk, hk0⟩
      · refine .inl ⟨h7, fun j hj hij => ?_⟩
        by_cases hjm : j = m
        · subst hjm; exact hr
        · exact hk j hj (by omega)
      · refine .inr ⟨k, hkl, by omega, h7, fun j hj h1 h2 => ?_, hk0⟩
        by_cases hjm : j = m
        · subst hjm; exact hr
        · exact hk j hj (by omega) h2
  rintro fr S5 ⟨rfl, h4, h5, h6, hk⟩
  rcases hk with ⟨h7, hall⟩ | ⟨k, hlx, h7, hno, hr⟩
  · simp (disch := omega) only [go_sem, simprocAttr, h4, h5, h6, h7]
    rw [ordA_none hall] at hord
    exact ⟨vd, _, pd, pr, rfl, T4.done.sl opE, T4.rest.sl opE, fun p hp => (T4.dd p hp).1, fun p hp => (T4.dr p hp).1, hord, g4⟩
  have d1 : ¬ ((k : Int) < 0) := by omega
  have c1 : (0 : Int) ≤ (k : Int) ∧ (k : Int) < (pr.length : Int) := by omega
  have hmem := List.getElem_mem hlx
  have hmap : (pr.map Prod.fst)[k]? = some pr[k].1 := by rw [List.getElem?_map, List.getElem?_eq_getElem hlx]; rfl
  obtain ⟨u1, hu1, hs1⟩ := (T4.rest.sl opE).to opE (q := .i64) (i := (k : Int)) (k := k) rfl (by omega)
  obtain ⟨u2, hu2, hs2⟩ := (T4.rest.sl opE).from opE (q := .i64) (i := ((k + 1 : Nat) : Int)) (l := k + 1) rfl (by omega)
  replace hu1 : slV 14 (.slice br pr.length cr) none (some (.int .i64 (k : Nat))) none = some u1 := hu1
  replace hu2 : slV 14 (.slice br pr.length cr) (some (.int .i64 ((k : Int) + 1))) none none = some u2 := hu2
  have hop : ∃ b off, br = some ⟨b, off, none⟩ ∧ ∀ S', RowT opE S.n S' (.slice br pr.length cr) pr → (S'.loadN ⟨b, off + k * 14, none⟩ 2 = some [.int .i64 pr[k].1.id.1, .int .i64 pr[k].1.id.2] ∧ S'.loadN ⟨b, off + k * 14, none⟩ 14 = some (opC pr[k].1 (slOf pr[k].2))) := by
    obtain ⟨b, off, hb, -, -, -⟩ := (T4.rest.sl opE).op hlx
    refine ⟨b, off, hb, fun S' h => ?_⟩
    obtain ⟨b', off', hb', -, ⟨x1, -⟩, x14⟩ := (h.sl opE).op hlx
    rw [hb] at hb'
    injection hb' with hb'
    injection hb' with hb1 hb2
    subst hb1 hb2
    exact ⟨x1, x14⟩
  obtain ⟨b, off, rfl, hld⟩ := hop
  have x14 := (hld S4 T4.rest).2
  obtain ⟨p, hpi⟩ : ∃ p, p = pr[k] := ⟨_, rfl⟩
  rw [← hpi] at hmem hmap hr x14
  simp only [← hpi] at hld
  obtain ⟨o, t⟩ := p
  dsimp only at hmap hr hld x14
  simp (disch := omega) only [go_sem, simprocAttr, h4, h5, h6, h7, d1, c1, x14, opC_len, opC_toList]
  refine walloc_sl (opC o (slOf t)) fun u S8 e8 ou hu hun => ?_
  have T8 := T4.ext e8
  have hlit : SlT opE S8 (.slice (some ⟨u, 0, none⟩) 1 1) [(o, t)] := ⟨_, 1, rfl, Nat.le_refl _, .inr rfl, fun _ => ⟨u, 0, rfl, hu, by rw [St.loadN_def, ou]; rfl⟩⟩
  have hgn := (g4.trans e8).n
  simp (disch := omega) only [go_sem, simprocAttr, h5]
  refine wE_app opE (bytes := 136) (xs := pd) (ys := [(o, t)]) T8.done hlit rfl rfl hgn (by simp only [List.length_singleton]; omega) (by simp only [List.length_singleton]; omega) fun v9 S9 ho9 hb9 hv9 => ?_
  have T9 := T8.push hmem ho9 hb9 hv9
  have g9 : S.Ext S9 := (g4.trans e8).but hb9 fun j hj => (T8.done.blk opE j hj).1
  have x1 := (hld S9 T9.rest).1
  simp (disch := omega) only [go_sem, simprocAttr, h4, h5, h6, h7, c1, x1]
  refine wJ_of (F.osierref04_With_O (d := o.id) T9.hav hv (by omega)) ?_; rintro v10 S10 ⟨ho10, e10⟩
  have T10 := T9.have' (vh' := v10) (v' := withV v o.id) (by rcases ho10 with h | h; exact .inl h; exact .inr h) e10
  have g10 := g9.trans e10
  have hs1' := (T10.rest.sl opE)
  have hs1x : SlT opE S10 u1 (pr.take k) := by
    obtain ⟨u1', hu1', h⟩ := (T10.rest.sl opE).to opE (q := .i64) (i := (k : Int)) (k := k) rfl (by omega)
    replace hu1' : slV 14 _ none (some (.int .i64 (k : Nat))) none = some u1' := hu1'
    rw [hu1] at hu1'
    injection hu1' with hu1'
    rw [hu1']
    exact h
  have hs2x : SlT opE S10 u2 (pr.drop (k + 1)) := by
    obtain ⟨u2', hu2', h⟩ := (T10.rest.sl opE).from opE (q := .i64) (i := ((k + 1 : Nat) : Int)) (l := k + 1) rfl (by omega)
    replace hu2' : slV 14 _ (some (.int .i64 ((k : Int) + 1))) none none = some u2' := hu2'
    rw [hu2] at hu2'
    injection hu2' with hu2'
    rw [hu2']
    exact h
  simp (disch := omega) only [go_sem, simprocAttr, h4, h5, h6, h7, hu1]
  refine wE_app opE (bytes := 136) (B := S10.n) (xs := []) (ys := pr.take k) (OwnT.nil opE _ _) hs1x rfl rfl (Nat.le_refl _) (by simp only [List.length_nil, List.length_take]; omega) (by simp only [List.length_nil, List.length_take]; omega) fun v11 S11 ho11 hb11 hv11 => ?_
  rw [List.nil_append] at ho11
  have e11 : S10.Ext S11 := (St.Ext.refl S10).but hb11 fun j hj => by simp [blkOf] at hj
  simp (disch := omega) only [go_sem, simprocAttr, h4, h7, hu2]
  refine wE_app opE (bytes := 136) (xs := pr.take k) (ys := pr.drop (k + 1)) ho11 (hs2x.ext opE e11) rfl rfl e11.n (by simp only [List.length_take, List.length_drop]; omega) (by simp only [List.length_take, List.length_drop]; omega) fun v12 S12 ho12 hb12 hv12 => ?_
  have e12 : S10.Ext S12 := e11.but hb12 fun j hj => (ho11.blk opE j hj).1
  have T12 := T10.rest' ho12 g10.n (fun p hp => mem_cut hp) e12
  simp (disch := omega) only [go_sem, simprocAttr, h4, h5, h6]
  refine ⟨(pr.take k ++ pr.drop (k + 1)).length, by simp only [List.length_append, List.length_take, List.length_drop]; omega, v12, v9, v10, _, _, _, rfl, rfl, rfl, rfl, T12, withV_is hv _, ?_, ?_, fun p hp => hdl p (mem_cut hp), ?_, g10.trans e12⟩
  · have := withV_len v o.id
    simp only [List.length_append, List.length_singleton]
    omega
  · simp only [List.length_append, List.length_take, List.length_drop, List.length_singleton]
    omega
  · have hlm : k < (pr.map Prod.fst).length := by rw [List.length_map]; exact hlx
    have hge : (pr.map Prod.fst)[k] = o := Option.some.inj ((List.getElem?_eq_getElem hlm).symm.trans hmap)
    have hst := ordA_step (done := pd.map Prod.fst) (v := v) hlm hno (by rw [hge]; exact hr)
    rw [hge] at hst
    rw [map_cut, List.map_append, List.map_singleton, ← hst]
    exact hord
end Go.Osj
