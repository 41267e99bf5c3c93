/- Operations put in order, as the document says. -/
import Derived.Test.YtfadbihdmohdiaaGreatDoorMF
set_option linter.unusedVariables false
set_option linter.unusedSimpArgs false
set_option maxHeartbeats 2000000
namespace Go.Osj
theorem F.osierref08_Known_J {S : St} {l : Value} {ps : List OpR} {d : Dot} (hl : SlT opE S l ps) (hL : ps.length < 100000) : J PR F.osierref08_Known [l, dotV d] S fun v S' => v = .bool (decide (d ∈ (ps.map Prod.fst).map OpA.id)) ∧ S = S' := by
  obtain ⟨base, cap, rfl⟩ := hl.len opE
  refine J.back (J_by PR.mixed F.osierref08_Known.ok (by simp) ?_)
  simp (disch := omega) only [go_sem, simprocAttr]
  refine walloc_x [.int .i64 d.1, .int .i64 d.2] fun x S1 e1 ox hx hxn => ?_
  have c2 := cells2 ox
  simp (disch := omega) only [go_sem, simprocAttr]
  refine wC_loop (fun n fr S2 => ∃ i : Nat, n = ps.length - i ∧ i ≤ ps.length ∧ S1 = S2 ∧ fr 0 = .slice base ps.length cap ∧ fr 3 = ptrV x ∧ fr 5 = .int .i64 (i : Nat) ∧ d ∉ ((ps.take i).map Prod.fst).map OpA.id) ps.length ⟨0, by simp (disch := omega) only [go_sem, simprocAttr]; simp⟩ ?_
  rintro n fr S2 ⟨i, rfl, hi, rfl, h0, h3, h5, hno⟩
  simp (disch := omega) only [go_sem, simprocAttr, F.osierref08_Known.l0, h0, h3, h5]
  refine wcond_dec (fun hlt => ?_) (fun hge => ?_)
  rotate_left
  · simp (disch := omega) only [go_sem, simprocAttr]
    rw [List.take_of_length_le (by omega)] at hno
    exact ⟨vb_false hno, e1⟩
  have hlx : i < ps.length := by omega
  have c1 : (0 : Int) ≤ (i : Int) ∧ (i : Int) < (ps.length : Int) := by omega
  obtain ⟨b, off, rfl, hb, ⟨x1, -⟩, -⟩ := (hl.ext opE e1).op hlx
  have eq := eqV_dot ps[i].1.id d
  simp (disch := omega) only [go_sem, simprocAttr, h0, h3, h5, c1, x1, c2, eq]
  refine wcond_dec (fun h => ?_) (fun h => ?_)
  · simp (disch := omega) only [go_sem, simprocAttr]
    exact ⟨vb_true (List.mem_map.2 ⟨_, List.mem_map_of_mem (List.getElem_mem hlx), h⟩), e1⟩
  · simp (disch := omega) only [go_sem, simprocAttr, h0, h3, h5]
    have hno' : d ∉ ((ps.take (i + 1)).map Prod.fst).map OpA.id := by
      rw [take_snoc (List.getElem?_eq_getElem hlx), List.map_append, List.map_append, List.mem_append]
      rintro (k | k)
      · exact hno k
      · simp at k
        exact h k.symm
    refine ⟨ps.length - (i + 1), by omega, i + 1, ?_⟩
    repeat' first | assumption | omega | (exact St.Ext.refl _) | (exact List.Perm.refl _) | rfl | (exact .inl trivial) | (exact trivial) | refine And.intro ?_ ?_
theorem while_at {α : Type} {p : α → Bool} {l : List α} {i : Nat} (h : ∀ x ∈ l.take i, p x = true) (hx : ∀ x, l[i]? = some x → p x = false) : l.takeWhile p = l.take i ∧ l.dropWhile p = l.drop i := by
  have e : l = l.take i ++ l.drop i := (List.take_append_drop i l).symm
  have e1 : (l.drop i).takeWhile p = [] ∧ (l.drop i).dropWhile p = l.drop i := by
    cases hd : l.drop i with
    | nil => exact ⟨rfl, rfl⟩
    | cons x r =>
      have h1 : l[i]? = some x := by
        have := congrArg List.head? hd
        rwa [List.head?_drop] at this
      have := hx x h1
      simp [List.takeWhile_cons, List.dropWhile_cons, this]
  constructor
  · conv => lhs; rw [e]
    rw [List.takeWhile_append_of_pos h, e1.1, List.append_nil]
  · conv => lhs; rw [e]
    rw [List.dropWhile_append_of_pos h, e1.2]
theorem putO_at {l : List OpA} {o : OpA} {i : Nat} (h : ∀ x ∈ l.take i, lessO x o) (hx : ∀ x, l[i]? = some x → ¬ lessO x o) : putO l o = l.take i ++ o :: l.drop i := by
  obtain ⟨h1, h2⟩ := while_at (p := fun x => decide (lessO x o)) (l := l) (i := i) (fun x hx => by simpa using h x hx) (fun x h => by simpa using hx x h)
  unfold putO
  rw [h1, h2]
theorem F.osierref08_Put_J {S : St} {l : Value} {ps : List OpR} {o : OpA} {t : SlP} (hl : SlT opE S l ps) (hL : ps.length < 100000) :
    J PR F.osierref08_Put [l, opV o (slOf t)] S fun v S' => ∃ k, OwnT opE S.n S' v (ps.take k ++ (o, t) :: ps.drop k) ∧ (ps.take k ++ (o, t) :: ps.drop k).map Prod.fst = putO (ps.map Prod.fst) o ∧ S.Ext S' := by
  obtain ⟨base, cap, rfl⟩ := hl.len opE
  refine J_by PR.mixed F.osierref08_Put.ok (by simp) ?_
  simp (disch := omega) only [go_sem, simprocAttr]
  refine wE_boxO (o := o) (dv := slOf t) rfl fun x S1 e1 hx hxn => ?_
  have hl1 := hl.ext opE e1
  have cx := hx.c
  simp (disch := omega) only [go_sem, simprocAttr]
  refine wC_at 0 (fun fr S2 => ∃ i : Nat, i ≤ ps.length ∧ S1 = S2 ∧ fr 0 = .slice base ps.length cap ∧ fr 3 = ptrV x ∧ fr 5 = .int .i64 (i : Nat) ∧ putO (ps.map Prod.fst) o = (ps.map Prod.fst).take i ++ o :: (ps.map Prod.fst).drop i) ?_ ?_
  · refine wC_loop (fun n fr S2 => ∃ i : Nat, n = ps.length - i ∧ i ≤ ps.length ∧ S1 = S2 ∧ fr 0 = .slice base ps.length cap ∧ fr 3 = ptrV x ∧ fr 5 = .int .i64 (i : Nat) ∧ ∀ y ∈ (ps.map Prod.fst).take i, lessO y o) ps.length ⟨0, by simp (disch := omega) only [go_sem, simprocAttr]; simp⟩ ?_
    rintro n fr S2 ⟨i, rfl, hi, rfl, h0, h3, h5, hall⟩
    simp (disch := omega) only [go_sem, simprocAttr, F.osierref08_Put.l0, h0, h3, h5]
    refine wguard_dec (fun hlt => ?_) (fun hge => ?_)
    rotate_left
    · simp (disch := omega) only [go_sem, simprocAttr, h0, h3, h5, hge]
      have hput := putO_at hall fun y hy => by
        rw [List.getElem?_eq_none (by rw [List.length_map]; omega)] at hy
        cases hy
      refine ⟨i, ?_⟩
      repeat' first | assumption | omega | (exact St.Ext.refl _) | (exact List.Perm.refl _) | rfl | (exact .inl trivial) | (exact trivial) | refine And.intro ?_ ?_
    have hlx : i < ps.length := by omega
    have c1 : (0 : Int) ≤ (i : Int) ∧ (i : Int) < (ps.length : Int) := by omega
    obtain ⟨b, off, rfl, hb, -, x14⟩ := hl1.op hlx
    have hmap : (ps.map Prod.fst)[i]? = some ps[i].1 := by rw [List.getElem?_map, List.getElem?_eq_getElem hlx]; rfl
    simp (disch := omega) only [go_sem, simprocAttr, h0, h3, h5, c1, x14, cx, opC_len, opC_toList, hlt]
    refine wJ_of (F.osierref07_Less_J (a := ps[i].1) (b := o) (da := slOf ps[i].2) (db := slOf t)) ?_; rintro _ _ ⟨rfl, rfl⟩
    by_cases hls : lessO ps[i].1 o
    · simp (disch := omega) only [go_sem, simprocAttr, hls, h0, h3, h5]
      have hall' : ∀ y ∈ (ps.map Prod.fst).take (i + 1), lessO y o := by
        rw [take_snoc hmap]
        intro y hy
        rcases List.mem_append.1 hy with hy | hy
        · exact hall y hy
        · obtain rfl : y = ps[i].1 := by simpa using hy
          exact hls
      refine ⟨ps.length - (i + 1), by omega, i + 1, ?_⟩
      repeat' first | assumption | omega | (exact St.Ext.refl _) | (exact List.Perm.refl _) | rfl | (exact .inl trivial) | (exact trivial) | refine And.intro ?_ ?_
    · simp (disch := omega) only [go_sem, simprocAttr, hls, h0, h3, h5]
      have hput := putO_at hall fun y hy => by
        rw [hmap] at hy
        injection hy with hy
        rw [← hy]
        exact hls
      refine ⟨i, ?_⟩
      repeat' first | assumption | omega | (exact St.Ext.refl _) | (exact List.Perm.refl _) | rfl | (exact .inl trivial) | (exact trivial) | refine And.intro ?_ ?_
  rintro fr S2 ⟨i, hi, rfl, h0, h3, h5, hput⟩
  obtain ⟨u1, hu1, hs1⟩ := hl1.to opE (q := .i64) (i := (i : Int)) (k := i) rfl hi
  obtain ⟨u2, hu2, hs2⟩ := hl1.from opE (q := .i64) (i := (i : Int)) (l := i) rfl hi
  replace hu1 : slV 14 (.slice base ps.length cap) none (some (.int .i64 (i : Nat))) none = some u1 := hu1
  replace hu2 : slV 14 (.slice base ps.length cap) (some (.int .i64 (i : Nat))) none none = some u2 := hu2
  simp (disch := omega) only [go_sem, simprocAttr, h0, h3, h5, hu1]
  refine wE_app opE (bytes := 136) (B := S1.n) (xs := []) (ys := ps.take i) (OwnT.nil opE _ _) hs1 rfl rfl (Nat.le_refl _) (by simp only [List.length_nil, List.length_take]; omega) (by simp only [List.length_nil, List.length_take]; omega) fun v3 S3 ho3 hb3 hv3 => ?_
  rw [List.nil_append] at ho3
  have e3 : S1.Ext S3 := (St.Ext.refl S1).but hb3 fun j hj => by simp [blkOf] at hj
  have cx3 := (hx.ext e3).c
  simp (disch := omega) only [go_sem, simprocAttr, h0, h3, h5, cx3, opC_len, opC_toList]
  refine walloc_sl (opC o (slOf t)) fun u S4 e4 ou hu hun => ?_
  have hlit : SlT opE S4 (.slice (some ⟨u, 0, none⟩) 1 1) [(o, t)] := ⟨_, 1, rfl, Nat.le_refl _, .inr rfl, fun _ => ⟨u, 0, rfl, hu, by rw [St.loadN_def, ou]; rfl⟩⟩
  simp (disch := omega) only [go_sem, simprocAttr]
  refine wE_app opE (bytes := 136) (xs := ps.take i) (ys := [(o, t)]) (ho3.ext opE e4) hlit rfl rfl (e3.trans e4).n (by simp only [List.length_singleton, List.length_take]; omega) (by simp only [List.length_singleton, List.length_take]; omega) fun v5 S5 ho5 hb5 hv5 => ?_
  have e5 : S1.Ext S5 := (e3.trans e4).but hb5 fun j hj => (ho3.blk opE j hj).1
  simp (disch := omega) only [go_sem, simprocAttr, h0, h5, hu2]
  refine wE_app opE (bytes := 136) (xs := ps.take i ++ [(o, t)]) (ys := ps.drop i) ho5 (hs2.ext opE e5) rfl rfl e5.n (by simp only [List.length_singleton, List.length_append, List.length_take, List.length_drop]; omega) (by simp only [List.length_singleton, List.length_append, List.length_take, List.length_drop]; omega) fun v6 S6 ho6 hb6 hv6 => ?_
  have e6 : S1.Ext S6 := e5.but hb6 fun j hj => (ho5.blk opE j hj).1
  rw [List.append_assoc, List.singleton_append] at ho6
  simp (disch := omega) only [go_sem, simprocAttr]
  refine ⟨i, ho6.mono opE e1.n, ?_, e1.trans e6⟩
  rw [hput, List.map_append, List.map_cons, List.map_take, List.map_drop]
theorem F.osierref08_Counted_J {S : St} {l : Value} {ps : List OpR} (hl : SlT opE S l ps) (hd : DepsT S ps) (hn : ps.length < 1000) (hD : ∀ p ∈ ps, p.1.deps.length < 20000) :
    J PR F.osierref08_Counted [l] S fun v S' => ∃ qs : List OpR, OwnT opE S.n S' v qs ∧ qs.map Prod.fst = countedA (ps.map Prod.fst) ∧ (∀ p ∈ qs, p ∈ ps) ∧ S.Ext S' := by
  obtain ⟨base, cap, rfl⟩ := hl.len opE
  refine J_by PR.mixed F.osierref08_Counted.ok (by simp) ?_
  simp (disch := omega) only [go_sem, simprocAttr]
  refine wC_loop (fun n fr S1 => ∃ (i : Nat) (vo : Value) (qs : List OpR), n = ps.length - i ∧ i ≤ ps.length ∧ fr 0 = .slice base ps.length cap ∧ fr 3 = vo ∧ fr 4 = .int .i64 (i : Nat) ∧ OwnT opE S.n S1 vo qs ∧ qs.map Prod.fst = countedA ((ps.take i).map Prod.fst) ∧ (∀ p ∈ qs, p ∈ ps) ∧ S.Ext S1) ps.length
    ⟨0, nilS, [], by
      have k0 : ([] : List OpR).map Prod.fst = countedA ((ps.take 0).map Prod.fst) := rfl
      have k1 : OwnT opE S.n S nilS [] := OwnT.nil opE _ _
      have k2 : ∀ p ∈ ([] : List OpR), p ∈ ps := by simp
      simp (disch := omega) only [go_sem, simprocAttr]
      repeat' first | assumption | omega | (exact St.Ext.refl _) | (exact List.Perm.refl _) | rfl | (exact .inl trivial) | (exact trivial) | refine And.intro ?_ ?_
      ⟩ ?_
  rintro n fr S1 ⟨i, vo, qs, rfl, hi, h0, h3, h4, ho, hq, hqm, g1⟩
  simp (disch := omega) only [go_sem, simprocAttr, F.osierref08_Counted.l0, h0, h3, h4]
  refine wcond_dec (fun hlt => ?_) (fun hge => ?_)
  rotate_left
  · rw [List.take_of_length_le (by omega)] at hq
    simp (disch := omega) only [go_sem, simprocAttr, h3]
    exact ⟨qs, ho, hq, hqm, g1⟩
  have hlx : i < ps.length := by omega
  have c1 : (0 : Int) ≤ (i : Int) ∧ (i : Int) < (ps.length : Int) := by omega
  have hsn : countedA ((ps.take (i + 1)).map Prod.fst) = if mayO ps[i].1 ∧ ps[i].1.id ∉ (qs.map Prod.fst).map OpA.id then putO (qs.map Prod.fst) ps[i].1 else qs.map Prod.fst := by
    rw [take_snoc (List.getElem?_eq_getElem hlx), List.map_append, List.map_singleton, countedA_snoc, ← hq]
  have hmem := List.getElem_mem hlx
  have hdi := (hd ps[i] hmem).ext dotE g1
  have hDi := hD ps[i] hmem
  have hql : qs.length ≤ ps.length := by
    have h1 := congrArg List.length hq
    have h2 := counted_len ((ps.take i).map Prod.fst)
    rw [List.length_map] at h1
    rw [List.length_map, List.length_take] at h2
    omega
  obtain ⟨b, off, rfl, hb, ⟨x1, -⟩, x14⟩ := (hl.ext opE g1).op hlx
  obtain ⟨p, hpi⟩ : ∃ p, p = ps[i] := ⟨_, rfl⟩
  rw [← hpi] at hsn hmem hdi hDi x14 x1
  obtain ⟨o, t⟩ := p
  dsimp only at hsn hdi hDi x14 x1
  simp (disch := omega) only [go_sem, simprocAttr, h0, h3, h4, c1, x14, opC_len, opC_toList]
  refine wJ_of (F.osierref07_Check_J (o := o) hdi (by omega)) ?_; rintro _ _ ⟨rfl, rfl⟩
  by_cases hm : mayO o
  rotate_left
  · rw [if_neg fun h => hm h.1] at hsn
    simp (disch := omega) only [go_sem, simprocAttr, hm, h0, h3, h4]
    refine ⟨ps.length - (i + 1), by omega, i + 1, vo, qs, ?_⟩
    have hq' := hsn.symm
    repeat' first | assumption | omega | (exact St.Ext.refl _) | (exact List.Perm.refl _) | rfl | (exact .inl trivial) | (exact trivial) | refine And.intro ?_ ?_
  simp (disch := omega) only [go_sem, simprocAttr, hm, h0, h3, h4, c1, x1]
  refine wJ_of (F.osierref08_Known_J (d := o.id) (ho.sl opE) (by omega)) ?_; rintro _ _ ⟨rfl, rfl⟩
  by_cases hin : o.id ∈ (qs.map Prod.fst).map OpA.id
  · rw [if_neg fun h => h.2 hin] at hsn
    simp (disch := omega) only [go_sem, simprocAttr, hm, hin, h0, h3, h4]
    refine ⟨ps.length - (i + 1), by omega, i + 1, vo, qs, ?_⟩
    have hq' := hsn.symm
    repeat' first | assumption | omega | (exact St.Ext.refl _) | (exact List.Perm.refl _) | rfl | (exact .inl trivial) | (exact trivial) | refine And.intro ?_ ?_
  rw [if_pos ⟨hm, hin⟩] at hsn
  simp (disch := omega) only [go_sem, simprocAttr, hm, hin, h0, h3, h4, c1, x14, opC_len, opC_toList]
  refine wJ_of (F.osierref08_Put_J (o := o) (t := t) (ho.sl opE) (by omega)) ?_; rintro v2 S2 ⟨k, ho2, hp2, e2⟩
  simp (disch := omega) only [go_sem, simprocAttr, h0, h3, h4]
  have k1 := ho2.mono opE g1.n
  have k2 := hp2.trans hsn.symm
  have k3 : ∀ r ∈ qs.take k ++ (o, t) :: qs.drop k, r ∈ ps := fun r hr => by
    rcases List.mem_append.1 hr with hr | hr
    · exact hqm r (List.mem_of_mem_take hr)
    · rcases List.mem_cons.1 hr with rfl | hr
      · exact hmem
      · exact hqm r (List.mem_of_mem_drop hr)
  have k4 := g1.trans e2
  generalize qs.take k ++ (o, t) :: qs.drop k = qs' at *
  refine ⟨ps.length - (i + 1), by omega, i + 1, v2, qs', ?_⟩
  repeat' first | assumption | omega | (exact St.Ext.refl _) | (exact List.Perm.refl _) | rfl | (exact .inl trivial) | (exact trivial) | refine And.intro ?_ ?_
end Go.Osj
