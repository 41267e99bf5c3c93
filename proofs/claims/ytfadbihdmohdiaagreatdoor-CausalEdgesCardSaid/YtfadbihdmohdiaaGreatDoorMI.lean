/- Whether operations are right; the edge of operations; rows compared. -/
import Derived.Test.YtfadbihdmohdiaaGreatDoorMF
import Derived.Test.YtfadbihdmohdiaaGreatDoorLB
import Derived.Test.YtfadbihdmohdiaaGreatDoorLS
set_option linter.unusedVariables false
set_option linter.unusedSimpArgs false
set_option maxHeartbeats 2000000
namespace Go.Osj
abbrev opRC (p : OpR) : List Value := opC p.1 (slOf p.2)
theorem F.slices_IndexFunc_s_api_Op_api_Op_J {S : St} {l f : Value} {xs : List OpR} {p : OpR → Bool} (hl : SlT opE S l xs) (hf : FunE opE S f xs p) (hL : xs.length < 9223372036854775808) :
    J PR F.slices_IndexFunc_s_api_Op_api_Op [l, f] S fun v S' => (∃ i : Int, v = .int .i64 i ∧ (0 ≤ i ↔ xs.any p = true)) ∧ S = S' := by
  obtain ⟨base, cap, rfl⟩ := hl.len opE
  refine J_by PR.mixed F.slices_IndexFunc_s_api_Op_api_Op.ok (by simp) ?_
  simp (disch := omega) only [go_sem, simprocAttr]
  refine wC_loop (fun n fr S' => ∃ i, n = xs.length - i ∧ i ≤ xs.length ∧ S' = S ∧ fr 0 = .slice base xs.length cap ∧ fr 1 = f ∧ fr 7 = .int .i64 xs.length ∧ fr 8 = .int .i64 (i : Nat) ∧ ∀ x ∈ xs.take i, p x = false) xs.length ⟨0, by simp (disch := omega) only [go_sem, simprocAttr]; simp⟩ ?_
  rintro n fr S' ⟨i, rfl, hi, rfl, h0, h1, h7, h8, hn⟩
  simp (disch := omega) only [go_sem, simprocAttr, F.slices_IndexFunc_s_api_Op_api_Op.l0, h0, h1, h7, h8]
  refine wcond_dec (fun hlt => ?_) (fun hge => ?_)
  · have hlx : i < xs.length := by omega
    obtain ⟨b, off, rfl, hb, hx, -⟩ := hl.at opE (i := i) (x := xs[i]) (by simp)
    replace hx : S'.loadN ⟨b, off + i * 14, none⟩ 14 = some (opRC xs[i]) := hx
    have c1 : (0 : Int) ≤ (i : Int) ∧ (i : Int) < (xs.length : Int) := by omega
    simp (disch := omega) only [go_sem, simprocAttr, h0, h1, h7, h8, c1, hx]
    refine hf.call (x := xs[i]) (List.getElem_mem _) ?_
    simp (disch := omega) only [go_sem, simprocAttr]
    refine wcond_of (fun hq => ?_) (fun hq => ?_)
    · simp (disch := omega) only [go_sem, simprocAttr, h8]
      exact ⟨_, rfl, by simp only [Int.natCast_nonneg, true_iff]; exact List.any_eq_true.2 ⟨_, List.getElem_mem _, hq⟩⟩
    · simp (disch := omega) only [go_sem, simprocAttr, h0, h1, h7, h8]
      refine ⟨xs.length - (i + 1), by omega, i + 1, rfl, by omega, rfl, ?_⟩
      rw [take_snoc (List.getElem?_eq_getElem hlx)]
      intro x hx
      rcases List.mem_append.1 hx with hx | hx
      · exact hn x hx
      · simp at hx; subst hx; exact hq
  · simp (disch := omega) only [go_sem, simprocAttr]
    rw [List.take_of_length_le (by omega)] at hn
    refine ⟨_, rfl, ?_⟩
    have : xs.any p = false := by rw [List.any_eq_false]; intro x hx; simp [hn x hx]
    rw [this]
    simp
theorem F.slices_ContainsFunc_s_api_Op_api_Op_J {S : St} {l f : Value} {xs : List OpR} {p : OpR → Bool} (hl : SlT opE S l xs) (hf : FunE opE S f xs p) (hL : xs.length < 9223372036854775808) :
    J PR F.slices_ContainsFunc_s_api_Op_api_Op [l, f] S fun v S' => v = .bool (xs.any p) ∧ S = S' := by
  refine J_by PR.mixed F.slices_ContainsFunc_s_api_Op_api_Op.ok (by simp) ?_
  simp (disch := omega) only [go_sem, simprocAttr]
  refine wJ_of (F.slices_IndexFunc_s_api_Op_api_Op_J hl hf hL) ?_; rintro _ _ ⟨⟨i, rfl, hi⟩, rfl⟩
  simp (disch := omega) only [go_sem, simprocAttr]
  congr 1
  rw [Bool.eq_iff_iff, decide_eq_true_eq]
  exact hi
theorem F.osierref07_Rows_J {S : St} {l k : Value} {ps qs : List OpR} (hl : SlT opE S l ps) (hk : SlT opE S k qs) (hd : DepsT S ps) (hd2 : DepsT S qs) (he : ps.map Prod.fst = qs.map Prod.fst) (hn : ps.length < 1000000) (hD : ∀ p ∈ ps, p.1.deps.length < 1000000) :
    J PR F.osierref07_Rows [l, k] S fun v S' => v = .bool true ∧ S = S' := by
  obtain ⟨base, cap, rfl⟩ := hl.len opE
  obtain ⟨base2, cap2, rfl⟩ := hk.len opE
  have hlen : ps.length = qs.length := by simpa using congrArg List.length he
  refine J_by PR.mixed F.osierref07_Rows.ok (by simp) ?_
  have d0 : (ps.length : Int) = (qs.length : Int) := by omega
  simp (disch := omega) only [go_sem, simprocAttr, d0]
  refine wC_loop (fun n fr S1 => ∃ i : Nat, n = ps.length - i ∧ i ≤ ps.length ∧ S = S1 ∧ fr 0 = .slice base ps.length cap ∧ fr 1 = .slice base2 qs.length cap2 ∧ fr 5 = .int .i64 (i : Nat)) ps.length ⟨0, by
    simp (disch := omega) only [go_sem, simprocAttr]
    repeat' first | assumption | omega | (exact St.Ext.refl _) | (exact List.Perm.refl _) | rfl | (exact .inl trivial) | (exact trivial) | refine And.intro ?_ ?_
    ⟩ ?_
  rintro n fr S1 ⟨i, rfl, hi, rfl, h0, h1, h5⟩
  simp (disch := omega) only [go_sem, simprocAttr, F.osierref07_Rows.l0, h0, h1, h5]
  refine wcond_dec (fun hlt => ?_) (fun hge => ?_)
  rotate_left
  · simp (disch := omega) only [go_sem, simprocAttr]
  have hlx : i < ps.length := by omega
  have hly : i < qs.length := by omega
  have c1 : (0 : Int) ≤ (i : Int) ∧ (i : Int) < (ps.length : Int) := by omega
  have c2 : (0 : Int) ≤ (i : Int) ∧ (i : Int) < (qs.length : Int) := by omega
  have hxy : ps[i].1 = qs[i].1 := by
    have h1 : (ps.map Prod.fst)[i]? = (qs.map Prod.fst)[i]? := by rw [he]
    rw [List.getElem?_map, List.getElem?_map, List.getElem?_eq_getElem hlx, List.getElem?_eq_getElem hly] at h1
    exact Option.some.inj h1
  obtain ⟨b, off, rfl, hb, -, x14⟩ := hl.op hlx
  obtain ⟨c, off2, rfl, hc, -, y14⟩ := hk.op hly
  simp (disch := omega) only [go_sem, simprocAttr, h0, h1, h5, c1, c2, x14, y14, opC_len, opC_toList]
  refine wJ_of (F.osierref07_Same_J (a := ps[i].1) (b := qs[i].1) (hd _ (List.getElem_mem hlx)) (hd2 _ (List.getElem_mem hly)) (hD _ (List.getElem_mem hlx))) ?_; rintro _ _ ⟨⟨t, rfl, ht⟩, rfl⟩
  obtain rfl : t = true := ht.2 hxy
  simp (disch := omega) only [go_sem, simprocAttr, h0, h1, h5]
  refine ⟨ps.length - (i + 1), by omega, i + 1, ?_⟩
  repeat' first | assumption | omega | (exact St.Ext.refl _) | (exact List.Perm.refl _) | rfl | (exact .inl trivial) | (exact trivial) | refine And.intro ?_ ?_
theorem F.osierlaw08_small_J {S : St} {l : Value} {ps : List OpR} (hl : SlT opE S l ps) (hd : DepsT S ps) (hn : ps.length < 9223372036854775808) :
    J PR F.osierlaw08_small [l] S fun v S' => (∃ t, v = .bool t ∧ (t = true → ps.length ≤ 100 ∧ ∀ p ∈ ps, p.1.deps.length ≤ 50)) ∧ S = S' := by
  obtain ⟨base, cap, rfl⟩ := hl.len opE
  refine J_by PR.mixed F.osierlaw08_small.ok (by simp) ?_
  simp (disch := omega) only [go_sem, simprocAttr]
  refine wC_loop (fun n fr S1 => ∃ i : Nat, n = ps.length - i ∧ i ≤ ps.length ∧ S = S1 ∧ fr 0 = .slice base ps.length cap ∧ fr 3 = .int .i64 (i : Nat) ∧ ∀ p ∈ ps.take i, p.1.deps.length ≤ 50) ps.length ⟨0, by simp (disch := omega) only [go_sem, simprocAttr]; simp⟩ ?_
  rintro n fr S1 ⟨i, rfl, hi, rfl, h0, h3, hall⟩
  simp (disch := omega) only [go_sem, simprocAttr, F.osierlaw08_small.l0, h0, h3]
  refine wcond_dec (fun hlt => ?_) (fun hge => ?_)
  rotate_left
  · rw [List.take_of_length_le (by omega)] at hall
    simp (disch := omega) only [go_sem, simprocAttr, h0]
    exact ⟨_, rfl, fun h => ⟨by have := of_decide_eq_true h; omega, hall⟩⟩
  have hlx : i < ps.length := by omega
  have c1 : (0 : Int) ≤ (i : Int) ∧ (i : Int) < (ps.length : Int) := by omega
  obtain ⟨b, off, rfl, hb, ⟨-, -, x3, -⟩, -⟩ := hl.op hlx
  have hdi := hd ps[i] (List.getElem_mem hlx)
  obtain ⟨bd, cd, hv⟩ := hdi.len dotE
  rw [hv] at x3
  simp (disch := omega) only [go_sem, simprocAttr, h0, h3, c1, x3]
  refine wcond_dec (fun h => ?_) (fun h => ?_)
  · simp (disch := omega) only [go_sem, simprocAttr]
    exact ⟨false, rfl, fun h => by cases h⟩
  · simp (disch := omega) only [go_sem, simprocAttr, h0, h3]
    have hall' : ∀ p ∈ ps.take (i + 1), p.1.deps.length ≤ 50 := by
      rw [take_snoc (List.getElem?_eq_getElem hlx)]
      intro p hp
      rcases List.mem_append.1 hp with hp | hp
      · exact hall p hp
      · obtain rfl : p = ps[i] := by simpa using hp
        omega
    refine ⟨ps.length - (i + 1), by omega, i + 1, ?_⟩
    repeat' first | assumption | omega | (exact St.Ext.refl _) | (exact List.Perm.refl _) | rfl | (exact .inl trivial) | (exact trivial) | refine And.intro ?_ ?_
theorem F.causal_Right_c1_J {S : St} {q : Nat} {o : OpA} {dq : Value} {p : OpR} (hq : opB S q o dq) (hd : SlT dotE S dq o.deps) (hD : o.deps.length < 1000000) :
    J PR F.causal_Right_c1 [.agg (opRC p).toArray, ptrV q] S fun v S' => v = .bool (decide (hasP o.deps p.1.id ∧ o.time ≤ p.1.time)) ∧ S = S' := by
  refine J.back (J_by PR.mixed F.causal_Right_c1.ok (by simp) ?_)
  simp (disch := omega) only [go_sem, simprocAttr]
  refine wE_boxO (o := p.1) (dv := slOf p.2) rfl fun x S1 e1 hx hxn => ?_
  have cx := hx.c
  have cq := (hq.ext e1).c
  simp (disch := omega) only [go_sem, simprocAttr, cx, cq, opC_len, opC_toList]
  refine wJ_of (F.causal_Ahead_J (a := p.1) (b := o) (da := slOf p.2) (hd.ext dotE e1) (by omega)) ?_; rintro _ _ ⟨rfl, rfl⟩
  by_cases h : hasP o.deps p.1.id
  · simp (disch := omega) only [go_sem, simprocAttr, h, cx, cq]
    exact e1
  · simp (disch := omega) only [go_sem, simprocAttr, h]
    exact ⟨by simp, e1⟩
theorem F.causal_Right_J {S : St} {l : Value} {ps : List OpR} (hl : SlT opE S l ps) (hd : DepsT S ps) (hn : ps.length < 1000) (hD : ∀ p ∈ ps, p.1.deps.length < 20000) :
    J PR F.causal_Right [l] S fun v S' => (∃ t, v = .bool t ∧ (t = true ↔ rightA (ps.map Prod.fst))) ∧ S = S' := by
  obtain ⟨base, cap, rfl⟩ := hl.len opE
  refine J.back (J_by PR.mixed F.causal_Right.ok (by simp) ?_)
  simp (disch := omega) only [go_sem, simprocAttr]
  refine wJ_of (F.causal_Order_J hl hd hn hD) ?_; rintro _ S1 ⟨va, vb, pa, pb, rfl, ha, hb, hda, hdb, ho, e1⟩
  have hoa : pa.map Prod.fst = (orderA (ps.map Prod.fst)).1 := by rw [← ho]
  have hml : (ps.map Prod.fst).length = ps.length := List.length_map _
  have hal : (orderA (ps.map Prod.fst)).1.length = pa.length := by rw [← hoa, List.length_map]
  have hri := right_iff (ps.map Prod.fst)
  rw [hal, hml, ← hoa] at hri
  have hDa : ∀ p ∈ pa, p.1.deps.length < 20000 := fun p hp => by
    have h1 : p.1 ∈ (orderA (ps.map Prod.fst)).1 := by rw [← hoa]; exact List.mem_map_of_mem hp
    obtain ⟨r, h2, h3⟩ := List.mem_map.1 (order_may (.inl h1)).2
    rw [← h3]
    exact hD r h2
  have hpal : pa.length ≤ ps.length := by
    have h1 := order_len (ps.map Prod.fst)
    have h2 := counted_len (ps.map Prod.fst)
    omega
  obtain ⟨ba, ca, rfl⟩ := ha.len opE
  simp (disch := omega) only [go_sem, simprocAttr]
  by_cases hlen : pa.length = ps.length
  rotate_left
  · have d1 : ¬ ((pa.length : Int) = (ps.length : Int)) := by omega
    simp (disch := omega) only [go_sem, simprocAttr, d1]
    exact ⟨⟨false, rfl, ⟨fun h => (by cases h), fun h => absurd (hri.1 h).1 hlen⟩⟩, e1⟩
  have d1 : (pa.length : Int) = (ps.length : Int) := by omega
  simp (disch := omega) only [go_sem, simprocAttr, d1]
  refine wC_loop (fun n fr S2 => ∃ i : Nat, n = pa.length - i ∧ i ≤ pa.length ∧ S1.Ext S2 ∧ fr 3 = .slice ba pa.length ca ∧ fr 17 = .slice ba pa.length ca ∧ fr 18 = .int .i64 (ps.length : Nat) ∧ fr 19 = .int .i64 (i : Nat) ∧ ∀ o ∈ (pa.map Prod.fst).take i, ∀ p ∈ pa.map Prod.fst, hasP o.deps p.id → p.time < o.time) pa.length
    ⟨0, by
      have k0 : ∀ o ∈ (pa.map Prod.fst).take 0, ∀ p ∈ pa.map Prod.fst, hasP o.deps p.id → p.time < o.time := by simp
      simp (disch := omega) only [go_sem, simprocAttr, d1]
      repeat' first | assumption | omega | (exact St.Ext.refl _) | (exact List.Perm.refl _) | rfl | (exact .inl trivial) | (exact trivial) | refine And.intro ?_ ?_
      ⟩ ?_
  rintro n fr S2 ⟨i, rfl, hi, e2, h3, h17, h18, h19, hall⟩
  simp (disch := omega) only [go_sem, simprocAttr, F.causal_Right.l0, h3, h17, h18, h19]
  refine wcond_dec (fun hlt => ?_) (fun hge => ?_)
  rotate_left
  · rw [List.take_of_length_le (by rw [List.length_map]; omega)] at hall
    simp (disch := omega) only [go_sem, simprocAttr]
    exact ⟨⟨true, rfl, ⟨fun _ => hri.2 ⟨hlen, hall⟩, fun _ => rfl⟩⟩, e1.trans e2⟩
  have hlx : i < pa.length := by omega
  have c1 : (0 : Int) ≤ (i : Int) ∧ (i : Int) < (pa.length : Int) := by omega
  have hmap : (pa.map Prod.fst)[i]? = some pa[i].1 := by rw [List.getElem?_map, List.getElem?_eq_getElem hlx]; rfl
  have hmem := List.getElem_mem hlx
  obtain ⟨b, off, rfl, hb', -, x14⟩ := (ha.ext opE e2).op hlx
  simp (disch := omega) only [go_sem, simprocAttr, h3, h17, h18, h19, c1, x14, opC_len, opC_toList]
  refine walloc_O fun x S3 e3 hx3 hxn => ?_
  simp (disch := omega) only [go_sem, simprocAttr]
  refine wst_op pa[i].1 (slOf pa[i].2) hx3 rfl rfl (by decide) rfl fun S4 hx4 b4 => ?_
  have e24 : S2.Ext S4 := e3.but b4 fun j hj => by simp [blkOf] at hj; omega
  have e4 := e2.trans e24
  simp (disch := omega) only [go_sem, simprocAttr, h3, h17, h18, h19]
  refine wJ_of (F.slices_ContainsFunc_s_api_Op_api_Op_J (xs := pa) (p := fun p => decide (hasP pa[i].1.deps p.1.id ∧ pa[i].1.time ≤ p.1.time)) (ha.ext opE e4) ⟨_, _, _, rfl, F.causal_Right_c1.cl, fun y _ => F.causal_Right_c1_J hx4 ((hda _ hmem).ext dotE e4) (by have := hDa _ hmem; omega)⟩ (by omega)) ?_; rintro _ _ ⟨rfl, rfl⟩
  by_cases hany : pa.any (fun p => decide (hasP pa[i].1.deps p.1.id ∧ pa[i].1.time ≤ p.1.time)) = true
  · simp (disch := omega) only [go_sem, simprocAttr, hany]
    refine ⟨⟨false, rfl, ⟨fun h => (by cases h), fun h => ?_⟩⟩, e1.trans e4⟩
    replace h := hri.1 h
    exfalso
    obtain ⟨p, hp, hp2⟩ := List.any_eq_true.1 hany
    have hp3 := of_decide_eq_true hp2
    have := h.2 _ (List.mem_map_of_mem hmem) _ (List.mem_map_of_mem hp) hp3.1
    omega
  · rw [Bool.not_eq_true] at hany
    simp (disch := omega) only [go_sem, simprocAttr, hany, h3, h17, h18, h19]
    have hall' : ∀ o ∈ (pa.map Prod.fst).take (i + 1), ∀ p ∈ pa.map Prod.fst, hasP o.deps p.id → p.time < o.time := by
      rw [take_snoc hmap]
      intro o ho p hp h
      rcases List.mem_append.1 ho with ho | ho
      · exact hall o ho p hp h
      · obtain rfl : o = pa[i].1 := by simpa using ho
        obtain ⟨q, hq, rfl⟩ := List.mem_map.1 hp
        have := List.any_eq_false.1 hany q hq
        simp only [decide_eq_true_eq, not_and] at this
        have := this h
        omega
    refine ⟨pa.length - (i + 1), by omega, i + 1, ?_⟩
    repeat' first | assumption | omega | (exact St.Ext.refl _) | (exact List.Perm.refl _) | rfl | (exact .inl trivial) | (exact trivial) | refine And.intro ?_ ?_
end Go.Osj
