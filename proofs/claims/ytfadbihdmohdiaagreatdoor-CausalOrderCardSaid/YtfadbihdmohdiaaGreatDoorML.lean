/- The laws CausalReady and CausalOrder. -/
import Derived.Test.YtfadbihdmohdiaaGreatDoorMK
import Derived.Test.YtfadbihdmohdiaaGreatDoorMH
set_option linter.unusedVariables false
set_option linter.unusedSimpArgs false
set_option maxHeartbeats 2000000
namespace Go.Osj
theorem F.osierref08_Right_J {S : St} {l : Value} {ps : List OpR} (hl : SlT opE S l ps) (hd : DepsT S ps) (hn : ps.length < 1000) (hD : ∀ p ∈ ps, p.1.deps.length < 20000) :
    J PR F.osierref08_Right [l] S fun v S' => (∃ t, v = .bool t ∧ (t = true ↔ rightA (ps.map Prod.fst))) ∧ S = S' := by
  obtain ⟨base, cap, rfl⟩ := hl.len opE
  refine J.back (J_by PR.mixed F.osierref08_Right.ok (by simp) ?_)
  simp (disch := omega) only [go_sem, simprocAttr]
  refine wJ_of (F.osierref08_Order_J hl hd hn hD) ?_; rintro _ S1 ⟨va, vb, pa, pb, rfl, ha, hb, hda, hdb, ho, e1⟩
  have hoa : pa.map Prod.fst = (orderA (ps.map Prod.fst)).1 := by rw [← ho]
  have hml : (ps.map Prod.fst).length = ps.length := List.length_map _
  have hal : (orderA (ps.map Prod.fst)).1.length = pa.length := by rw [← hoa, List.length_map]
  have hri : rightA (ps.map Prod.fst) ↔ (pa.length = ps.length ∧ ∀ o ∈ ps.map Prod.fst, ∀ p ∈ ps.map Prod.fst, hasP o.deps p.id → p.time < o.time) := by
    unfold rightA
    rw [hal, hml]
  obtain ⟨ba, ca, rfl⟩ := ha.len opE
  simp (disch := omega) only [go_sem, simprocAttr]
  by_cases hlen : pa.length = ps.length
  rotate_left
  · have d1 : ¬ ((pa.length : Int) = (ps.length : Int)) := by omega
    simp (disch := omega) only [go_sem, simprocAttr, d1]
    exact ⟨⟨false, rfl, ⟨fun h => (by cases h), fun h => absurd (hri.1 h).1 hlen⟩⟩, e1⟩
  have d1 : (pa.length : Int) = (ps.length : Int) := by omega
  simp (disch := omega) only [go_sem, simprocAttr, d1]
  have hl1 := hl.ext opE e1
  refine wC_loop (fun n fr S2 => ∃ i : Nat, n = ps.length - i ∧ i ≤ ps.length ∧ S1 = S2 ∧ fr 0 = .slice base ps.length cap ∧ fr 5 = .int .i64 (i : Nat) ∧ ∀ o ∈ (ps.map Prod.fst).take i, ∀ p ∈ ps.map Prod.fst, hasP o.deps p.id → p.time < o.time) ps.length
    ⟨0, by
      have k0 : ∀ o ∈ (ps.map Prod.fst).take 0, ∀ p ∈ ps.map Prod.fst, hasP o.deps p.id → p.time < o.time := by simp
      simp (disch := omega) only [go_sem, simprocAttr, d1]
      repeat' first | assumption | omega | (exact St.Ext.refl _) | (exact List.Perm.refl _) | rfl | (exact .inl trivial) | (exact trivial) | refine And.intro ?_ ?_
      ⟩ ?_
  rintro n fr S2 ⟨i, rfl, hi, rfl, h0, h5, hall⟩
  simp (disch := omega) only [go_sem, simprocAttr, F.osierref08_Right.l1, h0, h5]
  refine wcond_dec (fun hlt => ?_) (fun hge => ?_)
  rotate_left
  · rw [List.take_of_length_le (by rw [List.length_map]; omega)] at hall
    simp (disch := omega) only [go_sem, simprocAttr]
    exact ⟨⟨true, rfl, ⟨fun _ => hri.2 ⟨hlen, hall⟩, fun _ => rfl⟩⟩, e1⟩
  have hlx : i < ps.length := by omega
  have c1 : (0 : Int) ≤ (i : Int) ∧ (i : Int) < (ps.length : Int) := by omega
  have hmap : (ps.map Prod.fst)[i]? = some ps[i].1 := by rw [List.getElem?_map, List.getElem?_eq_getElem hlx]; rfl
  have hmem := List.getElem_mem hlx
  have hopi : ∃ b off, base = some ⟨b, off, none⟩ ∧ S1.cell ⟨b, off + i * 14 + 2, none⟩ = some (.int .i64 ps[i].1.time) ∧ S1.cell ⟨b, off + i * 14 + 3, none⟩ = some (slOf ps[i].2) := by
    obtain ⟨b, off, h1, -, ⟨-, x2, x3, -⟩, -⟩ := hl1.op hlx
    exact ⟨b, off, h1, x2, x3⟩
  obtain ⟨b, off, rfl, x2, x3⟩ := hopi
  have hdi := (hd ps[i] hmem).ext dotE e1
  have hDi := hD ps[i] hmem
  simp (disch := omega) only [go_sem, simprocAttr, h0, h5]
  refine wC_loop (fun n fr S2 => ∃ k : Nat, n = ps.length - k ∧ k ≤ ps.length ∧ S1 = S2 ∧ fr 0 = .slice (some ⟨b, off, none⟩) ps.length cap ∧ fr 5 = .int .i64 (i : Nat) ∧ fr 6 = .int .i64 (k : Nat) ∧ ∀ p ∈ (ps.map Prod.fst).take k, hasP ps[i].1.deps p.id → p.time < ps[i].1.time) ps.length
    ⟨0, by
      have k0 : ∀ p ∈ (ps.map Prod.fst).take 0, hasP ps[i].1.deps p.id → p.time < ps[i].1.time := by simp
      simp (disch := omega) only [go_sem, simprocAttr, h0, h5]
      repeat' first | assumption | omega | (exact St.Ext.refl _) | (exact List.Perm.refl _) | rfl | (exact .inl trivial) | (exact trivial) | refine And.intro ?_ ?_
      ⟩ ?_
  rintro n fr S2 ⟨k, rfl, hk, rfl, h0, h5, h6, hall2⟩
  simp (disch := omega) only [go_sem, simprocAttr, F.osierref08_Right.l0, h0, h5, h6]
  refine wcond_dec (fun hlt2 => ?_) (fun hge2 => ?_)
  rotate_left
  · rw [List.take_of_length_le (by rw [List.length_map]; omega)] at hall2
    have hall' : ∀ o ∈ (ps.map Prod.fst).take (i + 1), ∀ p ∈ ps.map Prod.fst, hasP o.deps p.id → p.time < o.time := by
      rw [take_snoc hmap]
      intro o ho p hp h
      rcases List.mem_append.1 ho with ho | ho
      · exact hall o ho p hp h
      · obtain rfl : o = ps[i].1 := by simpa using ho
        exact hall2 p hp h
    simp (disch := omega) only [go_sem, simprocAttr, h0, h5]
    refine ⟨ps.length - (i + 1), by omega, i + 1, ?_⟩
    repeat' first | assumption | omega | (exact St.Ext.refl _) | (exact List.Perm.refl _) | rfl | (exact .inl trivial) | (exact trivial) | refine And.intro ?_ ?_
  have hlk : k < ps.length := by omega
  have c2 : (0 : Int) ≤ (k : Int) ∧ (k : Int) < (ps.length : Int) := by omega
  have hmapk : (ps.map Prod.fst)[k]? = some ps[k].1 := by rw [List.getElem?_map, List.getElem?_eq_getElem hlk]; rfl
  obtain ⟨b', off', hbb, -, ⟨y1, y2, -⟩, -⟩ := hl1.op hlk
  injection hbb with hbb
  injection hbb with hb1 hb2
  subst hb1 hb2
  simp (disch := omega) only [go_sem, simprocAttr, h0, h5, h6, c1, c2, x3, y1]
  refine wJ_of (F.osierref04_Has_J (d := ps[k].1.id) hdi (by omega)) ?_; rintro _ _ ⟨rfl, rfl⟩
  by_cases hh : hasP ps[i].1.deps ps[k].1.id
  · by_cases ht : ps[i].1.time ≤ ps[k].1.time
    · simp (disch := omega) only [go_sem, simprocAttr, hh, ht, h0, h5, h6, c1, c2, x2, y2]
      refine ⟨⟨false, rfl, ⟨fun h => (by cases h), fun h => ?_⟩⟩, e1⟩
      replace h := hri.1 h
      exfalso
      have := h.2 _ (List.mem_map_of_mem hmem) _ (List.mem_map_of_mem (List.getElem_mem hlk)) hh
      omega
    · simp (disch := omega) only [go_sem, simprocAttr, hh, ht, h0, h5, h6, c1, c2, x2, y2]
      have hall' : ∀ p ∈ (ps.map Prod.fst).take (k + 1), hasP ps[i].1.deps p.id → p.time < ps[i].1.time := by
        rw [take_snoc hmapk]
        intro p hp h
        rcases List.mem_append.1 hp with hp | hp
        · exact hall2 p hp h
        · obtain rfl : p = ps[k].1 := by simpa using hp
          omega
      refine ⟨ps.length - (k + 1), by omega, k + 1, ?_⟩
      repeat' first | assumption | omega | (exact St.Ext.refl _) | (exact List.Perm.refl _) | rfl | (exact .inl trivial) | (exact trivial) | refine And.intro ?_ ?_
  · simp (disch := omega) only [go_sem, simprocAttr, hh, h0, h5, h6]
    have hall' : ∀ p ∈ (ps.map Prod.fst).take (k + 1), hasP ps[i].1.deps p.id → p.time < ps[i].1.time := by
      rw [take_snoc hmapk]
      intro p hp h
      rcases List.mem_append.1 hp with hp | hp
      · exact hall2 p hp h
      · obtain rfl : p = ps[k].1 := by simpa using hp
        exact absurd h hh
    refine ⟨ps.length - (k + 1), by omega, k + 1, ?_⟩
    repeat' first | assumption | omega | (exact St.Ext.refl _) | (exact List.Perm.refl _) | rfl | (exact .inl trivial) | (exact trivial) | refine And.intro ?_ ?_
theorem F.osierlaw08_CausalReady.J {S : St} {l dv : Value} {xs : List Dot} {o : OpA} (hl : SlT dotE S l xs) (hd : SlT dotE S dv o.deps) (hL : o.deps.length < 9223372036854775808) : J PR F.osierlaw08_CausalReady [l, opV o dv] S fun v _ => v = .bool true := by
  obtain ⟨base, cap, rfl⟩ := hl.len dotE
  obtain ⟨base2, cap2, rfl⟩ := hd.len dotE
  refine J_by PR.mixed F.osierlaw08_CausalReady.ok (by simp) ?_
  simp (disch := omega) only [go_sem, simprocAttr]
  refine wE_boxO (o := o) (dv := .slice base2 o.deps.length cap2) rfl fun x S1 e1 hx hxn => ?_
  simp (disch := omega) only [go_sem, simprocAttr]
  refine wJ_of F.osierlaw08_awake_J ?_; rintro _ _ ⟨rfl, rfl⟩
  simp (disch := omega) only [go_sem, simprocAttr]
  refine wJ_of (F.osierref04_Made_J (hl.ext dotE e1)) ?_; rintro v S2 ⟨hv, e2⟩
  have g2 := e1.trans e2
  have cx2 := (hx.ext e2).c
  have hm := madeV_len xs
  simp (disch := omega) only [go_sem, simprocAttr, cx2, opC_len, opC_toList]
  by_cases h : 200 < o.deps.length
  · have d1 : (200 : Int) < (o.deps.length : Int) := by omega
    simp (disch := omega) only [go_sem, simprocAttr, d1]
  · have d1 : ¬ ((200 : Int) < (o.deps.length : Int)) := by omega
    simp (disch := omega) only [go_sem, simprocAttr, d1, cx2, opC_len, opC_toList]
    refine wJ_of (F.causal_Ready_J (o := o) hv (hd.ext dotE g2) (by omega) (by omega)) ?_; rintro _ _ ⟨rfl, rfl⟩
    simp (disch := omega) only [go_sem, simprocAttr, d1, cx2, opC_len, opC_toList]
    refine wJ_of (F.osierref08_Ready_J (o := o) hv (hd.ext dotE g2) (by omega) (by omega)) ?_; rintro _ _ ⟨rfl, rfl⟩
    simp (disch := omega) only [go_sem, simprocAttr]
theorem F.osierlaw08_CausalOrder.J {S : St} {l : Value} {ps : List OpR} (hl : SlT opE S l ps) (hd : DepsT S ps) (hn : ps.length < 9223372036854775808) : J PR F.osierlaw08_CausalOrder [l] S fun v _ => v = .bool true := by
  obtain ⟨base, cap, rfl⟩ := hl.len opE
  refine J_by PR.mixed F.osierlaw08_CausalOrder.ok (by simp) ?_
  simp (disch := omega) only [go_sem, simprocAttr]
  refine wJ_of F.osierlaw08_awake_J ?_; rintro _ _ ⟨rfl, rfl⟩
  simp (disch := omega) only [go_sem, simprocAttr]
  refine wJ_of (F.osierlaw08_small_J hl hd hn) ?_; rintro _ _ ⟨⟨t, rfl, ht⟩, rfl⟩
  cases t with
  | false => simp (disch := omega) only [go_sem, simprocAttr]
  | true =>
    obtain ⟨hs, hD0⟩ := ht rfl
    have hD : ∀ p ∈ ps, p.1.deps.length < 20000 := fun p hp => by have := hD0 p hp; omega
    simp (disch := omega) only [go_sem, simprocAttr]
    refine wJ_of (F.causal_Order_J hl hd (by omega) hD) ?_; rintro _ S1 ⟨va, vb, pa, pb, rfl, ha, hb, hda, hdb, ho, e1⟩
    simp (disch := omega) only [go_sem, simprocAttr]
    refine wJ_of (F.osierref08_Order_J (hl.ext opE e1) (hd.ext e1) (by omega) hD) ?_; rintro _ S2 ⟨vc, vd, pc, pd, rfl, hc, hd2, hdc, hdd, ho2, e2⟩
    obtain ⟨o1, o2⟩ := Prod.mk.inj (ho.trans ho2.symm)
    have hmem : ∀ p, p ∈ pa ∨ p ∈ pb → p.1 ∈ ps.map Prod.fst := fun p h => by
      have h1 : pa.map Prod.fst = (orderA (ps.map Prod.fst)).1 := by rw [← ho]
      have h2 : pb.map Prod.fst = (orderA (ps.map Prod.fst)).2 := by rw [← ho]
      rcases h with h | h
      · exact (order_may (.inl (h1 ▸ List.mem_map_of_mem h))).2
      · exact (order_may (.inr (h2 ▸ List.mem_map_of_mem h))).2
    have hdl : ∀ p, p ∈ pa ∨ p ∈ pb → p.1.deps.length < 1000000 := fun p h => by
      obtain ⟨r, h1, h2⟩ := List.mem_map.1 (hmem p h)
      rw [← h2]
      have := hD r h1
      omega
    have hol := order_len (ps.map Prod.fst)
    have hcl := counted_len (ps.map Prod.fst)
    rw [← ho] at hol
    simp only [List.length_map] at hol hcl
    simp (disch := omega) only [go_sem, simprocAttr]
    refine wJ_of (F.osierref07_Rows_J (ha.ext opE e2) hc (hda.ext e2) hdc o1 (by omega) fun p hp => hdl p (.inl hp)) ?_; rintro _ _ ⟨rfl, rfl⟩
    simp (disch := omega) only [go_sem, simprocAttr]
    refine wJ_of (F.osierref07_Rows_J (hb.ext opE e2) hd2 (hdb.ext e2) hdd o2 (by omega) fun p hp => hdl p (.inr hp)) ?_; rintro _ _ ⟨rfl, rfl⟩
    have e12 := e1.trans e2
    simp (disch := omega) only [go_sem, simprocAttr]
    refine wJ_of (F.causal_Right_J (hl.ext opE e12) (hd.ext e12) (by omega) hD) ?_; rintro _ _ ⟨⟨t1, rfl, h1⟩, rfl⟩
    simp (disch := omega) only [go_sem, simprocAttr]
    refine wJ_of (F.osierref08_Right_J (hl.ext opE e12) (hd.ext e12) (by omega) hD) ?_; rintro _ _ ⟨⟨t2, rfl, h2⟩, rfl⟩
    have ht : t1 = t2 := by
      rw [Bool.eq_iff_iff]
      exact h1.trans h2.symm
    subst ht
    simp (disch := omega) only [go_sem, simprocAttr]
end Go.Osj
