/- The law CausalBehind. -/
import Derived.Test.YtfadbihdmohdiaaDoorMK
set_option linter.unusedVariables false
set_option linter.unusedSimpArgs false
set_option maxHeartbeats 2000000
namespace Go.Osj
theorem F.causal_Version_J {S : St} {l : Value} {ps : List OpR} (hl : SlT opE S l ps) (hn : ps.length < 1000) :
    J PR F.causal_Version [l] S fun v S' => SlT dotE S' v (versionA (ps.map Prod.fst)) ∧ S.Ext S' := by
  obtain ⟨base, cap, rfl⟩ := hl.len opE
  refine J_by PR.mixed F.causal_Version.ok (by simp) ?_
  simp (disch := omega) only [go_sem, simprocAttr]
  refine walloc_sl (n := 0) (m := 0) [] fun vb S1 e1 ovb hvb hvbn => ?_
  have hv1 : SlT dotE S1 (.slice (some ⟨vb, 0, none⟩) 0 0) [] := OwnT.sl dotE (B := 0) (.inr ⟨vb, 0, rfl, Nat.zero_le _, hvb, Nat.le_refl _, ovb⟩)
  simp (disch := omega) only [go_sem, simprocAttr]
  refine wC_loop (fun n fr S2 => ∃ (i : Nat) (v : Value), n = ps.length - i ∧ i ≤ ps.length ∧ fr 3 = v ∧ fr 7 = .slice base ps.length cap ∧ fr 8 = .int .i64 (ps.length : Nat) ∧ fr 9 = .int .i64 (i : Nat) ∧ SlT dotE S2 v (versionA ((ps.map Prod.fst).take i)) ∧ S.Ext S2) ps.length
    ⟨0, .slice (some ⟨vb, 0, none⟩) 0 0, by
      have k0 : SlT dotE S1 (.slice (some ⟨vb, 0, none⟩) 0 0) (versionA ((ps.map Prod.fst).take 0)) := hv1
      simp (disch := omega) only [go_sem, simprocAttr]
      repeat' first | assumption | omega | (exact St.Ext.refl _) | (exact List.Perm.refl _) | rfl | (exact .inl trivial) | (exact trivial) | refine And.intro ?_ ?_
      ⟩ ?_
  rintro n fr S2 ⟨i, v, rfl, hi, h3, h7, h8, h9, hv, g2⟩
  simp (disch := omega) only [go_sem, simprocAttr, F.causal_Version.l0, h3, h7, h8, h9]
  refine wcond_dec (fun hlt => ?_) (fun hge => ?_)
  rotate_left
  · rw [List.take_of_length_le (by rw [List.length_map]; omega)] at hv
    simp (disch := omega) only [go_sem, simprocAttr, h3]
    exact ⟨hv, g2⟩
  have hlx : i < ps.length := by omega
  have c1 : (0 : Int) ≤ (i : Int) ∧ (i : Int) < (ps.length : Int) := by omega
  have hmap : (ps.map Prod.fst)[i]? = some ps[i].1 := by rw [List.getElem?_map, List.getElem?_eq_getElem hlx]; rfl
  have hvi := versionA_is ((ps.map Prod.fst).take i)
  have hvl : (versionA ((ps.map Prod.fst).take i)).length < 20000 := by
    have h1 := hvi.2
    rw [List.length_take, List.length_map] at h1
    omega
  obtain ⟨b, off, rfl, hb', -, x14⟩ := (hl.ext opE g2).op hlx
  simp (disch := omega) only [go_sem, simprocAttr, h3, h7, h8, h9, c1, x14, opC_len, opC_toList]
  refine walloc_O fun x S3 e3 hx3 hxn => ?_
  simp (disch := omega) only [go_sem, simprocAttr]
  refine wst_op ps[i].1 (slOf ps[i].2) hx3 rfl rfl (by decide) rfl fun S4 hx4 b4 => ?_
  have e24 : S2.Ext S4 := e3.but b4 fun j hj => by simp [blkOf] at hj; omega
  have cx4 := hx4.c
  simp (disch := omega) only [go_sem, simprocAttr, h3, h7, h8, h9, cx4]
  refine wJ_of (F.vector_With_J (d := ps[i].1.id) (hv.ext dotE e24) hvi.1 hvl) ?_; rintro v5 S5 ⟨ho5, e5⟩
  have k1 : SlT dotE S5 v5 (versionA ((ps.map Prod.fst).take (i + 1))) := by
    rw [take_snoc hmap, versionA_snoc]
    exact ho5.sl dotE
  have k2 := (g2.trans e24).trans e5
  simp (disch := omega) only [go_sem, simprocAttr, h3, h7, h8, h9]
  refine ⟨ps.length - (i + 1), by omega, i + 1, v5, ?_⟩
  repeat' first | assumption | omega | (exact St.Ext.refl _) | (exact List.Perm.refl _) | rfl | (exact .inl trivial) | (exact trivial) | refine And.intro ?_ ?_
theorem F.osierlaw08_CausalBehind.J {S : St} {l : Value} {ps : List OpR} (hl : SlT opE S l ps) (hd : DepsT S ps) (hn : ps.length < 9223372036854775808) : J PR F.osierlaw08_CausalBehind [l] S fun v _ => v = .bool true := by
  obtain ⟨base, cap, rfl⟩ := hl.len opE
  refine J_by PR.mixed F.osierlaw08_CausalBehind.ok (by simp) ?_
  simp (disch := omega) only [go_sem, simprocAttr]
  refine wJ_of F.osierlaw08_awake_J ?_; rintro _ _ ⟨rfl, rfl⟩
  simp (disch := omega) only [go_sem, simprocAttr]
  refine wJ_of (F.osierlaw08_small_J hl hd hn) ?_; rintro _ _ ⟨⟨t, rfl, ht⟩, rfl⟩
  cases t with
  | false => simp (disch := omega) only [go_sem, simprocAttr]
  | true =>
    obtain ⟨hs, hD0⟩ := ht rfl
    have hD : ∀ p ∈ ps, p.1.deps.length < 20000 := fun p hp => by have := hD0 p hp; omega
    simp (disch := omega) only [go_sem, simprocAttr]
    refine wJ_of (F.causal_Order_J hl hd (by omega) hD) ?_; rintro _ S1 ⟨va, vb, pa, pb, rfl, ha, hb, hda, hdb, ho, e1⟩
    have h1 : pa.map Prod.fst = (orderA (ps.map Prod.fst)).1 := by rw [← ho]
    have h2 : pb.map Prod.fst = (orderA (ps.map Prod.fst)).2 := by rw [← ho]
    have hdl : ∀ p, p ∈ pa ∨ p ∈ pb → p.1.deps.length < 20000 := fun p h => by
      have hm : p.1 ∈ ps.map Prod.fst := by
        rcases h with h | h
        · exact (order_may (.inl (h1 ▸ List.mem_map_of_mem h))).2
        · exact (order_may (.inr (h2 ▸ List.mem_map_of_mem h))).2
      obtain ⟨r, h3, h4⟩ := List.mem_map.1 hm
      rw [← h4]
      exact hD r h3
    have hol := order_len (ps.map Prod.fst)
    have hcl := counted_len (ps.map Prod.fst)
    rw [← ho] at hol
    simp only [List.length_map] at hol hcl
    have hbe := order_behind (ps.map Prod.fst)
    have hti := order_times (l := ps.map Prod.fst)
    have hea := order_early (ps.map Prod.fst)
    rw [← h1] at hbe hti hea
    rw [← h2] at hea
    obtain ⟨xa, ya, hva⟩ := ha.len opE
    obtain ⟨xb, yb, hvb⟩ := hb.len opE
    subst hva hvb
    simp (disch := omega) only [go_sem, simprocAttr]
    refine wJ_of (F.causal_Right_J (hl.ext opE e1) (hd.ext e1) (by omega) hD) ?_; rintro _ _ ⟨⟨t, rfl, ht⟩, rfl⟩
    have hti' : t = true → (pa.map Prod.fst).Pairwise fun a b => ¬ b.time < a.time := fun h => hti (ht.1 h)
    have hbe' : ∀ k i, (hi : i < pa.length) → (hk : k < i) → ¬ hasP (pa[k]'(by omega)).1.deps pa[i].1.id ∧ (pa[k]'(by omega)).1.id ≠ pa[i].1.id := fun k i hi hk => by
      have := List.pairwise_iff_getElem.1 hbe k i (by rw [List.length_map]; omega) (by rw [List.length_map]; exact hi) hk
      simpa using this
    have hti2 : t = true → ∀ k i, (hi : i < pa.length) → (hk : k < i) → ¬ pa[i].1.time < (pa[k]'(by omega)).1.time := fun h k i hi hk => by
      have := List.pairwise_iff_getElem.1 (hti' h) k i (by rw [List.length_map]; omega) (by rw [List.length_map]; exact hi) hk
      simpa using this
    simp (disch := omega) only [go_sem, simprocAttr]
    refine wC_at 0 (fun fr S2 => S1 = S2 ∧ fr 5 = .slice xa pa.length ya ∧ fr 6 = .slice xb pb.length yb) ?_ ?_
    · refine wC_loop (fun n fr S2 => ∃ i : Nat, n = pa.length - i ∧ i ≤ pa.length ∧ S1 = S2 ∧ fr 5 = .slice xa pa.length ya ∧ fr 6 = .slice xb pb.length yb ∧ fr 7 = .bool t ∧ fr 8 = .int .i64 (i : Nat)) pa.length
        ⟨0, by
          simp (disch := omega) only [go_sem, simprocAttr]
          repeat' first | assumption | omega | (exact St.Ext.refl _) | (exact List.Perm.refl _) | rfl | (exact .inl trivial) | (exact trivial) | refine And.intro ?_ ?_
          ⟩ ?_
      rintro n fr S2 ⟨i, rfl, hi, rfl, h5, h6, h7, h8⟩
      simp (disch := omega) only [go_sem, simprocAttr, F.osierlaw08_CausalBehind.l1, h5, h6, h7, h8]
      refine wcond_dec (fun hlt => ?_) (fun hge => ?_)
      rotate_left
      · simp (disch := omega) only [go_sem, simprocAttr, h5, h6]
        repeat' first | assumption | omega | (exact St.Ext.refl _) | (exact List.Perm.refl _) | rfl | (exact .inl trivial) | (exact trivial) | refine And.intro ?_ ?_
      have hlx : i < pa.length := by omega
      have c1 : (0 : Int) ≤ (i : Int) ∧ (i : Int) < (pa.length : Int) := by omega
      have hopi : ∃ b off, xa = some ⟨b, off, none⟩ ∧ S1.loadN ⟨b, off + i * 14, none⟩ 2 = some [.int .i64 pa[i].1.id.1, .int .i64 pa[i].1.id.2] ∧ S1.cell ⟨b, off + i * 14 + 2, none⟩ = some (.int .i64 pa[i].1.time) ∧ S1.loadN ⟨b, off + i * 14, none⟩ 14 = some (opC pa[i].1 (slOf pa[i].2)) := by
        obtain ⟨b, off, h1, -, ⟨x1, x2, -⟩, x14⟩ := ha.op hlx
        exact ⟨b, off, h1, x1, x2, x14⟩
      obtain ⟨b, off, rfl, x1, x2, x14⟩ := hopi
      simp (disch := omega) only [go_sem, simprocAttr, h5, h6, h7, h8]
      refine wC_loop (fun n fr S2 => ∃ k : Nat, n = i - k ∧ k ≤ i ∧ S1 = S2 ∧ fr 5 = .slice (some ⟨b, off, none⟩) pa.length ya ∧ fr 6 = .slice xb pb.length yb ∧ fr 7 = .bool t ∧ fr 8 = .int .i64 (i : Nat) ∧ fr 9 = .int .i64 (k : Nat)) i
        ⟨0, by
          simp (disch := omega) only [go_sem, simprocAttr, h5, h6, h7, h8]
          repeat' first | assumption | omega | (exact St.Ext.refl _) | (exact List.Perm.refl _) | rfl | (exact .inl trivial) | (exact trivial) | refine And.intro ?_ ?_
          ⟩ ?_
      rintro n fr S2 ⟨k, rfl, hk, rfl, h5, h6, h7, h8, h9⟩
      simp (disch := omega) only [go_sem, simprocAttr, F.osierlaw08_CausalBehind.l0, h5, h6, h7, h8, h9]
      refine wcond_dec (fun hlt2 => ?_) (fun hge2 => ?_)
      rotate_left
      · simp (disch := omega) only [go_sem, simprocAttr, h5, h6, h7, h8]
        refine ⟨pa.length - (i + 1), by omega, i + 1, ?_⟩
        repeat' first | assumption | omega | (exact St.Ext.refl _) | (exact List.Perm.refl _) | rfl | (exact .inl trivial) | (exact trivial) | refine And.intro ?_ ?_
      have hki : k < i := by omega
      have hlk : k < pa.length := by omega
      have c2 : (0 : Int) ≤ (k : Int) ∧ (k : Int) < (pa.length : Int) := by omega
      obtain ⟨b', off', hbb, -, ⟨y1, y2, -⟩, y14⟩ := ha.op hlk
      injection hbb with hbb
      injection hbb with hb1 hb2
      subst hb1 hb2
      obtain ⟨q1, q2⟩ := hbe' k i hlx hki
      simp (disch := omega) only [go_sem, simprocAttr, h5, h6, h7, h8, h9, c1, c2, x14, y14, opC_len, opC_toList]
      refine wJ_of (F.causal_Ahead_J (a := pa[i].1) (b := pa[k].1) (da := slOf pa[i].2) (hda _ (List.getElem_mem hlk)) (by have := hdl _ (.inl (List.getElem_mem hlk)); omega)) ?_; rintro _ _ ⟨rfl, rfl⟩
      have eq := eqV_dot pa[i].1.id pa[k].1.id
      have q3 : ¬ pa[i].1.id = pa[k].1.id := fun e => q2 e.symm
      simp (disch := omega) only [go_sem, simprocAttr, q1, h5, h6, h7, h8, h9, c1, c2, x1, y1, eq, q3]
      cases t with
      | false =>
        simp (disch := omega) only [go_sem, simprocAttr, h5, h6, h7, h8, h9]
        refine ⟨i - (k + 1), by omega, k + 1, ?_⟩
        repeat' first | assumption | omega | (exact St.Ext.refl _) | (exact List.Perm.refl _) | rfl | (exact .inl trivial) | (exact trivial) | refine And.intro ?_ ?_
      | true =>
        have q4 := hti2 rfl k i hlx hki
        simp (disch := omega) only [go_sem, simprocAttr, h5, h6, h7, h8, h9, c1, c2, x2, y2, q4]
        refine ⟨i - (k + 1), by omega, k + 1, ?_⟩
        repeat' first | assumption | omega | (exact St.Ext.refl _) | (exact List.Perm.refl _) | rfl | (exact .inl trivial) | (exact trivial) | refine And.intro ?_ ?_
    rintro fr S2 ⟨rfl, h5, h6⟩
    simp (disch := omega) only [go_sem, simprocAttr, h5, h6]
    refine wJ_of (F.causal_Version_J ha (by omega)) ?_; rintro vv S3 ⟨hvv, e3⟩
    have hvl := (versionA_is (pa.map Prod.fst)).2
    rw [List.length_map] at hvl
    have hb3 := hb.ext opE e3
    have hdb3 := hdb.ext e3
    simp (disch := omega) only [go_sem, simprocAttr, h6]
    refine wC_loop (fun n fr S4 => ∃ i : Nat, n = pb.length - i ∧ i ≤ pb.length ∧ S3 = S4 ∧ fr 6 = .slice xb pb.length yb ∧ fr 10 = vv ∧ fr 11 = .int .i64 (i : Nat)) pb.length
      ⟨0, by
        simp (disch := omega) only [go_sem, simprocAttr, h6]
        repeat' first | assumption | omega | (exact St.Ext.refl _) | (exact List.Perm.refl _) | rfl | (exact .inl trivial) | (exact trivial) | refine And.intro ?_ ?_
        ⟩ ?_
    rintro n fr S4 ⟨i, rfl, hi, rfl, h6, h10, h11⟩
    simp (disch := omega) only [go_sem, simprocAttr, F.osierlaw08_CausalBehind.l2, h6, h10, h11]
    refine wcond_dec (fun hlt => ?_) (fun hge => ?_)
    rotate_left
    · simp (disch := omega) only [go_sem, simprocAttr]
    have hlx : i < pb.length := by omega
    have c1 : (0 : Int) ≤ (i : Int) ∧ (i : Int) < (pb.length : Int) := by omega
    have hrd : readyA (versionA (pa.map Prod.fst)) pb[i].1 = 31 := hea _ (List.mem_map_of_mem (List.getElem_mem hlx))
    obtain ⟨b, off, rfl, hb', -, x14⟩ := hb3.op hlx
    simp (disch := omega) only [go_sem, simprocAttr, h6, h10, h11, c1, x14, opC_len, opC_toList]
    refine wJ_of (F.causal_Ready_J (o := pb[i].1) hvv (hdb3 _ (List.getElem_mem hlx)) (by omega) (by have := hdl _ (.inr (List.getElem_mem hlx)); omega)) ?_; rintro _ _ ⟨rfl, rfl⟩
    simp (disch := omega) only [go_sem, simprocAttr, hrd, h6, h10, h11]
    refine ⟨pb.length - (i + 1), by omega, i + 1, ?_⟩
    repeat' first | assumption | omega | (exact St.Ext.refl _) | (exact List.Perm.refl _) | rfl | (exact .inl trivial) | (exact trivial) | refine And.intro ?_ ?_
end Go.Osj
