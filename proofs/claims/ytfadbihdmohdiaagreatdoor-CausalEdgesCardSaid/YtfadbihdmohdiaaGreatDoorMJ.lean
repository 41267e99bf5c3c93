/- The edge of operations. -/
import Derived.Test.YtfadbihdmohdiaaGreatDoorMI
set_option linter.unusedVariables false
set_option linter.unusedSimpArgs false
set_option maxHeartbeats 2000000
namespace Go.Osj
theorem F.causal_Frontier_c1_J {S : St} {q : Nat} {o : OpA} {dq : Value} {p : OpR} (hq : opB S q o dq) (hd : SlT dotE S (slOf p.2) p.1.deps) (hD : p.1.deps.length < 1000000) :
    J PR F.causal_Frontier_c1 [.agg (opRC p).toArray, ptrV q] S fun v S' => v = .bool (decide (p.1.id ≠ o.id ∧ hasP p.1.deps o.id)) ∧ S = S' := by
  refine J.back (J_by PR.mixed F.causal_Frontier_c1.ok (by simp) ?_)
  simp (disch := omega) only [go_sem, simprocAttr]
  refine wE_boxO (o := p.1) (dv := slOf p.2) rfl fun x S1 e1 hx hxn => ?_
  have cx := hx.c
  have cq := (hq.ext e1).c
  have eq := eqV_dot p.1.id o.id
  simp (disch := omega) only [go_sem, simprocAttr, cx, cq, opC_len, opC_toList, eq]
  by_cases h : p.1.id = o.id
  · simp (disch := omega) only [go_sem, simprocAttr, h]
    exact ⟨by simp, e1⟩
  · simp (disch := omega) only [go_sem, simprocAttr, h, cx, cq, opC_len, opC_toList]
    refine wJ_of (F.causal_Ahead_J (a := o) (b := p.1) (da := dq) (hd.ext dotE e1) (by omega)) ?_; rintro _ _ ⟨rfl, rfl⟩
    simp (disch := omega) only [go_sem, simprocAttr]
    exact ⟨by simp [h], e1⟩
def freeA (l : List OpA) (o : OpA) : Prop := ∀ p ∈ l, ¬ (p.id ≠ o.id ∧ hasP p.deps o.id)
instance (l : List OpA) (o : OpA) : Decidable (freeA l o) := inferInstanceAs (Decidable (∀ p ∈ l, _))
theorem F.causal_Frontier_J {S : St} {l : Value} {ps : List OpR} (hl : SlT opE S l ps) (hd : DepsT S ps) (hn : ps.length < 1000) (hD : ∀ p ∈ ps, p.1.deps.length < 20000) :
    J PR F.causal_Frontier [l] S fun v S' => OwnT dotE S.n S' v (frontA (ps.map Prod.fst)) ∧ S.Ext S' := by
  obtain ⟨base, cap, rfl⟩ := hl.len opE
  refine J_by PR.mixed F.causal_Frontier.ok (by simp) ?_
  simp (disch := omega) only [go_sem, simprocAttr]
  refine wC_at 0 (fun fr S2 => ∃ vo, fr 3 = vo ∧ OwnT dotE S.n S2 vo (((ps.map Prod.fst).filter fun o => decide (freeA (ps.map Prod.fst) o)).map OpA.id) ∧ S.Ext S2) ?_ ?_
  · refine wC_loop (fun n fr S2 => ∃ (i : Nat) (vo : Value), n = ps.length - i ∧ i ≤ ps.length ∧ fr 0 = .slice base ps.length cap ∧ fr 3 = vo ∧ fr 7 = .slice base ps.length cap ∧ fr 8 = .int .i64 (ps.length : Nat) ∧ fr 9 = .int .i64 (i : Nat) ∧ OwnT dotE S.n S2 vo ((((ps.map Prod.fst).take i).filter fun o => decide (freeA (ps.map Prod.fst) o)).map OpA.id) ∧ S.Ext S2) ps.length
      ⟨0, nilS, by
        have k0 : OwnT dotE S.n S nilS ((((ps.map Prod.fst).take 0).filter fun o => decide (freeA (ps.map Prod.fst) o)).map OpA.id) := OwnT.nil dotE _ _
        simp (disch := omega) only [go_sem, simprocAttr]
        repeat' first | assumption | omega | (exact St.Ext.refl _) | (exact List.Perm.refl _) | rfl | (exact .inl trivial) | (exact trivial) | refine And.intro ?_ ?_
        ⟩ ?_
    rintro n fr S2 ⟨i, vo, rfl, hi, h0, h3, h7, h8, h9, ho, g2⟩
    simp (disch := omega) only [go_sem, simprocAttr, F.causal_Frontier.l0, h0, h3, h7, h8, h9]
    refine wcond_dec (fun hlt => ?_) (fun hge => ?_)
    rotate_left
    · rw [List.take_of_length_le (by rw [List.length_map]; omega)] at ho
      simp (disch := omega) only [go_sem, simprocAttr, h3]
      refine ⟨vo, ?_⟩
      repeat' first | assumption | omega | (exact St.Ext.refl _) | (exact List.Perm.refl _) | rfl | (exact .inl trivial) | (exact trivial) | refine And.intro ?_ ?_
    have hlx : i < ps.length := by omega
    have c1 : (0 : Int) ≤ (i : Int) ∧ (i : Int) < (ps.length : Int) := by omega
    have hmap : (ps.map Prod.fst)[i]? = some ps[i].1 := by rw [List.getElem?_map, List.getElem?_eq_getElem hlx]; rfl
    have hmem := List.getElem_mem hlx
    have hol : ((((ps.map Prod.fst).take i).filter fun o => decide (freeA (ps.map Prod.fst) o)).map OpA.id).length ≤ ps.length := by
      rw [List.length_map]
      refine Nat.le_trans (List.length_filter_le _ _) ?_
      rw [List.length_take, List.length_map]
      exact Nat.min_le_right _ _
    have hsn : (((ps.map Prod.fst).take (i + 1)).filter fun o => decide (freeA (ps.map Prod.fst) o)).map OpA.id = (((ps.map Prod.fst).take i).filter fun o => decide (freeA (ps.map Prod.fst) o)).map OpA.id ++ (if freeA (ps.map Prod.fst) ps[i].1 then [ps[i].1.id] else []) := by
      rw [take_snoc hmap, List.filter_append, List.map_append]
      congr 1
      by_cases h : freeA (ps.map Prod.fst) ps[i].1
      · simp [h]
      · simp [h]
    obtain ⟨b, off, rfl, hb', -, x14⟩ := (hl.ext opE g2).op hlx
    simp (disch := omega) only [go_sem, simprocAttr, h0, h3, h7, h8, h9, c1, x14, opC_len, opC_toList]
    refine walloc_O fun x S3 e3 hx3 hxn => ?_
    simp (disch := omega) only [go_sem, simprocAttr]
    refine wst_op ps[i].1 (slOf ps[i].2) hx3 rfl rfl (by decide) rfl fun S4 hx4 b4 => ?_
    have e24 : S2.Ext S4 := e3.but b4 fun j hj => by simp [blkOf] at hj; omega
    have e4 := g2.trans e24
    have ho4 := ho.ext dotE e24
    simp (disch := omega) only [go_sem, simprocAttr, h0, h3, h7, h8, h9]
    refine wJ_of (F.slices_ContainsFunc_s_api_Op_api_Op_J (xs := ps) (p := fun p => decide (p.1.id ≠ ps[i].1.id ∧ hasP p.1.deps ps[i].1.id)) (hl.ext opE e4) ⟨_, _, _, rfl, F.causal_Frontier_c1.cl, fun y hy => F.causal_Frontier_c1_J hx4 ((hd _ hy).ext dotE e4) (by have := hD _ hy; omega)⟩ (by omega)) ?_; rintro _ _ ⟨rfl, rfl⟩
    have hfree : freeA (ps.map Prod.fst) ps[i].1 ↔ ¬ ps.any (fun p => decide (p.1.id ≠ ps[i].1.id ∧ hasP p.1.deps ps[i].1.id)) = true := by
      unfold freeA
      rw [List.any_eq_true]
      constructor
      · rintro h ⟨p, hp, hq⟩
        exact h _ (List.mem_map_of_mem hp) (of_decide_eq_true hq)
      · intro h q hq hh
        obtain ⟨p, hp, rfl⟩ := List.mem_map.1 hq
        exact h ⟨p, hp, decide_eq_true hh⟩
    by_cases hany : ps.any (fun p => decide (p.1.id ≠ ps[i].1.id ∧ hasP p.1.deps ps[i].1.id)) = true
    · rw [if_neg fun h => hfree.1 h hany, List.append_nil] at hsn
      rw [← hsn] at ho4
      simp (disch := omega) only [go_sem, simprocAttr, hany, h0, h3, h7, h8, h9]
      refine ⟨ps.length - (i + 1), by omega, i + 1, vo, ?_⟩
      repeat' first | assumption | omega | (exact St.Ext.refl _) | (exact List.Perm.refl _) | rfl | (exact .inl trivial) | (exact trivial) | refine And.intro ?_ ?_
    · rw [if_pos (hfree.2 hany)] at hsn
      rw [Bool.not_eq_true] at hany
      have cx4 := hx4.c
      simp (disch := omega) only [go_sem, simprocAttr, hany, h0, h3, h7, h8, h9, cx4]
      refine walloc_sl [.int .i64 ps[i].1.id.1, .int .i64 ps[i].1.id.2] fun u S5 e5 ou hu hun => ?_
      have hlit : SlT dotE S5 (.slice (some ⟨u, 0, none⟩) 1 1) [ps[i].1.id] := ⟨_, 1, rfl, Nat.le_refl _, .inr rfl, fun _ => ⟨u, 0, rfl, hu, by rw [St.loadN_def, ou]; rfl⟩⟩
      simp (disch := omega) only [go_sem, simprocAttr, h3]
      refine wE_app dotE (bytes := 16) (ys := [ps[i].1.id]) (ho4.ext dotE e5) hlit rfl rfl (e4.trans e5).n (by simp only [List.length_singleton]; omega) (by simp only [List.length_singleton]; omega) fun v6 S6 ho6 hb6 hv6 => ?_
      rw [← hsn] at ho6
      have g6 : S.Ext S6 := (e4.trans e5).but hb6 fun j hj => (ho.blk dotE j hj).1
      simp (disch := omega) only [go_sem, simprocAttr, h0, h3, h7, h8, h9]
      refine ⟨ps.length - (i + 1), by omega, i + 1, v6, ?_⟩
      repeat' first | assumption | omega | (exact St.Ext.refl _) | (exact List.Perm.refl _) | rfl | (exact .inl trivial) | (exact trivial) | refine And.intro ?_ ?_
  rintro fr S2 ⟨vo, h3, ho, g2⟩
  have hol : (((ps.map Prod.fst).filter fun o => decide (freeA (ps.map Prod.fst) o)).map OpA.id).length ≤ ps.length := by
    rw [List.length_map]
    refine Nat.le_trans (List.length_filter_le _ _) ?_
    rw [List.length_map]
    exact Nat.le_refl _
  simp (disch := omega) only [go_sem, simprocAttr, h3]
  refine wJ_of (F.dots_Rising.J (ho.sl dotE) (by omega)) ?_; rintro v3 S3 ⟨ho3, e3⟩
  simp (disch := omega) only [go_sem, simprocAttr]
  exact ⟨ho3.mono dotE g2.n, g2.trans e3⟩
end Go.Osj
