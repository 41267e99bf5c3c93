/- The operations that count. -/
import Derived.Test.YtfadbihdmohdiaaGreatDoorMD
import Derived.Test.YtfadbihdmohdiaaGreatDoorMB
import Derived.Test.YtfadbihdmohdiaaGreatDoorMA
set_option linter.unusedVariables false
set_option linter.unusedSimpArgs false
set_option maxHeartbeats 1000000
namespace Go.Osj
/-- what is counted so far, in memory -/
structure CntT (S : St) (B mb : Nat) (ids : List Dot) (vo : Value) (ps : List OpR) : Prop where
  map : ∃ M, MapT dotKE boolV true S mb M ∧ ∀ d, alook d M = if d ∈ ids then some true else none
  own : OwnT opE B S vo ps
  blk : ∃ q, blkOf vo = some q ∧ q ≠ mb
  dp : ∀ p ∈ ps, SlT dotE S (slOf p.2) p.1.deps ∧ Apart2 S vo (.map (some mb)) (slOf p.2)
namespace CntT
variable {S S' : St} {B mb : Nat} {ids : List Dot} {vo : Value} {ps : List OpR}
theorem ext (T : CntT S B mb ids vo ps) (e : S.Ext S') : CntT S' B mb ids vo ps where
  map := let ⟨M, h1, h2⟩ := T.map; ⟨M, h1.ext _ _ e, h2⟩
  own := T.own.ext opE e
  blk := T.blk
  dp p hp := ⟨(T.dp p hp).1.ext dotE e, (T.dp p hp).2.ext e⟩
theorem lt (T : CntT S B mb ids vo ps) : mb < S.n := let ⟨_, h1, _⟩ := T.map; h1.1
theorem set (T : CntT S B mb ids vo ps) {M : List (Dot × Bool)} (hM : ∀ d, alook d M = if d ∈ ids then some true else none) {d : Dot} (hm : MapT dotKE boolV true S' mb (aset d true M)) (b : St.But (.map (some mb)) S S') : CntT S' B mb (ids ++ [d]) vo ps where
  map := ⟨_, hm, fun x => by
    rw [alook_aset, hM]
    by_cases h : x = d
    · simp [h]
    · simp [h]⟩
  own := T.own.but opE b fun q hq => by
    obtain ⟨q', h1, h2⟩ := T.blk
    rw [h1] at hq
    injection hq with hq
    subst hq
    intro e
    injection e with e
    exact h2 e.symm
  blk := T.blk
  dp p hp := ⟨(T.dp p hp).1.but2 dotE (T.dp p hp).2.sym b, (T.dp p hp).2.mv b.n (.inl rfl)⟩
theorem push {vo' : Value} {p : OpR} (T : CntT S B mb ids vo ps) (hB : B ≤ S.n) (ho : OwnT opE B S' vo' (ps ++ [p])) (b : St.But vo S S') (hv : blkOf vo' = blkOf vo ∨ ∃ q, blkOf vo' = some q ∧ S.n ≤ q) (hs : SlT dotE S (slOf p.2) p.1.deps) (ha : Apart2 S vo (.map (some mb)) (slOf p.2)) : CntT S' B mb ids vo' (ps ++ [p]) where
  map := let ⟨M, h1, h2⟩ := T.map; ⟨M, h1.congr _ _ b.n (b.obj mb h1.1 (by obtain ⟨q, h3, h4⟩ := T.blk; rw [h3]; intro e; injection e with e; exact h4 e)), h2⟩
  own := ho
  blk := by
    obtain ⟨q, h3, h4⟩ := T.blk
    rcases hv with hv | ⟨q', hv, hq⟩
    · exact ⟨q, hv.trans h3, h4⟩
    · exact ⟨q', hv, by have := T.lt; omega⟩
  dp r hr := by
    rcases List.mem_append.1 hr with hr | hr
    · exact ⟨(T.dp r hr).1.but2 dotE (T.dp r hr).2 b, (T.dp r hr).2.mv b.n hv⟩
    · obtain rfl : r = p := by simpa using hr
      exact ⟨hs.but2 dotE ha b, ha.mv b.n hv⟩
end CntT
theorem pw_true {α : Type} : ∀ l : List α, l.Pairwise (fun _ _ => True)
  | [] => .nil
  | _ :: l => List.pairwise_cons.2 ⟨fun _ _ => trivial, pw_true l⟩
theorem lessO_swo : Stab.SW (fun a b : OpR => lessO a.1 b.1) (fun _ _ => True) where
  neg a b c h := by unfold lessO lessP at *; omega
  trans a b c h k := lessO_trans h k
  rt _ _ _ _ _ := trivial
theorem compare_F : CmpF PR opE (.func (.func F.causal_compare) #[] #[]) (fun _ => True) (fun a b : OpR => lessO a.1 b.1) :=
  ⟨_, _, _, rfl, F.causal_compare.cl, fun S _ x y => F.causal_compare_J⟩
theorem walloc_m {S : St} {k : KV} (hk : ∀ b S1, S.Ext S1 → MapT dotKE boolV true S1 b [] → S.n ≤ b → k.run (.map (some b)) S1) :
    @wfresh S.n ⟨fun b => k.run (.map (some b)) (S.put b (.map true [] 0))⟩ :=
  wfresh_of fun b hb => hk b _ ((St.Ext.refl S).put hb _) (MapT.new _ _) hb
theorem F.causal_counted_J {S : St} {l : Value} {ps : List OpR} (hl : SlT opE S l ps) (hd : DepsT S ps) (hn : ps.length < 1000) (hD : ∀ p ∈ ps, p.1.deps.length < 20000) :
    J PR F.causal_counted [l] S fun v S' => ∃ ps' : List OpR, OwnT opE S.n S' v ps' ∧ ps'.map Prod.fst = countedA (ps.map Prod.fst) ∧ (∀ p ∈ ps', SlT dotE S' (slOf p.2) p.1.deps ∧ ∀ j, blkOf (slOf p.2) = some j → j < S'.n ∧ blkOf v ≠ some j) ∧ S.Ext S' := by
  obtain ⟨base, cap, rfl⟩ := hl.len opE
  refine J_by PR.mixed F.causal_counted.ok (by simp) ?_
  simp (disch := omega) only [go_sem, simprocAttr]
  refine walloc_m fun mb S1 e0 m0 hmb => ?_
  simp (disch := omega) only [go_sem, simprocAttr]
  refine walloc_sl (n := 0) (m := 0) [] fun ob S2 e2 oob hob hobn => ?_
  have e02 := e0.trans e2
  have hobS : S.n ≤ ob := Nat.le_trans e0.n hobn
  have hmbS1 := m0.1
  have T0 : CntT S2 S.n mb [] (.slice (some ⟨ob, 0, none⟩) 0 0) [] := ⟨⟨[], m0.ext _ _ e2, fun d => by simp [alook]⟩, .inr ⟨ob, 0, rfl, hobS, hob, Nat.le_refl _, oob⟩, ⟨ob, rfl, by omega⟩, fun p hp => by simp at hp⟩
  simp (disch := omega) only [go_sem, simprocAttr]
  refine wC_at 0 (fun fr S3 => ∃ (vo : Value) (qs : List OpR), fr 4 = vo ∧ CntT S3 S.n mb ((qs.map Prod.fst).map OpA.id) vo qs ∧ qs.map Prod.fst = keptA (ps.map Prod.fst) ∧ S.Ext S3) ?_ ?_
  · refine wC_loop (fun n fr S3 => ∃ (i : Nat) (vo : Value) (qs : List OpR), n = ps.length - i ∧ i ≤ ps.length ∧ fr 3 = .map (some mb) ∧ fr 4 = vo ∧ fr 9 = .slice base ps.length cap ∧ fr 10 = .int .i64 ps.length ∧ fr 11 = .int .i64 (i : Nat) ∧ CntT S3 S.n mb ((qs.map Prod.fst).map OpA.id) vo qs ∧ qs.map Prod.fst = keptA ((ps.take i).map Prod.fst) ∧ S.Ext S3) ps.length
      ⟨0, .slice (some ⟨ob, 0, none⟩) 0 0, [], by
        have k0 : ([] : List OpR).map Prod.fst = keptA ((ps.take 0).map Prod.fst) := rfl
        simp (disch := omega) only [go_sem, simprocAttr]
        repeat' first | assumption | omega | (exact St.Ext.refl _) | (exact List.Perm.refl _) | rfl | (exact .inl trivial) | (exact trivial) | refine And.intro ?_ ?_
        ⟩ ?_
    rintro n fr S3 ⟨i, vo, qs, rfl, hi, h3, h4, h9, h10, h11, T3, hq, g3⟩
    simp (disch := omega) only [go_sem, simprocAttr, F.causal_counted.l0, h3, h4, h9, h10, h11]
    refine wcond_dec (fun hlt => ?_) (fun hge => ?_)
    rotate_left
    · rw [List.take_of_length_le (by omega)] at hq
      simp (disch := omega) only [go_sem, simprocAttr, h4]
      refine ⟨vo, qs, ?_⟩
      repeat' first | assumption | omega | (exact St.Ext.refl _) | (exact List.Perm.refl _) | rfl | (exact .inl trivial) | (exact trivial) | refine And.intro ?_ ?_
    have hlx : i < ps.length := by omega
    have c1 : (0 : Int) ≤ (i : Int) ∧ (i : Int) < (ps.length : Int) := by omega
    have hsn : keptA ((ps.take (i + 1)).map Prod.fst) = if mayO ps[i].1 ∧ ps[i].1.id ∉ (qs.map Prod.fst).map OpA.id then qs.map Prod.fst ++ [ps[i].1] else qs.map Prod.fst := by
      rw [take_snoc (List.getElem?_eq_getElem hlx), List.map_append, List.map_singleton, keptA_snoc, ← hq]
    have hdS := hd ps[i] (List.getElem_mem hlx)
    have hdi := hdS.ext dotE g3
    have hDi := hD ps[i] (List.getElem_mem hlx)
    have hql : qs.length ≤ ps.length := by
      have h1 := congrArg List.length hq
      have h2 := (keptI ((ps.take i).map Prod.fst)).len
      rw [List.length_map] at h1
      rw [List.length_map, List.length_take] at h2
      omega
    obtain ⟨b, off, rfl, hb, -, x14⟩ := (hl.ext opE g3).op hlx
    obtain ⟨p, hpi⟩ : ∃ p, p = ps[i] := ⟨_, rfl⟩
    rw [← hpi] at hsn hdS hdi hDi x14
    obtain ⟨o, t⟩ := p
    dsimp only at hsn hdS hdi hDi x14
    simp (disch := omega) only [go_sem, simprocAttr, h3, h4, h9, h10, h11, c1, x14, opC_len, opC_toList]
    refine walloc_O fun x S4 e4 hx4 hxn => ?_
    simp (disch := omega) only [go_sem, simprocAttr]
    refine wst_op o (slOf t) hx4 rfl rfl (by decide) rfl fun S5 hx5 b5 => ?_
    have e35 : S3.Ext S5 := e4.but b5 fun j hj => by simp [blkOf] at hj; omega
    have T5 := T3.ext e35
    have g5 := g3.trans e35
    have cx5 := hx5.c
    have hd5 := hdi.ext dotE e35
    simp (disch := omega) only [go_sem, simprocAttr, h3, h4, h9, h10, h11, cx5, opC_len, opC_toList]
    refine wJ_of (F.ops_Check_J (o := o) hd5 (by omega)) ?_; rintro _ _ ⟨rfl, rfl⟩
    by_cases hm : mayO o
    rotate_left
    · rw [if_neg fun h => hm h.1] at hsn
      simp (disch := omega) only [go_sem, simprocAttr, hm, h3, h4, h9, h10, h11]
      refine ⟨ps.length - (i + 1), by omega, i + 1, vo, qs, ?_⟩
      have hq' := hsn.symm
      repeat' first | assumption | omega | (exact St.Ext.refl _) | (exact List.Perm.refl _) | rfl | (exact .inl trivial) | (exact trivial) | refine And.intro ?_ ?_
    obtain ⟨M, hM, hk⟩ := T5.map
    have hlk := (hM.lookV dotKE boolV (.bool false) false o.id : lookV _ [.i .i64, .i .i64] true _ false _ (dotV o.id) = _)
    rw [hk] at hlk
    by_cases hin : o.id ∈ (qs.map Prod.fst).map OpA.id
    · rw [if_neg fun h => h.2 hin] at hsn
      rw [if_pos hin] at hlk
      simp (disch := omega) only [go_sem, simprocAttr, hm, h3, h4, h9, h10, h11, cx5, hlk, Option.getD_some]
      refine ⟨ps.length - (i + 1), by omega, i + 1, vo, qs, ?_⟩
      have hq' := hsn.symm
      repeat' first | assumption | omega | (exact St.Ext.refl _) | (exact List.Perm.refl _) | rfl | (exact .inl trivial) | (exact trivial) | refine And.intro ?_ ?_
    rw [if_pos ⟨hm, hin⟩] at hsn
    rw [if_neg hin] at hlk
    simp (disch := omega) only [go_sem, simprocAttr, hm, h3, h4, h9, h10, h11, cx5, hlk, Option.getD_none]
    refine wE_mset dotKE boolV (k := o.id) (v := true) hM rfl rfl rfl fun S6 hM6 b6 => ?_
    have T6 := T5.set hk hM6 b6
    have hmS : S.n ≤ mb := hmb
    have g6 : S.Ext S6 := g5.but b6 fun j hj => by simp [blkOf] at hj; omega
    have hxmb : x ≠ mb := by have := T3.lt; omega
    have hx6 := hx5.but b6 (by simp [blkOf]; exact Ne.symm hxmb)
    have cx6 := hx6.c
    obtain ⟨b1, c1', hb1⟩ := hdS.len dotE
    simp (disch := omega) only [go_sem, simprocAttr, h3, h4, h9, h10, h11, cx6]
    refine wJ_of (F.slices_Clone_api_Vector_api_Dot_J (hdS.ext dotE g6) (by omega)) ?_; rintro v7 S7 ⟨ho7, e7⟩
    have T7 := T6.ext e7
    have hx7 := hx6.ext e7
    obtain ⟨b2, c2, hb2⟩ := (ho7.sl dotE).len dotE
    subst hb2
    obtain ⟨t2, ht2⟩ : ∃ t2 : SlP, t2 = (b2, o.deps.length, c2) := ⟨_, rfl⟩
    have ht3 : Value.slice b2 o.deps.length c2 = slOf t2 := by rw [ht2]
    rw [ht3] at ho7
    have ha7 : Apart2 S7 vo (.map (some mb)) (slOf t2) := Apart2.fresh (fun j hj => ho7.blk dotE j hj) (fun j hj => (T6.own.blk opE j hj).2) (fun j hj => by simp [blkOf] at hj; have := T6.lt; omega)
    have hxt : ∀ j, blkOf (slOf t2) = some j → j ≠ x := fun j hj => by have h1 := (ho7.blk dotE j hj).1; have h2 := hx6.1; omega
    simp (disch := omega) only [go_sem, simprocAttr, h3, h4, h9, h10, h11, ht3]
    refine wst_op o (slOf t2) hx7 rfl rfl (by decide) rfl fun S8 hx8 b8 => ?_
    have hxvo : blkOf vo ≠ some x := fun h => by have := (T3.own.blk opE x h).2; omega
    have e78 : St.But (ptrV x) S7 S8 := b8
    have hS7x : S.n ≤ x := Nat.le_trans g3.n hxn
    have g8 : S.Ext S8 := (g6.trans e7).but b8 fun j hj => by simp [blkOf] at hj; omega
    have T8 : CntT S8 S.n mb ((qs.map Prod.fst).map OpA.id ++ [o.id]) vo qs := by
      obtain ⟨M8, m1, m2⟩ := T7.map
      refine ⟨⟨M8, m1.congr _ _ b8.n (b8.obj mb m1.1 (by simp [blkOf]; exact hxmb)), m2⟩, T7.own.but opE b8 (fun q hq => by simp [blkOf]; rintro rfl; exact hxvo hq), T7.blk, fun p hp => ?_⟩
      obtain ⟨d1, d2⟩ := T3.dp p hp
      obtain ⟨d3, d4⟩ := T7.dp p hp
      exact ⟨d3.but dotE b8 (fun q hq => by simp [blkOf]; have := (d2 q hq).1; omega), d4.mv b8.n (.inl rfl)⟩
    have hs8 : SlT dotE S8 (slOf t2) o.deps := (ho7.sl dotE).but dotE b8 fun q hq => by simp [blkOf]; exact fun e => hxt q hq e.symm
    have ha8 : Apart2 S8 vo (.map (some mb)) (slOf t2) := ha7.mv b8.n (.inl rfl)
    have cx8 := hx8.c
    simp (disch := omega) only [go_sem, simprocAttr, h3, h4, h9, h10, h11, cx8, opC_len, opC_toList]
    refine walloc_sl (opC o (slOf t2)) fun u S9 e9 ou hu hun => ?_
    have T9 := T8.ext e9
    have hlit : SlT opE S9 (.slice (some ⟨u, 0, none⟩) 1 1) [(o, t2)] := ⟨_, 1, rfl, Nat.le_refl _, .inr rfl, fun _ => ⟨u, 0, rfl, hu, by rw [St.loadN_def, ou]; rfl⟩⟩
    simp (disch := omega) only [go_sem, simprocAttr, h4]
    refine wE_app opE (bytes := 136) (xs := qs) (ys := [(o, t2)]) T9.own hlit rfl rfl (Nat.le_trans g8.n e9.n) (by simp only [List.length_singleton]; omega) (by simp only [List.length_singleton]; omega) fun v10 S10 ho10 hb10 hv10 => ?_
    have T10 := T9.push (p := (o, t2)) (Nat.le_trans g8.n e9.n) ho10 hb10 hv10 (hs8.ext dotE e9) (ha8.ext e9)
    have g10 : S.Ext S10 := (g8.trans e9).but hb10 fun j hj => (T9.own.blk opE j hj).1
    simp (disch := omega) only [go_sem, simprocAttr, h3, h4, h9, h10, h11]
    refine ⟨ps.length - (i + 1), by omega, i + 1, v10, qs ++ [(o, t2)], ?_⟩
    have hq' : (qs ++ [(o, t2)]).map Prod.fst = keptA ((ps.take (i + 1)).map Prod.fst) := by rw [hsn]; simp
    have hids : ((qs ++ [(o, t2)]).map Prod.fst).map OpA.id = (qs.map Prod.fst).map OpA.id ++ [o.id] := by simp
    rw [← hids] at T10
    repeat' first | assumption | omega | (exact St.Ext.refl _) | (exact List.Perm.refl _) | rfl | (exact .inl trivial) | (exact trivial) | refine And.intro ?_ ?_
  rintro fr S3 ⟨vo, qs, h4, T3, hq, g3⟩
  obtain ⟨q, hq1, hq2⟩ := T3.blk
  rcases T3.own with ⟨-, rfl⟩ | ⟨b, c, rfl, hB, hb, hc, ho⟩
  · simp [blkOf] at hq1
  have hql : qs.length < 1000 := by
    have h1 := congrArg List.length hq
    have h2 := (keptI (ps.map Prod.fst)).len
    rw [List.length_map] at h1 h2
    omega
  have hdat : DatS opE S3 b (c * 14) qs = S3 := DatS.back ho hb
  simp (disch := omega) only [go_sem, simprocAttr, h4]
  rw [← hdat]
  refine wJ_of (F.slices_SortStableFunc_s_api_Op_api_Op_J (N := qs.length) compare_F (fun _ => trivial) lessO_swo (pw_true qs) rfl (Nat.mul_le_mul_right _ hc) (by omega)) ?_; rintro _ _ ⟨Z, hp, hs, rfl⟩
  have hzl := hp.length_eq
  have hb3 : St.But (ptrV b) S3 (DatS opE S3 b (c * 14) Z) := but_put ..
  simp (disch := omega) only [go_sem, simprocAttr, h4]
  rw [← hzl]
  refine ⟨Z, .inr ⟨b, c, rfl, hB, St.lt_put_self _ _ _, by omega, St.put_same _ _ _⟩, ?_, fun p hpz => ?_, g3.but hb3 fun j hj => by simp [blkOf] at hj; omega⟩
  · refine counted_eq ?_ (List.pairwise_map.2 (hs.imp fun {a b} h k => ?_))
    · rw [← hq]; exact hp.map _
    · rcases h with h | h
      · exact lessO_asymm h k
      · exact h.1 k
  · obtain ⟨d1, d2⟩ := T3.dp p (hp.mem_iff.1 hpz)
    refine ⟨d1.but dotE hb3 fun j hj => (d2 j hj).2.1, fun j hj => ⟨Nat.lt_of_lt_of_le (d2 j hj).1 hb3.n, (d2 j hj).2.1⟩⟩
end Go.Osj
