/- Stories: moves. -/
import Derived.Test.YtfadbihdmohdiaaGreatDoorGA
set_option linter.unusedVariables false
set_option linter.unusedSimpArgs false
set_option maxHeartbeats 1000000
namespace Go.Osj
theorem wst_op {S : St} {w off n : Nat} {o : OpA} {d v : Value} {k : KV} (o' : OpA) (d' : Value) (h : opB S w o d) (h1 : v.cells.size = n) (h2 : oneC v.cells.toList = true) (h3 : off + n ≤ 14) (hw : wrote (opC o d) off v.cells.toList = opC o' d')
    (hk : ∀ S', opB S' w o' d' → St.But (ptrV w) S S' → k.run undef S') : @wst (.pointer (some ⟨w, off, none⟩)) v n S k :=
  wst_w _ h.2 h1 h2 (by show off ≤ 14; omega) h3 hw fun S' h1 h2 h3 => hk S' ⟨h3, h1⟩ h2
theorem opB.but {S S' : St} {w : Nat} {o : OpA} {d u : Value} (h : opB S w o d) (b : St.But u S S') (hu : blkOf u ≠ some w) : opB S' w o d := ⟨Nat.lt_of_lt_of_le h.1 b.n, (b.obj w h.1 hu).trans h.2⟩
/-- a raw act in a block -/
def mkB (S : St) (x : Nat) (m : Mk) : Prop := x < S.n ∧ S.obj x = some (.cells true 6 (mkC m))
theorem mkB.ext {S S' : St} {x : Nat} {m : Mk} (h : mkB S x m) (he : S.Ext S') : mkB S' x m := ⟨Nat.lt_of_lt_of_le h.1 he.n, (he.obj x h.1).trans h.2⟩
theorem mkB.but {S S' : St} {x : Nat} {m : Mk} {u : Value} (h : mkB S x m) (b : St.But u S S') (hu : blkOf u ≠ some x) : mkB S' x m := ⟨Nat.lt_of_lt_of_le h.1 b.n, (b.obj x h.1 hu).trans h.2⟩
theorem mkB.c {S : St} {x : Nat} {m : Mk} (h : mkB S x m) :
    (S.cell ⟨x, 0, none⟩ = some (.int .i64 m.act) ∧ S.cell ⟨x, 1, none⟩ = some (.int .i64 m.knows) ∧ S.cell ⟨x, 2, none⟩ = some (.int .i64 m.kind) ∧ S.cell ⟨x, 3, none⟩ = some (.int .i64 m.a) ∧ S.cell ⟨x, 4, none⟩ = some (.int .i64 m.b) ∧ S.cell ⟨x, 5, none⟩ = some (.string m.key)) ∧
    S.loadN ⟨x, 0, none⟩ 6 = some (mkC m) := by
  simp only [St.cell_def, St.loadN_def, h.2]
  simp [mkC]
abbrev mkV (m : Mk) : Value := .agg (mkC m).toArray
theorem mkC_len (m : Mk) : (mkC m).length = 6 := rfl
theorem mkC_toList (m : Mk) : (mkC m).toArray.toList = mkC m := rfl
theorem wE_boxK {fr : Fr} {S : St} {x : Operand} {k : KV} {m : Mk} (hx : ev fr x = mkV m) (hk : ∀ w S1, S.Ext S1 → mkB S1 w m → S.n ≤ w → k.run (ptrV w) S1) :
    @wfresh S.n ⟨fun b => k.run (.pointer (some ⟨b, 0, none⟩)) (S.put b (.cells true (ev fr x).cells.toList.length (ev fr x).cells.toList))⟩ := by
  refine wfresh_of fun b hb => ?_
  rw [hx]
  exact hk b _ ((St.Ext.refl S).put hb _) ⟨St.lt_put_self _ _ _, St.put_same _ _ _⟩ hb
def zOp : OpA := ⟨(0, 0), 0, [], 0, (0, 0), (0, 0), 0, 0, (0, 0), ⟨#[]⟩⟩
theorem walloc_O {S : St} {k : KV} (hk : ∀ x S1, S.Ext S1 → opB S1 x zOp nilS → S.n ≤ x → k.run (ptrV x) S1) :
    @wfresh S.n ⟨fun b => k.run (.pointer (some ⟨b, 0, none⟩)) (S.put b (.cells true (opC zOp nilS).length (opC zOp nilS)))⟩ :=
  wfresh_of fun b hb => hk b _ ((St.Ext.refl S).put hb _) ⟨St.lt_put_self _ _ _, St.put_same _ _ _⟩ hb
theorem walloc_sl {S : St} {k : KV} {n m : Nat} (cs : List Value) (hk : ∀ x S1, S.Ext S1 → S1.obj x = some (.cells true cs.length cs) → x < S1.n → S.n ≤ x → k.run (.slice (some ⟨x, 0, none⟩) n m) S1) :
    @wfresh S.n ⟨fun b => k.run (.slice (some ⟨b, 0, none⟩) n m) (S.put b (.cells true cs.length cs))⟩ :=
  wfresh_of fun b hb => hk b _ ((St.Ext.refl S).put hb _) (St.put_same _ _ _) (St.lt_put_self _ _ _) hb
theorem F.osierref08_moved_J {S : St} {o : OpA} {t : SlP} {k : Value} {bs : List Dot} {m : Mk} (hk : SlT dotE S k bs) (hm : mkI m) (hL : bs.length < 1000000) :
    J PR F.osierref08_moved [opV o (slOf t), k, mkV m] S fun v S' => v = opV (movedA o bs m) (slOf t) ∧ S.Ext S' := by
  obtain ⟨base, cap, rfl⟩ := hk.len dotE
  obtain ⟨-, -, -, ma, mb⟩ := hm
  refine J_by PR.mixed F.osierref08_moved.ok (by simp) ?_
  simp (disch := omega) only [go_sem, simprocAttr]
  refine wE_boxO (o := o) (dv := slOf t) rfl fun x S1 e1 hx hxn => ?_
  simp (disch := omega) only [go_sem, simprocAttr]
  refine wE_boxK (m := m) rfl fun y S2 e2 hy hyn => ?_
  simp (disch := omega) only [go_sem, simprocAttr]
  refine walloc_O fun z S3 e3 hz hzn => ?_
  have hx3 := (hx.ext e2).ext e3
  have hy3 := hy.ext e3
  have hxy : y ≠ x := by have := hx.1; omega
  have hxz : z ≠ x := by have := (hx.ext e2).1; omega
  have hyz : z ≠ y := by have := hy.1; omega
  have cy3 := hy3.c
  have hz0 : S.n ≤ z := by have := e1.n; have := e2.n; omega
  simp (disch := omega) only [go_sem, simprocAttr, cy3]
  refine wst_op { o with key := m.key } (slOf t) hx3 rfl rfl (by decide) rfl fun S4 hx4 b4 => ?_
  have hy4 := hy3.but b4 (by simp [blkOf]; exact Ne.symm hxy)
  have hz4 := hz.but b4 (by simp [blkOf]; exact Ne.symm hxz)
  have g4 : S.Ext S4 := ((e1.trans e2).trans e3).but b4 fun j hj => by simp [blkOf] at hj; omega
  simp (disch := omega) only [go_sem, simprocAttr]
  refine walloc_sl [.int .i64 0, .int .i64 (-1), .int .i64 0, .int .i64 (-2)] fun u S5 e5 ou hu hun => ?_
  have hx5 := hx4.ext e5
  have hy5 := hy4.ext e5
  have hz5 := hz4.ext e5
  simp (disch := omega) only [go_sem, simprocAttr]
  have ho : OwnT dotE S4.n S5 (.slice (some ⟨u, 0, none⟩) 2 2) [(0, -1), (0, -2)] := .inr ⟨u, 2, rfl, hun, hu, Nat.le_refl _, ou⟩
  refine wE_app dotE (bytes := 16) (ys := bs) ho (hk.ext dotE (g4.trans e5)) rfl rfl e5.n (by simp only [List.length_cons, List.length_nil]; omega) (by simp only [List.length_cons, List.length_nil]; omega) fun v6 S6 ho6 hb6 hv6 => ?_
  have g45 : S4.Ext S6 := e5.but hb6 fun j hj => by simp [blkOf] at hj; omega
  have hx6 := hx4.ext g45
  have hy6 := hy4.ext g45
  have hz6 := hz4.ext g45
  have g6 := g4.trans g45
  have hPl : ([(0, -1), (0, -2)] ++ bs : List Dot).length = bs.length + 2 := by simp
  generalize hP : ([(0, -1), (0, -2)] ++ bs : List Dot) = P at *
  obtain ⟨bp, cp, hv⟩ := (ho6.sl dotE).len dotE
  subst hv
  have cx6 := hx6.c
  have cy6 := hy6.c
  simp (disch := omega) only [go_sem, simprocAttr, cx6]
  refine wst_op { o with key := m.key, block := o.id } (slOf t) hx6 rfl rfl (by decide) rfl fun S7 hx7 b7 => ?_
  have hy7 := hy6.but b7 (by simp [blkOf]; exact Ne.symm hxy)
  have hz7 := hz6.but b7 (by simp [blkOf]; exact Ne.symm hxz)
  have g7 : S.Ext S7 := g6.but b7 fun j hj => by simp [blkOf] at hj; omega
  have ho7 : OwnT dotE S4.n S7 (.slice bp P.length cp) P := ho6.but dotE b7 fun j hj => by
    have h1 := (ho6.blk dotE j hj).1
    have h2 := hx4.1
    simp [blkOf]
    omega
  have cy7 := hy7.c
  obtain ⟨kk, hkk, hkl⟩ := tmod_nat (a := absZ m.b) (n := P.length + 2) (absZ_nonneg _) (by omega)
  have hkk2 : (absZ m.b).tmod ((P.length : Int) + 2) = (kk : Int) := hkk
  have hpz : ¬ ((P.length : Int) + 2 = 0) := by omega
  have hkk2' : ((absZ m.b).tmod ((P.length : Int) + 2)).toNat = kk := by rw [hkk2]; rfl
  by_cases hb0 : 0 < bs.length
  rotate_left
  · have d1 : ¬ ((bs.length : Int) > 0) := by omega
    have e1 : (if 0 < bs.length ∧ 0 < (absZ m.a).tmod 3 then pickA bs m.a else o.id) = o.id := if_neg fun h => hb0 h.1
    have cy7 := hy7.c
    simp (disch := omega) only [go_sem, simprocAttr, d1, cy7]
    refine wJ_of (F.osierref08_abs_J (n := m.b) mb) ?_; rintro _ _ ⟨rfl, rfl⟩
    by_cases hkP : kk < P.length
    · have c3 : ¬ ((kk : Int) ≥ (P.length : Int)) := by omega
      have c4 : (0 : Int) ≤ (kk : Int) ∧ (kk : Int) < (P.length : Int) := by omega
      obtain ⟨b1, o1, rfl, hb1, l1⟩ := (ho7.sl dotE).dot hkP
      have hget : P.getD kk (0, 0) = P[kk] := by rw [List.getD_eq_getElem?_getD, List.getElem?_eq_getElem hkP]; rfl
      generalize P[kk] = pr at *
      simp (disch := omega) only [go_sem, simprocAttr, hkk2, hpz, c3, c4, l1]
      refine wst_op (movedA o bs m) (slOf t) hx7 rfl rfl (by decide) (by simp only [movedA, hP]; rw [hkk2', if_pos hkP, hget, e1]; rfl) fun S9 hx9 b9 => ?_
      have hz9 := hz7.but b9 (by simp [blkOf]; exact Ne.symm hxz)
      have cx9 := hx9.c
      simp (disch := omega) only [go_sem, simprocAttr, cx9, opC_len, opC_toList]
      refine wst_op (movedA o bs m) (slOf t) hz9 rfl rfl (by decide) rfl fun S10 hz10 b10 => ?_
      have cz10 := hz10.c
      simp (disch := omega) only [go_sem, simprocAttr, cz10]
      exact (g7.but b9 fun j hj => by simp [blkOf] at hj; omega).but b10 fun j hj => by simp [blkOf] at hj; omega
    · have c3 : (kk : Int) ≥ (P.length : Int) := by omega
      have h0P : 0 < P.length := by omega
      have c4 : (0 : Int) < (P.length : Int) := by omega
      obtain ⟨b1, o1, rfl, hb1, l1⟩ := (ho7.sl dotE).dot h0P
      have hget : P.getD 0 (0, 0) = P[0] := by rw [List.getD_eq_getElem?_getD, List.getElem?_eq_getElem h0P]; rfl
      generalize P[0] = pr at *
      have l1' := l1
      simp only [Nat.zero_mul, Nat.add_zero] at l1'
      simp (disch := omega) only [go_sem, simprocAttr, hkk2, hpz, c3, c4, l1, l1']
      refine wst_op (movedA o bs m) (slOf t) hx7 rfl rfl (by decide) (by simp only [movedA, hP]; rw [hkk2', if_neg hkP, hget, e1]; rfl) fun S9 hx9 b9 => ?_
      have hz9 := hz7.but b9 (by simp [blkOf]; exact Ne.symm hxz)
      have cx9 := hx9.c
      simp (disch := omega) only [go_sem, simprocAttr, cx9, opC_len, opC_toList]
      refine wst_op (movedA o bs m) (slOf t) hz9 rfl rfl (by decide) rfl fun S10 hz10 b10 => ?_
      have cz10 := hz10.c
      simp (disch := omega) only [go_sem, simprocAttr, cz10]
      exact (g7.but b9 fun j hj => by simp [blkOf] at hj; omega).but b10 fun j hj => by simp [blkOf] at hj; omega
  have d1 : (bs.length : Int) > 0 := by omega
  simp (disch := omega) only [go_sem, simprocAttr, d1, cy7]
  refine wJ_of (F.osierref08_abs_J (n := m.a) ma) ?_; rintro _ _ ⟨rfl, rfl⟩
  by_cases h3 : 0 < (absZ m.a).tmod 3
  rotate_left
  · have d2 : ¬ ((absZ m.a).tmod 3 > 0) := h3
    have e1 : (if 0 < bs.length ∧ 0 < (absZ m.a).tmod 3 then pickA bs m.a else o.id) = o.id := if_neg fun h => h3 h.2
    have cy7 := hy7.c
    simp (disch := omega) only [go_sem, simprocAttr, d2, cy7]
    refine wJ_of (F.osierref08_abs_J (n := m.b) mb) ?_; rintro _ _ ⟨rfl, rfl⟩
    by_cases hkP : kk < P.length
    · have c3 : ¬ ((kk : Int) ≥ (P.length : Int)) := by omega
      have c4 : (0 : Int) ≤ (kk : Int) ∧ (kk : Int) < (P.length : Int) := by omega
      obtain ⟨b1, o1, rfl, hb1, l1⟩ := (ho7.sl dotE).dot hkP
      have hget : P.getD kk (0, 0) = P[kk] := by rw [List.getD_eq_getElem?_getD, List.getElem?_eq_getElem hkP]; rfl
      generalize P[kk] = pr at *
      simp (disch := omega) only [go_sem, simprocAttr, hkk2, hpz, c3, c4, l1]
      refine wst_op (movedA o bs m) (slOf t) hx7 rfl rfl (by decide) (by simp only [movedA, hP]; rw [hkk2', if_pos hkP, hget, e1]; rfl) fun S9 hx9 b9 => ?_
      have hz9 := hz7.but b9 (by simp [blkOf]; exact Ne.symm hxz)
      have cx9 := hx9.c
      simp (disch := omega) only [go_sem, simprocAttr, cx9, opC_len, opC_toList]
      refine wst_op (movedA o bs m) (slOf t) hz9 rfl rfl (by decide) rfl fun S10 hz10 b10 => ?_
      have cz10 := hz10.c
      simp (disch := omega) only [go_sem, simprocAttr, cz10]
      exact (g7.but b9 fun j hj => by simp [blkOf] at hj; omega).but b10 fun j hj => by simp [blkOf] at hj; omega
    · have c3 : (kk : Int) ≥ (P.length : Int) := by omega
      have h0P : 0 < P.length := by omega
      have c4 : (0 : Int) < (P.length : Int) := by omega
      obtain ⟨b1, o1, rfl, hb1, l1⟩ := (ho7.sl dotE).dot h0P
      have hget : P.getD 0 (0, 0) = P[0] := by rw [List.getD_eq_getElem?_getD, List.getElem?_eq_getElem h0P]; rfl
      generalize P[0] = pr at *
      have l1' := l1
      simp only [Nat.zero_mul, Nat.add_zero] at l1'
      simp (disch := omega) only [go_sem, simprocAttr, hkk2, hpz, c3, c4, l1, l1']
      refine wst_op (movedA o bs m) (slOf t) hx7 rfl rfl (by decide) (by simp only [movedA, hP]; rw [hkk2', if_neg hkP, hget, e1]; rfl) fun S9 hx9 b9 => ?_
      have hz9 := hz7.but b9 (by simp [blkOf]; exact Ne.symm hxz)
      have cx9 := hx9.c
      simp (disch := omega) only [go_sem, simprocAttr, cx9, opC_len, opC_toList]
      refine wst_op (movedA o bs m) (slOf t) hz9 rfl rfl (by decide) rfl fun S10 hz10 b10 => ?_
      have cz10 := hz10.c
      simp (disch := omega) only [go_sem, simprocAttr, cz10]
      exact (g7.but b9 fun j hj => by simp [blkOf] at hj; omega).but b10 fun j hj => by simp [blkOf] at hj; omega
  have d2 : (absZ m.a).tmod 3 > 0 := h3
  simp (disch := omega) only [go_sem, simprocAttr, d2, cy7]
  refine wJ_of (F.osierref08_abs_J (n := m.a) ma) ?_; rintro _ _ ⟨rfl, rfl⟩
  obtain ⟨kj, hkj, hkjl⟩ := tmod_nat (a := absZ m.a) (n := bs.length) (absZ_nonneg _) (by omega)
  have hbz : ¬ ((bs.length : Int) = 0) := by omega
  have c2 : (0 : Int) ≤ (kj : Int) ∧ (kj : Int) < (bs.length : Int) := by omega
  obtain ⟨b2, o2, rfl, hb2, l2⟩ := (hk.ext dotE g7).dot hkjl
  have e1 : (if 0 < bs.length ∧ 0 < (absZ m.a).tmod 3 then pickA bs m.a else o.id) = bs[kj] := by
    rw [if_pos ⟨hb0, h3⟩, pickA, hkj]
    show bs.getD kj (0, 0) = _
    rw [List.getD_eq_getElem?_getD, List.getElem?_eq_getElem hkjl]
    rfl
  generalize bs[kj] = bd at *
  simp (disch := omega) only [go_sem, simprocAttr, hkj, hbz, c2, l2]
  refine wst_op { o with key := m.key, block := bd } (slOf t) hx7 rfl rfl (by decide) rfl fun S8 hx8 b8 => ?_
  have hy8 := hy7.but b8 (by simp [blkOf]; exact Ne.symm hxy)
  have hz8 := hz7.but b8 (by simp [blkOf]; exact Ne.symm hxz)
  have g8 : S.Ext S8 := g7.but b8 fun j hj => by simp [blkOf] at hj; omega
  have ho8 : OwnT dotE S4.n S8 (.slice bp P.length cp) P := ho7.but dotE b8 fun j hj => by
    have h1 := (ho7.blk dotE j hj).1
    have h2 := hx4.1
    simp [blkOf]
    omega
  have cy8 := hy8.c
  simp (disch := omega) only [go_sem, simprocAttr, d2, cy8]
  refine wJ_of (F.osierref08_abs_J (n := m.b) mb) ?_; rintro _ _ ⟨rfl, rfl⟩
  by_cases hkP : kk < P.length
  · have c3 : ¬ ((kk : Int) ≥ (P.length : Int)) := by omega
    have c4 : (0 : Int) ≤ (kk : Int) ∧ (kk : Int) < (P.length : Int) := by omega
    obtain ⟨b1, o1, rfl, hb1, l1⟩ := (ho8.sl dotE).dot hkP
    have hget : P.getD kk (0, 0) = P[kk] := by rw [List.getD_eq_getElem?_getD, List.getElem?_eq_getElem hkP]; rfl
    generalize P[kk] = pr at *
    simp (disch := omega) only [go_sem, simprocAttr, hkk2, hpz, c3, c4, l1]
    refine wst_op (movedA o bs m) (slOf t) hx8 rfl rfl (by decide) (by simp only [movedA, hP]; rw [hkk2', if_pos hkP, hget, e1]; rfl) fun S9 hx9 b9 => ?_
    have hz9 := hz8.but b9 (by simp [blkOf]; exact Ne.symm hxz)
    have cx9 := hx9.c
    simp (disch := omega) only [go_sem, simprocAttr, cx9, opC_len, opC_toList]
    refine wst_op (movedA o bs m) (slOf t) hz9 rfl rfl (by decide) rfl fun S10 hz10 b10 => ?_
    have cz10 := hz10.c
    simp (disch := omega) only [go_sem, simprocAttr, cz10]
    exact (g8.but b9 fun j hj => by simp [blkOf] at hj; omega).but b10 fun j hj => by simp [blkOf] at hj; omega
  · have c3 : (kk : Int) ≥ (P.length : Int) := by omega
    have h0P : 0 < P.length := by omega
    have c4 : (0 : Int) < (P.length : Int) := by omega
    obtain ⟨b1, o1, rfl, hb1, l1⟩ := (ho8.sl dotE).dot h0P
    have hget : P.getD 0 (0, 0) = P[0] := by rw [List.getD_eq_getElem?_getD, List.getElem?_eq_getElem h0P]; rfl
    generalize P[0] = pr at *
    have l1' := l1
    simp only [Nat.zero_mul, Nat.add_zero] at l1'
    simp (disch := omega) only [go_sem, simprocAttr, hkk2, hpz, c3, c4, l1, l1']
    refine wst_op (movedA o bs m) (slOf t) hx8 rfl rfl (by decide) (by simp only [movedA, hP]; rw [hkk2', if_neg hkP, hget, e1]; rfl) fun S9 hx9 b9 => ?_
    have hz9 := hz8.but b9 (by simp [blkOf]; exact Ne.symm hxz)
    have cx9 := hx9.c
    simp (disch := omega) only [go_sem, simprocAttr, cx9, opC_len, opC_toList]
    refine wst_op (movedA o bs m) (slOf t) hz9 rfl rfl (by decide) rfl fun S10 hz10 b10 => ?_
    have cz10 := hz10.c
    simp (disch := omega) only [go_sem, simprocAttr, cz10]
    exact (g8.but b9 fun j hj => by simp [blkOf] at hj; omega).but b10 fun j hj => by simp [blkOf] at hj; omega
end Go.Osj
