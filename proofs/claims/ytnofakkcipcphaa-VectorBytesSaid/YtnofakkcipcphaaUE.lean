/- The law VectorBytes: the row of calls. -/
import Derived.Test.YtnofakkcipcphaaUD
set_option linter.unusedSimpArgs false
namespace Go.Osj
theorem rdL_enc {xs : List Dot} (hx : ∀ d ∈ xs, mayP d) (r : List Int) : ∀ i, i ≤ xs.length → rdL (encDs xs ++ r) 0 i = (xs.take i, encDs (xs.drop i) ++ r, 0)
  | 0, _ => by simp [rdL]
  | i + 1, h => by
    have hlx : i < xs.length := by omega
    have hm := may_inI (hx xs[i] (List.getElem_mem _))
    have hd : encDs (xs.drop i) ++ r = encI xs[i].1 ++ (encI xs[i].2 ++ (encDs (xs.drop (i + 1)) ++ r)) := by
      rw [List.drop_eq_getElem_cons hlx]
      simp only [encDs, List.flatMap_cons, encD, List.append_assoc]
    rw [rdL, rdL_enc hx r i (by omega)]
    simp only
    rw [hd, rdD_enc hm.1 hm.2, take_snoc (List.getElem?_eq_getElem hlx)]
theorem rdV_enc {V : List Dot} (hV : isV V) (hL : V.length < 100000) (r : List Int) : rdV (encV V ++ r) 0 = (V, r, 0) := by
  have h1 : rdU (encV V ++ r) 0 = (V.length, encDs V ++ r, 0) := by
    unfold encV
    rw [List.append_assoc, rdU_enc (by omega)]
  have h2 : rdC (encV V ++ r) 0 = (V.length, encDs V ++ r, 0) := by
    unfold rdC
    rw [h1]
    simp only
    rw [if_neg (by have := (encDs_len V).1; rw [List.length_append]; omega)]
  unfold rdV
  rw [h2]
  simp only
  rw [rdL_enc hV.2 r _ (Nat.le_refl _)]
  simp only [List.take_length, List.drop_length, if_true]
  rw [if_pos hV]
  simp [encDs]
theorem rdV_good {bs : List Int} {e : Int} (hb : isB bs) (he : e ≠ 0 → bs = []) : isB (rdV bs e).2.1 ∧ ((rdV bs e).2.2 ≠ 0 → (rdV bs e).2.1 = []) ∧ (rdV bs e).2.1.length ≤ bs.length ∧ (rdV bs e).1.length ≤ bs.length := by
  obtain ⟨h1, h2, h3, h3'⟩ := rdC_good hb he
  obtain ⟨k1, k2, k3, k4⟩ := rdL_good h1 h2 (rdC bs e).1
  unfold rdV
  split
  · split
    · exact ⟨k1, k2, by omega, by omega⟩
    · simp [isB]
  · exact ⟨k1, k2, Nat.le_trans k3 h3', by simp⟩
theorem F.osierlaw04_VectorBytes.J {S : St} {l k : Value} {bs : List Int} {xs : List Dot} (hl : SlT byteE S l bs) (hb : isB bs) (hk : SlT dotE S k xs) : J PR F.osierlaw04_VectorBytes [l, k] S fun v _ => v = .bool true := by
  obtain ⟨base, cap, rfl⟩ := hl.len byteE
  refine J_by PR.mixed F.osierlaw04_VectorBytes.ok (by simp) ?_
  simp (disch := omega) only [go_sem, ↓reduceIte, Nat.reduceEqDiff, Nat.reduceAdd, Nat.reduceMul, Nat.reduceSub, Nat.reduceLT, Nat.reduceLeDiff, Nat.reduceBEq, Nat.reduceLeDiff, reduceCtorEq, Int.reduceLT, Int.reduceEq, Int.reduceLE, Int.reduceAdd, Int.reduceSub, Int.reduceToNat, Int.reduceNeg, Int.toNat_natCast, beq_self_eq_true, wrap64, undef, Nat.zero_add, Nat.add_zero, Int.zero_add, Int.add_zero, Int.sub_zero, St.loadN_other, St.cell_other]
  refine wJ_of F.osierlaw04_awake_J ?_; rintro _ _ ⟨rfl, rfl⟩
  simp (disch := omega) only [go_sem, ↓reduceIte, Nat.reduceEqDiff, Nat.reduceAdd, Nat.reduceMul, Nat.reduceSub, Nat.reduceLT, Nat.reduceLeDiff, Nat.reduceBEq, Nat.reduceLeDiff, reduceCtorEq, Int.reduceLT, Int.reduceEq, Int.reduceLE, Int.reduceAdd, Int.reduceSub, Int.reduceToNat, Int.reduceNeg, Int.toNat_natCast, beq_self_eq_true, wrap64, undef, Nat.zero_add, Nat.add_zero, Int.zero_add, Int.add_zero, Int.sub_zero, St.loadN_other, St.cell_other]
  refine wcond_dec (fun h => ?_) (fun h => ?_)
  · simp (disch := omega) only [go_sem, ↓reduceIte, Nat.reduceEqDiff, Nat.reduceAdd, Nat.reduceMul, Nat.reduceSub, Nat.reduceLT, Nat.reduceLeDiff, Nat.reduceBEq, Nat.reduceLeDiff, reduceCtorEq, Int.reduceLT, Int.reduceEq, Int.reduceLE, Int.reduceAdd, Int.reduceSub, Int.reduceToNat, Int.reduceNeg, Int.toNat_natCast, beq_self_eq_true, wrap64, undef, Nat.zero_add, Nat.add_zero, Int.zero_add, Int.add_zero, Int.sub_zero, St.loadN_other, St.cell_other]
  simp (disch := omega) only [go_sem, ↓reduceIte, Nat.reduceEqDiff, Nat.reduceAdd, Nat.reduceMul, Nat.reduceSub, Nat.reduceLT, Nat.reduceLeDiff, Nat.reduceBEq, Nat.reduceLeDiff, reduceCtorEq, Int.reduceLT, Int.reduceEq, Int.reduceLE, Int.reduceAdd, Int.reduceSub, Int.reduceToNat, Int.reduceNeg, Int.toNat_natCast, beq_self_eq_true, wrap64, undef, Nat.zero_add, Nat.add_zero, Int.zero_add, Int.add_zero, Int.sub_zero, St.loadN_other, St.cell_other]
  refine wJ_of (F.osierref04_Made_J hk) ?_; rintro vv S0 ⟨hsv, he0⟩
  have hV := madeV_is xs
  have hVl := madeV_len xs
  generalize madeV xs = V at hsv hV hVl
  simp (disch := omega) only [go_sem, ↓reduceIte, Nat.reduceEqDiff, Nat.reduceAdd, Nat.reduceMul, Nat.reduceSub, Nat.reduceLT, Nat.reduceLeDiff, Nat.reduceBEq, Nat.reduceLeDiff, reduceCtorEq, Int.reduceLT, Int.reduceEq, Int.reduceLE, Int.reduceAdd, Int.reduceSub, Int.reduceToNat, Int.reduceNeg, Int.toNat_natCast, beq_self_eq_true, wrap64, undef, Nat.zero_add, Nat.add_zero, Int.zero_add, Int.add_zero, Int.sub_zero, St.loadN_other, St.cell_other]
  refine wJ_of (F.vector_Put_J (hl.ext byteE he0) hsv hV.2 (by omega) (by omega)) ?_; rintro vx S1 ⟨hox, he1⟩
  have e01 := he0.trans he1
  have s1 := (hox.sl byteE).text
  have s3 := (hl.ext byteE e01).text
  simp (disch := omega) only [go_sem, ↓reduceIte, Nat.reduceEqDiff, Nat.reduceAdd, Nat.reduceMul, Nat.reduceSub, Nat.reduceLT, Nat.reduceLeDiff, Nat.reduceBEq, Nat.reduceLeDiff, reduceCtorEq, Int.reduceLT, Int.reduceEq, Int.reduceLE, Int.reduceAdd, Int.reduceSub, Int.reduceToNat, Int.reduceNeg, Int.toNat_natCast, beq_self_eq_true, wrap64, undef, Nat.zero_add, Nat.add_zero, Int.zero_add, Int.add_zero, Int.sub_zero, St.loadN_other, St.cell_other, s1, s3]
  refine wJ_of (F.osierref04_Put_J (hsv.ext dotE he1) hV.2 (by omega)) ?_; rintro vy S2 ⟨hoy, he2⟩
  have e02 := e01.trans he2
  have t1 := ((hox.sl byteE).ext byteE he2).text
  have t2 := (hoy.sl byteE).text
  have t3 := (hl.ext byteE e02).text
  have el1 := (encDs_len V).2
  have el2 : (encV V).length ≤ 9 + 18 * V.length := by unfold encV; rw [List.length_append, encN_len]; have := (sizeN_range V.length).2; omega
  have hsz : (bytesOf bs).size + (bytesOf (encV V)).size ≤ 9223372036854775807 := by rw [bytesOf_size, bytesOf_size]; omega
  have happ : bytesOf (bs ++ encV V) = bytesOf bs ++ bytesOf (encV V) := bytesOf_append _ _
  have hbe : (bytesOf bs ++ bytesOf (encV V) == bytesOf bs ++ bytesOf (encV V)) = true := by rw [ba_beq]; simp
  simp (disch := omega) only [go_sem, ↓reduceIte, Nat.reduceEqDiff, Nat.reduceAdd, Nat.reduceMul, Nat.reduceSub, Nat.reduceLT, Nat.reduceLeDiff, Nat.reduceBEq, Nat.reduceLeDiff, reduceCtorEq, Int.reduceLT, Int.reduceEq, Int.reduceLE, Int.reduceAdd, Int.reduceSub, Int.reduceToNat, Int.reduceNeg, Int.toNat_natCast, beq_self_eq_true, wrap64, undef, Nat.zero_add, Nat.add_zero, Int.zero_add, Int.add_zero, Int.sub_zero, St.loadN_other, St.cell_other, t1, t2, t3, binS, hsz, happ, hbe]
  have e2 := he1.trans he2
  have hl2 := hl.ext byteE e02
  refine wJ_of (F.num_Read_J hl2) ?_; rintro _ S3 ⟨q, rfl, hq, hr, he3⟩
  simp (disch := omega) only [go_sem, ↓reduceIte, Nat.reduceEqDiff, Nat.reduceAdd, Nat.reduceMul, Nat.reduceSub, Nat.reduceLT, Nat.reduceLeDiff, Nat.reduceBEq, Nat.reduceLeDiff, reduceCtorEq, Int.reduceLT, Int.reduceEq, Int.reduceLE, Int.reduceAdd, Int.reduceSub, Int.reduceToNat, Int.reduceNeg, Int.toNat_natCast, beq_self_eq_true, wrap64, undef, Nat.zero_add, Nat.add_zero, Int.zero_add, Int.add_zero, Int.sub_zero, St.loadN_other, St.cell_other]
  refine wfresh_of fun w hw => ?_
  simp (disch := omega) only [go_sem, ↓reduceIte, Nat.reduceEqDiff, Nat.reduceAdd, Nat.reduceMul, Nat.reduceSub, Nat.reduceLT, Nat.reduceLeDiff, Nat.reduceBEq, Nat.reduceLeDiff, reduceCtorEq, Int.reduceLT, Int.reduceEq, Int.reduceLE, Int.reduceAdd, Int.reduceSub, Int.reduceToNat, Int.reduceNeg, Int.toNat_natCast, beq_self_eq_true, wrap64, undef, Nat.zero_add, Nat.add_zero, Int.zero_add, Int.add_zero, Int.sub_zero, St.loadN_other, St.cell_other]
  have he4 := (St.Ext.refl S3).put hw (.cells true 2 [.slice base bs.length cap, .int .i64 0])
  have hwq : q ≠ w := by have := hr.lt; omega
  have hrw : RdT (S3.put w (.cells true 2 [.slice base bs.length cap, .int .i64 0])) w S2.n bs 0 := by
    refine ⟨_, St.put_same _ _ _, St.lt_put_self _ _ _, (hl2.ext byteE he3).ext byteE he4, fun hne => ?_⟩
    obtain ⟨b2, c2, g1, -, -, g4⟩ := hl2
    obtain ⟨b, off, rfl, hlt, -⟩ := g4 hne
    injection g1 with g1 g2 g3
    subst g1
    have := he3.n
    refine ⟨fun hb => ?_, fun j hj => ?_⟩
    · simp [blkOf] at hb
      omega
    · simp [blkOf] at hj
      omega
  have hrq := hr.but he4
  have e34 := he3.trans he4
  have hn2 := e34.n
  have hwn := St.lt_put_self S3 w (.cells true 2 [.slice base bs.length cap, .int .i64 0])
  have hbut : ∀ i, i < S2.n → (S3.put w (.cells true 2 [.slice base bs.length cap, .int .i64 0])).obj i = S2.obj i := fun i hi => e34.obj i hi
  have hqn := hrq.lt
  generalize S3.put w (.cells true 2 [.slice base bs.length cap, .int .i64 0]) = S4 at *
  have hq2 : S2.n ≤ q := hq
  have hw2 : S2.n ≤ w := by have := he3.n; omega
  obtain ⟨bx, cx, hvx⟩ := (hox.sl byteE).len byteE
  refine wC_at 0 (fun fr S' => fr 0 = .slice base bs.length cap ∧ fr 6 = vv ∧ fr 7 = vx ∧ S2.n ≤ S'.n ∧ ∀ i, i < S2.n → S'.obj i = S2.obj i) ?_ ?_
  · refine wC_loop (fun n fr S' => ∃ (i : Nat) (rs : List Int) (er : Int), n = 4 - i ∧ i ≤ 4 ∧ fr 0 = .slice base bs.length cap ∧ fr 6 = vv ∧ fr 7 = vx ∧ fr 8 = ptrV q ∧ fr 9 = ptrV w ∧ fr 10 = .int .i64 (i : Nat) ∧ S2.n ≤ S'.n ∧ (∀ i, i < S2.n → S'.obj i = S2.obj i) ∧ RdT S' q S2.n rs er ∧ RdT S' w S2.n rs er ∧
        isB rs ∧ (er ≠ 0 → rs = []) ∧ rs.length ≤ 1000) 4 ⟨0, bs, 0, by simp (disch := omega) only [go_sem, ↓reduceIte, Nat.reduceEqDiff, Nat.reduceAdd, Nat.reduceMul, Nat.reduceSub, Nat.reduceLT, Nat.reduceLeDiff, Nat.reduceBEq, Nat.reduceLeDiff, reduceCtorEq, Int.reduceLT, Int.reduceEq, Int.reduceLE, Int.reduceAdd, Int.reduceSub, Int.reduceToNat, Int.reduceNeg, Int.toNat_natCast, beq_self_eq_true, wrap64, undef, Nat.zero_add, Nat.add_zero, Int.zero_add, Int.add_zero, Int.sub_zero, St.loadN_other, St.cell_other]; exact ⟨hn2, hbut, hrq, hrw, hb, by simp, by omega⟩⟩ ?_
    rintro n fr S5 ⟨i, rs, er, rfl, hi, g0, g6, g7, g8, g9, g10, hn5, ho5, hr5, hw5, hrb, hre, hrl⟩
    simp (disch := omega) only [go_sem, ↓reduceIte, Nat.reduceEqDiff, Nat.reduceAdd, Nat.reduceMul, Nat.reduceSub, Nat.reduceLT, Nat.reduceLeDiff, Nat.reduceBEq, Nat.reduceLeDiff, reduceCtorEq, Int.reduceLT, Int.reduceEq, Int.reduceLE, Int.reduceAdd, Int.reduceSub, Int.reduceToNat, Int.reduceNeg, Int.toNat_natCast, beq_self_eq_true, wrap64, undef, Nat.zero_add, Nat.add_zero, Int.zero_add, Int.add_zero, Int.sub_zero, St.loadN_other, St.cell_other, F.osierlaw04_VectorBytes.l0, g0, g6, g7, g8, g9, g10]
    refine wcond_dec (fun hlt => ?_) (fun hge => ?_)
    · obtain ⟨k1, k2, k3, k4⟩ := rdV_good hrb hre
      have hq5 := hr5.lt
      have hw5' := hw5.lt
      simp (disch := omega) only [go_sem, ↓reduceIte, Nat.reduceEqDiff, Nat.reduceAdd, Nat.reduceMul, Nat.reduceSub, Nat.reduceLT, Nat.reduceLeDiff, Nat.reduceBEq, Nat.reduceLeDiff, reduceCtorEq, Int.reduceLT, Int.reduceEq, Int.reduceLE, Int.reduceAdd, Int.reduceSub, Int.reduceToNat, Int.reduceNeg, Int.toNat_natCast, beq_self_eq_true, wrap64, undef, Nat.zero_add, Nat.add_zero, Int.zero_add, Int.add_zero, Int.sub_zero, St.loadN_other, St.cell_other, g0, g6, g7, g8, g9, g10]
      refine wJ_of (F.vector_Take_J hr5 hn5 hrb hre (by omega)) ?_; rintro va S6 ⟨hoa, hr6, hb6⟩
      have hw6 : RdT S6 w S2.n rs er := hw5.keep hb6.n (hb6.obj w hw5' (by simp [blkOf]; exact hwq)) fun j hj hj2 => hb6.obj j hj2 (by simp [blkOf]; omega)
      have hn6 := hb6.n
      simp (disch := omega) only [go_sem, ↓reduceIte, Nat.reduceEqDiff, Nat.reduceAdd, Nat.reduceMul, Nat.reduceSub, Nat.reduceLT, Nat.reduceLeDiff, Nat.reduceBEq, Nat.reduceLeDiff, reduceCtorEq, Int.reduceLT, Int.reduceEq, Int.reduceLE, Int.reduceAdd, Int.reduceSub, Int.reduceToNat, Int.reduceNeg, Int.toNat_natCast, beq_self_eq_true, wrap64, undef, Nat.zero_add, Nat.add_zero, Int.zero_add, Int.add_zero, Int.sub_zero, St.loadN_other, St.cell_other, g0, g6, g7, g8, g9, g10]
      refine wJ_of (F.osierref04_Take_J hw6 (by omega) hrb hre (by omega)) ?_; rintro vb S7 ⟨hob, hw7, hb7⟩
      have hn7 := hb7.n
      have hwS5 : w < S5.n := hw5'
      have hsa := (hoa.but dotE hb7 fun j hj => by have := hoa.fresh dotE j hj; simp [blkOf]; omega).sl dotE
      have hr7 : RdT S7 q S2.n (rdV rs er).2.1 (rdV rs er).2.2 := hr6.keep hb7.n (hb7.obj q hr6.lt (by simp [blkOf]; omega)) fun j hj hj2 => hb7.obj j hj2 (by simp [blkOf]; omega)
      have ho7 : ∀ i, i < S2.n → S7.obj i = S2.obj i := fun j hj => by
        rw [hb7.obj j (by omega) (by simp [blkOf]; omega), hb6.obj j (by omega) (by simp [blkOf]; omega)]
        exact ho5 j hj
      obtain ⟨vw, cw0, -, hsw, -⟩ := hw7.cell0
      obtain ⟨bw, cw, rfl⟩ := hsw.len byteE
      have cw1 := hw7.cell1
      simp (disch := omega) only [go_sem, ↓reduceIte, Nat.reduceEqDiff, Nat.reduceAdd, Nat.reduceMul, Nat.reduceSub, Nat.reduceLT, Nat.reduceLeDiff, Nat.reduceBEq, Nat.reduceLeDiff, reduceCtorEq, Int.reduceLT, Int.reduceEq, Int.reduceLE, Int.reduceAdd, Int.reduceSub, Int.reduceToNat, Int.reduceNeg, Int.toNat_natCast, beq_self_eq_true, wrap64, undef, Nat.zero_add, Nat.add_zero, Int.zero_add, Int.add_zero, Int.sub_zero, St.loadN_other, St.cell_other, g0, g6, g7, g8, g9, g10, eqV_dot, cw0]
      refine wJ_of (F.osierref04_Same_J hsa (hob.sl dotE) (by omega)) ?_; rintro _ _ ⟨rfl, rfl⟩
      simp (disch := omega) only [go_sem, ↓reduceIte, Nat.reduceEqDiff, Nat.reduceAdd, Nat.reduceMul, Nat.reduceSub, Nat.reduceLT, Nat.reduceLeDiff, Nat.reduceBEq, Nat.reduceLeDiff, reduceCtorEq, Int.reduceLT, Int.reduceEq, Int.reduceLE, Int.reduceAdd, Int.reduceSub, Int.reduceToNat, Int.reduceNeg, Int.toNat_natCast, beq_self_eq_true, wrap64, undef, Nat.zero_add, Nat.add_zero, Int.zero_add, Int.add_zero, Int.sub_zero, St.loadN_other, St.cell_other, g0, g6, g7, g8, g9, g10, cw0]
      refine wJ_of (F.num_Reader_Left_J hr7) ?_; rintro _ _ ⟨rfl, rfl⟩
      simp (disch := omega) only [go_sem, ↓reduceIte, Nat.reduceEqDiff, Nat.reduceAdd, Nat.reduceMul, Nat.reduceSub, Nat.reduceLT, Nat.reduceLeDiff, Nat.reduceBEq, Nat.reduceLeDiff, reduceCtorEq, Int.reduceLT, Int.reduceEq, Int.reduceLE, Int.reduceAdd, Int.reduceSub, Int.reduceToNat, Int.reduceNeg, Int.toNat_natCast, beq_self_eq_true, wrap64, undef, Nat.zero_add, Nat.add_zero, Int.zero_add, Int.add_zero, Int.sub_zero, St.loadN_other, St.cell_other, g0, g6, g7, g8, g9, g10, cw0, cw1]
      refine wJ_of (F.num_Reader_Err_J hr7) ?_; rintro _ _ ⟨rfl, rfl⟩
      simp (disch := omega) only [go_sem, ↓reduceIte, Nat.reduceEqDiff, Nat.reduceAdd, Nat.reduceMul, Nat.reduceSub, Nat.reduceLT, Nat.reduceLeDiff, Nat.reduceBEq, Nat.reduceLeDiff, reduceCtorEq, Int.reduceLT, Int.reduceEq, Int.reduceLE, Int.reduceAdd, Int.reduceSub, Int.reduceToNat, Int.reduceNeg, Int.toNat_natCast, beq_self_eq_true, wrap64, undef, Nat.zero_add, Nat.add_zero, Int.zero_add, Int.add_zero, Int.sub_zero, St.loadN_other, St.cell_other, g0, g6, g7, g8, g9, g10, cw1]
      exact ⟨4 - (i + 1), by omega, i + 1, _, _, rfl, by omega, rfl, by omega, ho7, hr7, hw7, k1, k2, by omega⟩
    · simp (disch := omega) only [go_sem, ↓reduceIte, Nat.reduceEqDiff, Nat.reduceAdd, Nat.reduceMul, Nat.reduceSub, Nat.reduceLT, Nat.reduceLeDiff, Nat.reduceBEq, Nat.reduceLeDiff, reduceCtorEq, Int.reduceLT, Int.reduceEq, Int.reduceLE, Int.reduceAdd, Int.reduceSub, Int.reduceToNat, Int.reduceNeg, Int.toNat_natCast, beq_self_eq_true, wrap64, undef, Nat.zero_add, Nat.add_zero, Int.zero_add, Int.add_zero, Int.sub_zero, St.loadN_other, St.cell_other, g0, g6, g7]
      exact ⟨hn5, ho5⟩
  rintro fr S5 ⟨g0, g6, g7, hn5, ho5⟩
  have e25 : S2.Ext S5 := ⟨hn5, ho5⟩
  have hsx := ((hox.sl byteE).ext byteE he2).ext byteE e25
  obtain ⟨u, hu, hus⟩ := hsx.from byteE (l := bs.length) (q := .i64) (i := bs.length) rfl (by simp)
  replace hu : slV 1 _ _ _ _ = _ := hu
  rw [List.drop_left] at hus
  simp (disch := omega) only [go_sem, ↓reduceIte, Nat.reduceEqDiff, Nat.reduceAdd, Nat.reduceMul, Nat.reduceSub, Nat.reduceLT, Nat.reduceLeDiff, Nat.reduceBEq, Nat.reduceLeDiff, reduceCtorEq, Int.reduceLT, Int.reduceEq, Int.reduceLE, Int.reduceAdd, Int.reduceSub, Int.reduceToNat, Int.reduceNeg, Int.toNat_natCast, beq_self_eq_true, wrap64, undef, Nat.zero_add, Nat.add_zero, Int.zero_add, Int.add_zero, Int.sub_zero, St.loadN_other, St.cell_other, g0, g6, g7, hu]
  refine wJ_of (F.num_Read_J hus) ?_; rintro _ S6 ⟨q2, rfl, hq6, hr6, he6⟩
  have henc := rdV_enc hV (by omega) []
  simp only [List.append_nil] at henc
  have hib : isB (encV V) := isB_append (isB_enc (by omega)) (isB_encDs hV.2)
  simp (disch := omega) only [go_sem, ↓reduceIte, Nat.reduceEqDiff, Nat.reduceAdd, Nat.reduceMul, Nat.reduceSub, Nat.reduceLT, Nat.reduceLeDiff, Nat.reduceBEq, Nat.reduceLeDiff, reduceCtorEq, Int.reduceLT, Int.reduceEq, Int.reduceLE, Int.reduceAdd, Int.reduceSub, Int.reduceToNat, Int.reduceNeg, Int.toNat_natCast, beq_self_eq_true, wrap64, undef, Nat.zero_add, Nat.add_zero, Int.zero_add, Int.add_zero, Int.sub_zero, St.loadN_other, St.cell_other, g0, g6, g7]
  refine wJ_of (F.vector_Take_J hr6 he6.n hib (by simp) (by omega)) ?_; rintro v7 S7 ⟨ho7, hr7, hb7⟩
  rw [henc] at hr7 ho7
  have e06 := (e2.trans e25).trans he6
  have hsv7 := hsv.congr dotE (S' := S7) (Nat.le_trans e06.n hb7.n) fun b off l c hv hb => by
    have n1 := he1.n
    have n2 := he2.n
    rw [hb7.obj b (Nat.lt_of_lt_of_le hb e06.n) (by simp [blkOf]; omega)]
    exact e06.obj b hb
  obtain ⟨bv, cv, hvv⟩ := hsv.len dotE
  simp (disch := omega) only [go_sem, ↓reduceIte, Nat.reduceEqDiff, Nat.reduceAdd, Nat.reduceMul, Nat.reduceSub, Nat.reduceLT, Nat.reduceLeDiff, Nat.reduceBEq, Nat.reduceLeDiff, reduceCtorEq, Int.reduceLT, Int.reduceEq, Int.reduceLE, Int.reduceAdd, Int.reduceSub, Int.reduceToNat, Int.reduceNeg, Int.toNat_natCast, beq_self_eq_true, wrap64, undef, Nat.zero_add, Nat.add_zero, Int.zero_add, Int.add_zero, Int.sub_zero, St.loadN_other, St.cell_other, g0, g6, g7]
  refine wJ_of (F.osierref04_Same_J (ho7.sl dotE) hsv7 (by show V.length < _; omega)) ?_; rintro _ _ ⟨rfl, rfl⟩
  simp (disch := omega) only [go_sem, ↓reduceIte, Nat.reduceEqDiff, Nat.reduceAdd, Nat.reduceMul, Nat.reduceSub, Nat.reduceLT, Nat.reduceLeDiff, Nat.reduceBEq, Nat.reduceLeDiff, reduceCtorEq, Int.reduceLT, Int.reduceEq, Int.reduceLE, Int.reduceAdd, Int.reduceSub, Int.reduceToNat, Int.reduceNeg, Int.toNat_natCast, beq_self_eq_true, wrap64, undef, Nat.zero_add, Nat.add_zero, Int.zero_add, Int.add_zero, Int.sub_zero, St.loadN_other, St.cell_other, g0, g6, g7]
  refine wJ_of (F.num_Reader_End_J hr7) ?_; rintro _ S8 ⟨rfl, -⟩
  simp (disch := omega) only [go_sem, ↓reduceIte, Nat.reduceEqDiff, Nat.reduceAdd, Nat.reduceMul, Nat.reduceSub, Nat.reduceLT, Nat.reduceLeDiff, Nat.reduceBEq, Nat.reduceLeDiff, reduceCtorEq, Int.reduceLT, Int.reduceEq, Int.reduceLE, Int.reduceAdd, Int.reduceSub, Int.reduceToNat, Int.reduceNeg, Int.toNat_natCast, beq_self_eq_true, wrap64, undef, Nat.zero_add, Nat.add_zero, Int.zero_add, Int.add_zero, Int.sub_zero, St.loadN_other, St.cell_other]
end Go.Osj
