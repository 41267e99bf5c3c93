/- The laws OpsBytes and OpsOne: plain facts. -/
import Derived.Test.YtfadbihdmohdiaaDoorKM
set_option linter.unusedVariables false
set_option linter.unusedSimpArgs false
set_option maxHeartbeats 1000000
namespace Go.Osj
theorem isB_encI {a : Int} (h : inI a) : isB (encI a) := isB_enc (zzN_lt h)
theorem isB_encDd {d : Dot} (h : inI d.1 ∧ inI d.2) : isB (encD d) := isB_append (isB_encI h.1) (isB_encI h.2)
theorem isB_encO {o : OpA} (hm : mayO o) (hL : o.deps.length < 100000) : isB (encO o) := by
  obtain ⟨i1, i2, i3, i4, i5, i6, i7, i8, i9, i10⟩ := mayO_in hm
  unfold encO encX
  refine isB_append (isB_encDd i1) (isB_append (isB_encI i2) (isB_append (isB_append (isB_enc (by omega)) (isB_encDs hm.1.2.2.2.1.2)) (isB_append (isB_encI i3) (isB_append (isB_encDd i4) ?_))))
  split
  · exact isB_append (isB_encDd i8) (isB_append (isB_enc (by omega)) (isB_strL _))
  split
  · exact isB_encDd i5
  · exact isB_append (isB_encDd i5) (isB_append (isB_encI i6) (isB_encI i7))
theorem F.osierlaw07_OpsBytes.J {S : St} {l dv : Value} {bs : List Int} {o : OpA} (hl : SlT byteE S l bs) (hb : isB bs) (hd : SlT dotE S dv o.deps) (hL : o.deps.length < 9223372036854775808) : J PR F.osierlaw07_OpsBytes [l, opV o dv] S fun v _ => v = .bool true := by
  obtain ⟨base, cap, rfl⟩ := hl.len byteE
  refine J_by PR.mixed F.osierlaw07_OpsBytes.ok (by simp) ?_
  simp (disch := omega) only [go_sem, ↓reduceIte, Nat.reduceEqDiff, Nat.reduceAdd, Nat.reduceMul, Nat.reduceSub, Nat.reduceLT, Nat.reduceLeDiff, Nat.reduceBEq, reduceCtorEq, Int.reduceLT, Int.reduceEq, Int.reduceLE, Int.reduceAdd, Int.reduceSub, Int.reduceToNat, Int.reduceNeg]
  refine wE_boxO (o := o) (dv := dv) rfl fun w S1 he1 hwb hw => ?_
  have hc := hwb.c
  have hd1 := hd.ext dotE he1
  have hl1 := hl.ext byteE he1
  obtain ⟨bd, cd, hdv⟩ := hd.len dotE
  subst hdv
  simp (disch := omega) only [go_sem, ↓reduceIte, Nat.reduceEqDiff, Nat.reduceAdd, Nat.reduceMul, Nat.reduceSub, Nat.reduceLT, Nat.reduceLeDiff, Nat.reduceBEq, reduceCtorEq, Int.reduceLT, Int.reduceEq, Int.reduceLE, Int.reduceAdd, Int.reduceSub, Int.reduceToNat, Int.reduceNeg, hc]
  refine wJ_of F.osierlaw07_awake_J ?_; rintro _ _ ⟨rfl, rfl⟩
  simp (disch := omega) only [go_sem, ↓reduceIte, Nat.reduceEqDiff, Nat.reduceAdd, Nat.reduceMul, Nat.reduceSub, Nat.reduceLT, Nat.reduceLeDiff, Nat.reduceBEq, reduceCtorEq, Int.reduceLT, Int.reduceEq, Int.reduceLE, Int.reduceAdd, Int.reduceSub, Int.reduceToNat, Int.reduceNeg, hc]
  refine wJ_of (F.osierref07_Check_J hd1 hL) ?_; rintro _ _ ⟨rfl, rfl⟩
  by_cases n1 : 1000 < bs.length
  · have i1 : (1000 : Int) < (bs.length : Int) := by omega
    simp (disch := omega) only [go_sem, ↓reduceIte, Nat.reduceEqDiff, Nat.reduceAdd, Nat.reduceMul, Nat.reduceSub, Nat.reduceLT, Nat.reduceLeDiff, Nat.reduceBEq, reduceCtorEq, Int.reduceLT, Int.reduceEq, Int.reduceLE, Int.reduceAdd, Int.reduceSub, Int.reduceToNat, Int.reduceNeg, hc, i1]
  have i1 : ¬ ((1000 : Int) < (bs.length : Int)) := by omega
  by_cases n2 : 200 < o.deps.length
  · have i2 : (200 : Int) < (o.deps.length : Int) := by omega
    simp (disch := omega) only [go_sem, ↓reduceIte, Nat.reduceEqDiff, Nat.reduceAdd, Nat.reduceMul, Nat.reduceSub, Nat.reduceLT, Nat.reduceLeDiff, Nat.reduceBEq, reduceCtorEq, Int.reduceLT, Int.reduceEq, Int.reduceLE, Int.reduceAdd, Int.reduceSub, Int.reduceToNat, Int.reduceNeg, hc, i1, i2]
  have i2 : ¬ ((200 : Int) < (o.deps.length : Int)) := by omega
  by_cases hm : mayO o
  rotate_left
  · simp (disch := omega) only [go_sem, ↓reduceIte, Nat.reduceEqDiff, Nat.reduceAdd, Nat.reduceMul, Nat.reduceSub, Nat.reduceLT, Nat.reduceLeDiff, Nat.reduceBEq, reduceCtorEq, Int.reduceLT, Int.reduceEq, Int.reduceLE, Int.reduceAdd, Int.reduceSub, Int.reduceToNat, Int.reduceNeg, hc, i1, i2, hm]
  simp (disch := omega) only [go_sem, ↓reduceIte, Nat.reduceEqDiff, Nat.reduceAdd, Nat.reduceMul, Nat.reduceSub, Nat.reduceLT, Nat.reduceLeDiff, Nat.reduceBEq, reduceCtorEq, Int.reduceLT, Int.reduceEq, Int.reduceLE, Int.reduceAdd, Int.reduceSub, Int.reduceToNat, Int.reduceNeg, hc, i1, i2, hm]
  refine wJ_of (F.ops_Put_J hl1 hd1 hm (by omega) (by omega)) ?_; rintro vx S2 ⟨hox, he2⟩
  have hwb2 := hwb.ext he2
  have hc2 := hwb2.c
  have s1 := (hox.sl byteE).text
  have s3 := (hl1.ext byteE he2).text
  simp (disch := omega) only [go_sem, ↓reduceIte, Nat.reduceEqDiff, Nat.reduceAdd, Nat.reduceMul, Nat.reduceSub, Nat.reduceLT, Nat.reduceLeDiff, Nat.reduceBEq, reduceCtorEq, Int.reduceLT, Int.reduceEq, Int.reduceLE, Int.reduceAdd, Int.reduceSub, Int.reduceToNat, Int.reduceNeg, hc2, s1, s3]
  refine wJ_of (F.osierref07_Put_J (hd1.ext dotE he2) hm (by omega)) ?_; rintro vy S3 ⟨hoy, he3⟩
  have e23 := he2.trans he3
  have t1 := ((hox.sl byteE).ext byteE he3).text
  have t2 := (hoy.sl byteE).text
  have t3 := (hl1.ext byteE e23).text
  have el := encO_len hm
  have hsz : (bytesOf bs).size + (bytesOf (encO o)).size ≤ 9223372036854775807 := by rw [bytesOf_size, bytesOf_size]; omega
  have happ : bytesOf (bs ++ encO o) = bytesOf bs ++ bytesOf (encO o) := bytesOf_append _ _
  have hbe : (bytesOf bs ++ bytesOf (encO o) == bytesOf bs ++ bytesOf (encO o)) = true := by rw [ba_beq]; simp
  have hwb3 := hwb2.ext he3
  have hc3 := hwb3.c
  simp (disch := omega) only [go_sem, ↓reduceIte, Nat.reduceEqDiff, Nat.reduceAdd, Nat.reduceMul, Nat.reduceSub, Nat.reduceLT, Nat.reduceLeDiff, Nat.reduceBEq, reduceCtorEq, Int.reduceLT, Int.reduceEq, Int.reduceLE, Int.reduceAdd, Int.reduceSub, Int.reduceToNat, Int.reduceNeg, t1, t2, t3, binS, hsz, happ, hbe, hc3]
  have hsx := (hox.sl byteE).ext byteE he3
  obtain ⟨u, hu, hus⟩ := hsx.from byteE (l := bs.length) (q := .i64) (i := bs.length) rfl (by simp)
  replace hu : slV 1 _ _ _ _ = _ := hu
  rw [List.drop_left] at hus
  simp (disch := omega) only [go_sem, ↓reduceIte, Nat.reduceEqDiff, Nat.reduceAdd, Nat.reduceMul, Nat.reduceSub, Nat.reduceLT, Nat.reduceLeDiff, Nat.reduceBEq, reduceCtorEq, Int.reduceLT, Int.reduceEq, Int.reduceLE, Int.reduceAdd, Int.reduceSub, Int.reduceToNat, Int.reduceNeg, hu]
  refine wJ_of (F.num_Read_J hus) ?_; rintro _ S4 ⟨q, rfl, hq, hr, he4⟩
  have hO := rdO_enc hm (by omega) []
  rw [List.append_nil] at hO
  have hib : isB (encO o) := isB_encO hm (by omega)
  simp (disch := omega) only [go_sem, ↓reduceIte, Nat.reduceEqDiff, Nat.reduceAdd, Nat.reduceMul, Nat.reduceSub, Nat.reduceLT, Nat.reduceLeDiff, Nat.reduceBEq, reduceCtorEq, Int.reduceLT, Int.reduceEq, Int.reduceLE, Int.reduceAdd, Int.reduceSub, Int.reduceToNat, Int.reduceNeg]
  refine wJ_of (F.ops_Take_J (p := (encO o, 0)) (L := (encO o).length) hr he4.n ⟨hib, by simp, Nat.le_refl _⟩ (by omega)) ?_; rintro _ S5 ⟨⟨d, rfl, hod⟩, hr5, hb5⟩
  rw [hO] at hod hr5 ⊢
  obtain ⟨b2, c2, hdv⟩ := (hod.sl dotE).len dotE
  subst hdv
  have hqn : S3.n ≤ q := hq
  have hwb5 := (hwb3.ext he4).ne hb5 (by have := hwb3.1; simp [blkOf]; omega)
  have hd5 : SlT dotE S5 (.slice bd o.deps.length cd) o.deps := (hd1.ext dotE e23).congr dotE (Nat.le_trans he4.n hb5.n) fun b off l c hv hb => by
    rw [hb5.obj b (Nat.lt_of_lt_of_le hb he4.n) (by simp [blkOf]; omega)]
    exact he4.obj b hb
  simp (disch := omega) only [go_sem, ↓reduceIte, Nat.reduceEqDiff, Nat.reduceAdd, Nat.reduceMul, Nat.reduceSub, Nat.reduceLT, Nat.reduceLeDiff, Nat.reduceBEq, reduceCtorEq, Int.reduceLT, Int.reduceEq, Int.reduceLE, Int.reduceAdd, Int.reduceSub, Int.reduceToNat, Int.reduceNeg]
  refine walloc_O fun y S6 he6 hy6 hyn => ?_
  simp (disch := omega) only [go_sem, ↓reduceIte, Nat.reduceEqDiff, Nat.reduceAdd, Nat.reduceMul, Nat.reduceSub, Nat.reduceLT, Nat.reduceLeDiff, Nat.reduceBEq, reduceCtorEq, Int.reduceLT, Int.reduceEq, Int.reduceLE, Int.reduceAdd, Int.reduceSub, Int.reduceToNat, Int.reduceNeg]
  refine wst_op o _ hy6 rfl rfl (by decide) (wrote_full _ _ rfl) fun S7 hy7 hb7 => ?_
  have hwb7 := (hwb5.ext he6).ne hb7 (by have := hwb5.1; simp [blkOf]; omega)
  have cw := hwb7.c
  have cy := hy7.c
  have hd7 : SlT dotE S7 (.slice bd o.deps.length cd) o.deps := hd5.congr dotE (Nat.le_trans he6.n hb7.n) fun b off l c hv hb => by
    rw [hb7.obj b (Nat.lt_of_lt_of_le hb he6.n) (by simp [blkOf]; omega)]
    exact he6.obj b hb
  have ho7 := (hod.ext dotE he6).but dotE hb7 fun j hj => by have := (hod.blk dotE j hj).2; simp [blkOf]; omega
  have hr7 : RdT S7 q S3.n [] 0 := (hr5.but he6).keep hb7.n (hb7.obj q (by have := hr5.lt; have := he6.n; omega) (by have := hr5.lt; simp [blkOf]; omega)) fun i hi hi2 => hb7.obj i hi2 (by have := he4.n; have := hb5.n; simp [blkOf]; omega)
  simp (disch := omega) only [go_sem, ↓reduceIte, Nat.reduceEqDiff, Nat.reduceAdd, Nat.reduceMul, Nat.reduceSub, Nat.reduceLT, Nat.reduceLeDiff, Nat.reduceBEq, reduceCtorEq, Int.reduceLT, Int.reduceEq, Int.reduceLE, Int.reduceAdd, Int.reduceSub, Int.reduceToNat, Int.reduceNeg, cw, cy]
  refine wJ_of (F.osierref07_Same_J (ho7.sl dotE) hd7 (by omega)) ?_; rintro _ _ ⟨⟨t, rfl, ht⟩, rfl⟩
  have ht' : t = true := ht.2 rfl
  subst ht'
  simp (disch := omega) only [go_sem, ↓reduceIte, Nat.reduceEqDiff, Nat.reduceAdd, Nat.reduceMul, Nat.reduceSub, Nat.reduceLT, Nat.reduceLeDiff, Nat.reduceBEq, reduceCtorEq, Int.reduceLT, Int.reduceEq, Int.reduceLE, Int.reduceAdd, Int.reduceSub, Int.reduceToNat, Int.reduceNeg]
  refine wJ_of (F.num_Reader_End_J hr7) ?_; rintro _ S8 ⟨rfl, -⟩
  simp (disch := omega) only [go_sem, ↓reduceIte, Nat.reduceEqDiff, Nat.reduceAdd, Nat.reduceMul, Nat.reduceSub, Nat.reduceLT, Nat.reduceLeDiff, Nat.reduceBEq, reduceCtorEq, Int.reduceLT, Int.reduceEq, Int.reduceLE, Int.reduceAdd, Int.reduceSub, Int.reduceToNat, Int.reduceNeg]
end Go.Osj
