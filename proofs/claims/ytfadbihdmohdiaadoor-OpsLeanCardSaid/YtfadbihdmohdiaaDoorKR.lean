/- The laws OpsOne and OpsLean. -/
import Derived.Test.YtfadbihdmohdiaaDoorKQ
set_option linter.unusedVariables false
set_option linter.unusedSimpArgs false
set_option maxHeartbeats 1000000
namespace Go.Osj
theorem F.osierlaw07_OpsOne.J {S : St} {l : Value} {bs : List Int} (hl : SlT byteE S l bs) (hb : isB bs) : J PR F.osierlaw07_OpsOne [l] S fun v _ => v = .bool true := by
  obtain ⟨base, cap, rfl⟩ := hl.len byteE
  refine J_by PR.mixed F.osierlaw07_OpsOne.ok (by simp) ?_
  simp (disch := omega) only [go_sem, ↓reduceIte, Nat.reduceEqDiff, Nat.reduceAdd, Nat.reduceMul, Nat.reduceSub, Nat.reduceLT, Nat.reduceLeDiff, Nat.reduceBEq, reduceCtorEq, Int.reduceLT, Int.reduceEq, Int.reduceLE, Int.reduceAdd, Int.reduceSub, Int.reduceToNat, Int.reduceNeg]
  refine wJ_of F.osierlaw07_awake_J ?_; rintro _ _ ⟨rfl, rfl⟩
  simp (disch := omega) only [go_sem, ↓reduceIte, Nat.reduceEqDiff, Nat.reduceAdd, Nat.reduceMul, Nat.reduceSub, Nat.reduceLT, Nat.reduceLeDiff, Nat.reduceBEq, reduceCtorEq, Int.reduceLT, Int.reduceEq, Int.reduceLE, Int.reduceAdd, Int.reduceSub, Int.reduceToNat, Int.reduceNeg]
  refine wcond_dec (fun h => ?_) (fun h => ?_)
  · simp (disch := omega) only [go_sem, ↓reduceIte, Nat.reduceEqDiff, Nat.reduceAdd, Nat.reduceMul, Nat.reduceSub, Nat.reduceLT, Nat.reduceLeDiff, Nat.reduceBEq, reduceCtorEq, Int.reduceLT, Int.reduceEq, Int.reduceLE, Int.reduceAdd, Int.reduceSub, Int.reduceToNat, Int.reduceNeg]
  have hln : bs.length ≤ 2000 := by omega
  simp (disch := omega) only [go_sem, ↓reduceIte, Nat.reduceEqDiff, Nat.reduceAdd, Nat.reduceMul, Nat.reduceSub, Nat.reduceLT, Nat.reduceLeDiff, Nat.reduceBEq, reduceCtorEq, Int.reduceLT, Int.reduceEq, Int.reduceLE, Int.reduceAdd, Int.reduceSub, Int.reduceToNat, Int.reduceNeg]
  refine wJ_of (F.num_Read_J hl) ?_; rintro _ S3 ⟨q, rfl, hq, hr, he3⟩
  simp (disch := omega) only [go_sem, ↓reduceIte, Nat.reduceEqDiff, Nat.reduceAdd, Nat.reduceMul, Nat.reduceSub, Nat.reduceLT, Nat.reduceLeDiff, Nat.reduceBEq, reduceCtorEq, Int.reduceLT, Int.reduceEq, Int.reduceLE, Int.reduceAdd, Int.reduceSub, Int.reduceToNat, Int.reduceNeg]
  have G0 : goodR 2000 (bs, 0) := ⟨hb, by simp, hln⟩
  refine wJ_of (F.ops_Take_J (p := (bs, 0)) hr he3.n G0 (by decide)) ?_; rintro _ S4 ⟨⟨d, rfl, hod⟩, hr4, hb4⟩
  have hdl := rdO_deps G0
  have G1 := G0.o
  generalize hx : rdO (bs, 0) = x at *
  obtain ⟨o, r, e⟩ := x
  obtain ⟨b2, c2, hdv⟩ := (hod.sl dotE).len dotE
  subst hdv
  simp (disch := omega) only [go_sem, ↓reduceIte, Nat.reduceEqDiff, Nat.reduceAdd, Nat.reduceMul, Nat.reduceSub, Nat.reduceLT, Nat.reduceLeDiff, Nat.reduceBEq, reduceCtorEq, Int.reduceLT, Int.reduceEq, Int.reduceLE, Int.reduceAdd, Int.reduceSub, Int.reduceToNat, Int.reduceNeg]
  refine walloc_O fun y S5 he5 hy5 hyn => ?_
  simp (disch := omega) only [go_sem, ↓reduceIte, Nat.reduceEqDiff, Nat.reduceAdd, Nat.reduceMul, Nat.reduceSub, Nat.reduceLT, Nat.reduceLeDiff, Nat.reduceBEq, reduceCtorEq, Int.reduceLT, Int.reduceEq, Int.reduceLE, Int.reduceAdd, Int.reduceSub, Int.reduceToNat, Int.reduceNeg]
  refine wst_op o _ hy5 rfl rfl (by decide) (wrote_full _ _ rfl) fun S6 hy6 hb6 => ?_
  have ho6 := (hod.ext dotE he5).but dotE hb6 fun j hj => by have := (hod.blk dotE j hj).2; simp [blkOf]; omega
  have hr6 : RdT S6 q S.n r e := (hr4.but he5).keep hb6.n (hb6.obj q (by have := hr4.lt; have := he5.n; omega) (by have := hr4.lt; simp [blkOf]; omega)) fun i hi hi2 => hb6.obj i hi2 (by have := he3.n; have := hb4.n; simp [blkOf]; omega)
  have hqS : S.n ≤ q := hq
  have g4 : S.Ext S4 := he3.but hb4 fun j hj => by simp [blkOf] at hj; omega
  have hyS : S.n ≤ y := Nat.le_trans g4.n hyn
  have g6 : S.Ext S6 := (g4.trans he5).but hb6 fun j hj => by simp [blkOf] at hj; omega
  simp (disch := omega) only [go_sem, ↓reduceIte, Nat.reduceEqDiff, Nat.reduceAdd, Nat.reduceMul, Nat.reduceSub, Nat.reduceLT, Nat.reduceLeDiff, Nat.reduceBEq, reduceCtorEq, Int.reduceLT, Int.reduceEq, Int.reduceLE, Int.reduceAdd, Int.reduceSub, Int.reduceToNat, Int.reduceNeg]
  refine wJ_of (F.num_Reader_End_J hr6) ?_; rintro _ S7 ⟨rfl, hb7⟩
  have g7 : S.Ext S7 := g6.but hb7 fun j hj => by simp [blkOf] at hj; omega
  have hqy : q ≠ y := by have := hr4.lt; omega
  have hy7 := hy6.ne hb7 (by simp [blkOf]; exact hqy)
  have c7 := hy7.c
  have ho7 := ho6.but dotE hb7 fun j hj => by
    have h1 := (hod.blk dotE j hj).1
    have h2 := he3.n
    have h3 := hr.lt
    simp [blkOf]
    omega
  by_cases hend : r = [] ∧ e = 0
  rotate_left
  · have : ¬ ((if r = [] then e else if e = 0 then 11 else e) = 0) := by
      split
      · rename_i h1; exact fun h2 => hend ⟨h1, h2⟩
      · split
        · decide
        · assumption
    simp (disch := omega) only [go_sem, ↓reduceIte, Nat.reduceEqDiff, Nat.reduceAdd, Nat.reduceMul, Nat.reduceSub, Nat.reduceLT, Nat.reduceLeDiff, Nat.reduceBEq, reduceCtorEq, Int.reduceLT, Int.reduceEq, Int.reduceLE, Int.reduceAdd, Int.reduceSub, Int.reduceToNat, Int.reduceNeg, this]
  obtain ⟨rfl, rfl⟩ := hend
  obtain ⟨hm, hbs⟩ := rdO_dec hb hx
  rw [List.append_nil] at hbs
  subst hbs
  have hdl' : o.deps.length ≤ 2000 := hdl
  simp (disch := omega) only [go_sem, ↓reduceIte, Nat.reduceEqDiff, Nat.reduceAdd, Nat.reduceMul, Nat.reduceSub, Nat.reduceLT, Nat.reduceLeDiff, Nat.reduceBEq, reduceCtorEq, Int.reduceLT, Int.reduceEq, Int.reduceLE, Int.reduceAdd, Int.reduceSub, Int.reduceToNat, Int.reduceNeg, c7]
  refine wJ_of (F.ops_Check_J (ho7.sl dotE) (by omega)) ?_; rintro _ _ ⟨rfl, rfl⟩
  have s0 := (hl.ext byteE g7).text
  simp (disch := omega) only [go_sem, ↓reduceIte, Nat.reduceEqDiff, Nat.reduceAdd, Nat.reduceMul, Nat.reduceSub, Nat.reduceLT, Nat.reduceLeDiff, Nat.reduceBEq, reduceCtorEq, Int.reduceLT, Int.reduceEq, Int.reduceLE, Int.reduceAdd, Int.reduceSub, Int.reduceToNat, Int.reduceNeg, c7, hm, s0]
  refine wJ_of (F.ops_Put_J (o := o) (bs := []) (nil_sl S7) (ho7.sl dotE) hm (by omega) (by simp)) ?_; rintro vx S8 ⟨hox, he8⟩
  have s1 := (hox.sl byteE).text
  have s2 := (hl.ext byteE (g7.trans he8)).text
  rw [List.nil_append] at s1
  have hbe : (bytesOf (encO o) == bytesOf (encO o)) = true := by rw [ba_beq]; simp
  simp (disch := omega) only [go_sem, ↓reduceIte, Nat.reduceEqDiff, Nat.reduceAdd, Nat.reduceMul, Nat.reduceSub, Nat.reduceLT, Nat.reduceLeDiff, Nat.reduceBEq, reduceCtorEq, Int.reduceLT, Int.reduceEq, Int.reduceLE, Int.reduceAdd, Int.reduceSub, Int.reduceToNat, Int.reduceNeg, s1, s2, hbe]
theorem F.osierlaw07_OpsLean.J {S : St} {o : OpA} {dv : Value} (hd : SlT dotE S dv o.deps) : J PR F.osierlaw07_OpsLean [opV o dv] S fun v _ => v = .bool true := by
  refine J_by PR.mixed F.osierlaw07_OpsLean.ok (by simp) ?_
  simp (disch := omega) only [go_sem, ↓reduceIte, Nat.reduceEqDiff, Nat.reduceAdd, Nat.reduceMul, Nat.reduceSub, Nat.reduceLT, Nat.reduceLeDiff, Nat.reduceBEq, reduceCtorEq, Int.reduceLT, Int.reduceEq, Int.reduceLE, Int.reduceAdd, Int.reduceSub, Int.reduceToNat, Int.reduceNeg]
  refine wE_boxO (o := o) (dv := dv) rfl fun w S1 he hwb hw => ?_
  have hc := hwb.c
  obtain ⟨bd, cd, hdv⟩ := hd.len dotE
  subst hdv
  simp (disch := omega) only [go_sem, ↓reduceIte, Nat.reduceEqDiff, Nat.reduceAdd, Nat.reduceMul, Nat.reduceSub, Nat.reduceLT, Nat.reduceLeDiff, Nat.reduceBEq, reduceCtorEq, Int.reduceLT, Int.reduceEq, Int.reduceLE, Int.reduceAdd, Int.reduceSub, Int.reduceToNat, Int.reduceNeg, hc]
  refine wJ_of F.osierlaw07_awake_J ?_; rintro _ _ ⟨rfl, rfl⟩
  have hd1 := hd.ext dotE he
  by_cases n2 : 200 < o.deps.length
  · have i2 : (200 : Int) < (o.deps.length : Int) := by omega
    simp (disch := omega) only [go_sem, ↓reduceIte, Nat.reduceEqDiff, Nat.reduceAdd, Nat.reduceMul, Nat.reduceSub, Nat.reduceLT, Nat.reduceLeDiff, Nat.reduceBEq, reduceCtorEq, Int.reduceLT, Int.reduceEq, Int.reduceLE, Int.reduceAdd, Int.reduceSub, Int.reduceToNat, Int.reduceNeg, hc, i2]
  have i2 : ¬ ((200 : Int) < (o.deps.length : Int)) := by omega
  simp (disch := omega) only [go_sem, ↓reduceIte, Nat.reduceEqDiff, Nat.reduceAdd, Nat.reduceMul, Nat.reduceSub, Nat.reduceLT, Nat.reduceLeDiff, Nat.reduceBEq, reduceCtorEq, Int.reduceLT, Int.reduceEq, Int.reduceLE, Int.reduceAdd, Int.reduceSub, Int.reduceToNat, Int.reduceNeg, hc, i2]
  refine wJ_of (F.ops_Check_J hd1 (by omega)) ?_; rintro _ _ ⟨rfl, rfl⟩
  by_cases hm : mayO o
  rotate_left
  · simp (disch := omega) only [go_sem, ↓reduceIte, Nat.reduceEqDiff, Nat.reduceAdd, Nat.reduceMul, Nat.reduceSub, Nat.reduceLT, Nat.reduceLeDiff, Nat.reduceBEq, reduceCtorEq, Int.reduceLT, Int.reduceEq, Int.reduceLE, Int.reduceAdd, Int.reduceSub, Int.reduceToNat, Int.reduceNeg, hc, hm]
  simp (disch := omega) only [go_sem, ↓reduceIte, Nat.reduceEqDiff, Nat.reduceAdd, Nat.reduceMul, Nat.reduceSub, Nat.reduceLT, Nat.reduceLeDiff, Nat.reduceBEq, reduceCtorEq, Int.reduceLT, Int.reduceEq, Int.reduceLE, Int.reduceAdd, Int.reduceSub, Int.reduceToNat, Int.reduceNeg, hc, hm]
  refine walloc_O fun p S2 he2 hp2 hpn => ?_
  have hwb2 := hwb.ext he2
  have hc2 := hwb2.c
  simp (disch := omega) only [go_sem, ↓reduceIte, Nat.reduceEqDiff, Nat.reduceAdd, Nat.reduceMul, Nat.reduceSub, Nat.reduceLT, Nat.reduceLeDiff, Nat.reduceBEq, reduceCtorEq, Int.reduceLT, Int.reduceEq, Int.reduceLE, Int.reduceAdd, Int.reduceSub, Int.reduceToNat, Int.reduceNeg, hc2]
  refine wst_op o _ hp2 rfl rfl (by decide) (wrote_full _ _ rfl) fun S3 hp3 hb3 => ?_
  simp (disch := omega) only [go_sem, ↓reduceIte, Nat.reduceEqDiff, Nat.reduceAdd, Nat.reduceMul, Nat.reduceSub, Nat.reduceLT, Nat.reduceLeDiff, Nat.reduceBEq, reduceCtorEq, Int.reduceLT, Int.reduceEq, Int.reduceLE, Int.reduceAdd, Int.reduceSub, Int.reduceToNat, Int.reduceNeg]
  refine wst_op { o with deps := [] } nilS hp3 rfl rfl (by decide) rfl fun S4 hp4 hb4 => ?_
  have hwp : p ≠ w := by have := hwb.1; omega
  have hwb4 := (hwb2.ne hb3 (by simp [blkOf]; exact hwp)).ne hb4 (by simp [blkOf]; exact hwp)
  have hc4 := hwb4.c
  have hL : mayO { o with deps := [] } ↔ madeP o := may_lean hm
  by_cases b1 : o.id.2 = 1
  rotate_left
  · have hmk : ¬ mayO { o with deps := [] } := fun h => b1 (hL.1 h).1
    simp (disch := omega) only [go_sem, ↓reduceIte, Nat.reduceEqDiff, Nat.reduceAdd, Nat.reduceMul, Nat.reduceSub, Nat.reduceLT, Nat.reduceLeDiff, Nat.reduceBEq, reduceCtorEq, Int.reduceLT, Int.reduceEq, Int.reduceLE, Int.reduceAdd, Int.reduceSub, Int.reduceToNat, Int.reduceNeg, hc4, b1]
    refine wst_op { o with deps := [] } nilS hp4 rfl rfl (by decide) rfl fun S5 hp5 hb5 => ?_
    have hwb5 := hwb4.ne hb5 (by simp [blkOf]; exact hwp)
    have hc5 := hwb5.c
    simp (disch := omega) only [go_sem, ↓reduceIte, Nat.reduceEqDiff, Nat.reduceAdd, Nat.reduceMul, Nat.reduceSub, Nat.reduceLT, Nat.reduceLeDiff, Nat.reduceBEq, reduceCtorEq, Int.reduceLT, Int.reduceEq, Int.reduceLE, Int.reduceAdd, Int.reduceSub, Int.reduceToNat, Int.reduceNeg, hc5]
    refine walloc_O fun q S6 he6 hq6 hqn => ?_
    have hp6 := hp5.ext he6
    have hwb6 := hwb5.ext he6
    have hc6 := hwb6.c
    simp (disch := omega) only [go_sem, ↓reduceIte, Nat.reduceEqDiff, Nat.reduceAdd, Nat.reduceMul, Nat.reduceSub, Nat.reduceLT, Nat.reduceLeDiff, Nat.reduceBEq, reduceCtorEq, Int.reduceLT, Int.reduceEq, Int.reduceLE, Int.reduceAdd, Int.reduceSub, Int.reduceToNat, Int.reduceNeg, hc6]
    refine wst_op o _ hq6 rfl rfl (by decide) (wrote_full _ _ rfl) fun S7 hq7 hb7 => ?_
    simp (disch := omega) only [go_sem, ↓reduceIte, Nat.reduceEqDiff, Nat.reduceAdd, Nat.reduceMul, Nat.reduceSub, Nat.reduceLT, Nat.reduceLeDiff, Nat.reduceBEq, reduceCtorEq, Int.reduceLT, Int.reduceEq, Int.reduceLE, Int.reduceAdd, Int.reduceSub, Int.reduceToNat, Int.reduceNeg]
    refine wst_op { o with time := 0 } _ hq7 rfl rfl (by decide) rfl fun S8 hq8 hb8 => ?_
    have hqp : q ≠ p := by have := hp5.1; omega
    have hqw : q ≠ w := by have := hwb5.1; omega
    have hwb8 := (hwb6.ne hb7 (by simp [blkOf]; exact hqw)).ne hb8 (by simp [blkOf]; exact hqw)
    have hp8 := (hp6.ne hb7 (by simp [blkOf]; exact hqp)).ne hb8 (by simp [blkOf]; exact hqp)
    have hc8 := hwb8.c
    simp (disch := omega) only [go_sem, ↓reduceIte, Nat.reduceEqDiff, Nat.reduceAdd, Nat.reduceMul, Nat.reduceSub, Nat.reduceLT, Nat.reduceLeDiff, Nat.reduceBEq, reduceCtorEq, Int.reduceLT, Int.reduceEq, Int.reduceLE, Int.reduceAdd, Int.reduceSub, Int.reduceToNat, Int.reduceNeg, hc8]
    refine walloc_O fun r S9 he9 hr9 hrn => ?_
    have hwb9 := hwb8.ext he9
    have hc9 := hwb9.c
    simp (disch := omega) only [go_sem, ↓reduceIte, Nat.reduceEqDiff, Nat.reduceAdd, Nat.reduceMul, Nat.reduceSub, Nat.reduceLT, Nat.reduceLeDiff, Nat.reduceBEq, reduceCtorEq, Int.reduceLT, Int.reduceEq, Int.reduceLE, Int.reduceAdd, Int.reduceSub, Int.reduceToNat, Int.reduceNeg, hc9]
    refine wst_op o _ hr9 rfl rfl (by decide) (wrote_full _ _ rfl) fun S10 hr10 hb10 => ?_
    have hrp : r ≠ p := by have := hp8.1; omega
    have hrq : r ≠ q := by have := hq8.1; omega
    have hrw : r ≠ w := by have := hwb8.1; omega
    have cr := hr10.c
    have e1 : IntKind.i64.wrap (o.id.2 + 1) = o.id.2 + 1 := by have := hm.1.1; unfold mayP at this; exact wrap64 (by omega) (by omega)
    simp (disch := omega) only [go_sem, ↓reduceIte, Nat.reduceEqDiff, Nat.reduceAdd, Nat.reduceMul, Nat.reduceSub, Nat.reduceLT, Nat.reduceLeDiff, Nat.reduceBEq, reduceCtorEq, Int.reduceLT, Int.reduceEq, Int.reduceLE, Int.reduceAdd, Int.reduceSub, Int.reduceToNat, Int.reduceNeg, cr, e1]
    refine wst_op { o with id := (o.id.1, o.id.2 + 1) } _ hr10 rfl rfl (by decide) rfl fun S11 hr11 hb11 => ?_
    have hp11 := ((hp8.ext he9).ne hb10 (by simp [blkOf]; exact hrp)).ne hb11 (by simp [blkOf]; exact hrp)
    have hq11 := ((hq8.ext he9).ne hb10 (by simp [blkOf]; exact hrq)).ne hb11 (by simp [blkOf]; exact hrq)
    have g4 : S.Ext S4 := (((he.trans he2).but hb3 fun j hj => by simp [blkOf] at hj; have := he.n; omega)).but hb4 fun j hj => by simp [blkOf] at hj; have := he.n; omega
    have g8 : S.Ext S8 := (((g4.but hb5 fun j hj => by simp [blkOf] at hj; have := he.n; omega).trans he6).but hb7 fun j hj => by simp [blkOf] at hj; have := g4.n; have := hb5.n; omega).but hb8 fun j hj => by simp [blkOf] at hj; have := g4.n; have := hb5.n; omega
    have g11 : S.Ext S11 := ((g8.trans he9).but hb10 fun j hj => by simp [blkOf] at hj; have := g8.n; omega).but hb11 fun j hj => by simp [blkOf] at hj; have := g8.n; omega
    have hd11 := hd.ext dotE g11
    have cp := hp11.c
    have cq := hq11.c
    have cr11 := hr11.c
    have n1 : ¬ mayO { o with time := 0 } := not_may_time
    have n3 : ¬ mayO { o with id := (o.id.1, o.id.2 + 1) } := not_may_seq hm
    simp (disch := omega) only [go_sem, ↓reduceIte, Nat.reduceEqDiff, Nat.reduceAdd, Nat.reduceMul, Nat.reduceSub, Nat.reduceLT, Nat.reduceLeDiff, Nat.reduceBEq, reduceCtorEq, Int.reduceLT, Int.reduceEq, Int.reduceLE, Int.reduceAdd, Int.reduceSub, Int.reduceToNat, Int.reduceNeg, cp]
    refine wJ_of (F.ops_Check_J (o := { o with deps := [] }) (dv := nilS) (nil_slD _) (by simp)) ?_; rintro _ _ ⟨rfl, rfl⟩
    simp (disch := omega) only [go_sem, ↓reduceIte, Nat.reduceEqDiff, Nat.reduceAdd, Nat.reduceMul, Nat.reduceSub, Nat.reduceLT, Nat.reduceLeDiff, Nat.reduceBEq, reduceCtorEq, Int.reduceLT, Int.reduceEq, Int.reduceLE, Int.reduceAdd, Int.reduceSub, Int.reduceToNat, Int.reduceNeg, cq, cr11, hmk]
    refine wJ_of (F.ops_Check_J (o := { o with time := 0 }) hd11 (by simp; omega)) ?_; rintro _ _ ⟨rfl, rfl⟩
    simp (disch := omega) only [go_sem, ↓reduceIte, Nat.reduceEqDiff, Nat.reduceAdd, Nat.reduceMul, Nat.reduceSub, Nat.reduceLT, Nat.reduceLeDiff, Nat.reduceBEq, reduceCtorEq, Int.reduceLT, Int.reduceEq, Int.reduceLE, Int.reduceAdd, Int.reduceSub, Int.reduceToNat, Int.reduceNeg, cq, cr11, n1]
    refine wJ_of (F.ops_Check_J (o := { o with id := (o.id.1, o.id.2 + 1) }) hd11 (by simp; omega)) ?_; rintro _ _ ⟨rfl, rfl⟩
    simp (disch := omega) only [go_sem, ↓reduceIte, Nat.reduceEqDiff, Nat.reduceAdd, Nat.reduceMul, Nat.reduceSub, Nat.reduceLT, Nat.reduceLeDiff, Nat.reduceBEq, reduceCtorEq, Int.reduceLT, Int.reduceEq, Int.reduceLE, Int.reduceAdd, Int.reduceSub, Int.reduceToNat, Int.reduceNeg, n3]
  have d1 : decide (o.id.2 = 1) = true := decide_eq_true b1
  by_cases b2 : o.kind = 3
  rotate_left
  · have hmk : ¬ mayO { o with deps := [] } := fun h => b2 (hL.1 h).2.1
    simp (disch := omega) only [go_sem, ↓reduceIte, Nat.reduceEqDiff, Nat.reduceAdd, Nat.reduceMul, Nat.reduceSub, Nat.reduceLT, Nat.reduceLeDiff, Nat.reduceBEq, reduceCtorEq, Int.reduceLT, Int.reduceEq, Int.reduceLE, Int.reduceAdd, Int.reduceSub, Int.reduceToNat, Int.reduceNeg, hc4, d1, b2]
    refine wst_op { o with deps := [] } nilS hp4 rfl rfl (by decide) rfl fun S5 hp5 hb5 => ?_
    have hwb5 := hwb4.ne hb5 (by simp [blkOf]; exact hwp)
    have hc5 := hwb5.c
    simp (disch := omega) only [go_sem, ↓reduceIte, Nat.reduceEqDiff, Nat.reduceAdd, Nat.reduceMul, Nat.reduceSub, Nat.reduceLT, Nat.reduceLeDiff, Nat.reduceBEq, reduceCtorEq, Int.reduceLT, Int.reduceEq, Int.reduceLE, Int.reduceAdd, Int.reduceSub, Int.reduceToNat, Int.reduceNeg, hc5]
    refine walloc_O fun q S6 he6 hq6 hqn => ?_
    have hp6 := hp5.ext he6
    have hwb6 := hwb5.ext he6
    have hc6 := hwb6.c
    simp (disch := omega) only [go_sem, ↓reduceIte, Nat.reduceEqDiff, Nat.reduceAdd, Nat.reduceMul, Nat.reduceSub, Nat.reduceLT, Nat.reduceLeDiff, Nat.reduceBEq, reduceCtorEq, Int.reduceLT, Int.reduceEq, Int.reduceLE, Int.reduceAdd, Int.reduceSub, Int.reduceToNat, Int.reduceNeg, hc6]
    refine wst_op o _ hq6 rfl rfl (by decide) (wrote_full _ _ rfl) fun S7 hq7 hb7 => ?_
    simp (disch := omega) only [go_sem, ↓reduceIte, Nat.reduceEqDiff, Nat.reduceAdd, Nat.reduceMul, Nat.reduceSub, Nat.reduceLT, Nat.reduceLeDiff, Nat.reduceBEq, reduceCtorEq, Int.reduceLT, Int.reduceEq, Int.reduceLE, Int.reduceAdd, Int.reduceSub, Int.reduceToNat, Int.reduceNeg]
    refine wst_op { o with time := 0 } _ hq7 rfl rfl (by decide) rfl fun S8 hq8 hb8 => ?_
    have hqp : q ≠ p := by have := hp5.1; omega
    have hqw : q ≠ w := by have := hwb5.1; omega
    have hwb8 := (hwb6.ne hb7 (by simp [blkOf]; exact hqw)).ne hb8 (by simp [blkOf]; exact hqw)
    have hp8 := (hp6.ne hb7 (by simp [blkOf]; exact hqp)).ne hb8 (by simp [blkOf]; exact hqp)
    have hc8 := hwb8.c
    simp (disch := omega) only [go_sem, ↓reduceIte, Nat.reduceEqDiff, Nat.reduceAdd, Nat.reduceMul, Nat.reduceSub, Nat.reduceLT, Nat.reduceLeDiff, Nat.reduceBEq, reduceCtorEq, Int.reduceLT, Int.reduceEq, Int.reduceLE, Int.reduceAdd, Int.reduceSub, Int.reduceToNat, Int.reduceNeg, hc8]
    refine walloc_O fun r S9 he9 hr9 hrn => ?_
    have hwb9 := hwb8.ext he9
    have hc9 := hwb9.c
    simp (disch := omega) only [go_sem, ↓reduceIte, Nat.reduceEqDiff, Nat.reduceAdd, Nat.reduceMul, Nat.reduceSub, Nat.reduceLT, Nat.reduceLeDiff, Nat.reduceBEq, reduceCtorEq, Int.reduceLT, Int.reduceEq, Int.reduceLE, Int.reduceAdd, Int.reduceSub, Int.reduceToNat, Int.reduceNeg, hc9]
    refine wst_op o _ hr9 rfl rfl (by decide) (wrote_full _ _ rfl) fun S10 hr10 hb10 => ?_
    have hrp : r ≠ p := by have := hp8.1; omega
    have hrq : r ≠ q := by have := hq8.1; omega
    have hrw : r ≠ w := by have := hwb8.1; omega
    have cr := hr10.c
    have e1 : IntKind.i64.wrap (o.id.2 + 1) = o.id.2 + 1 := by have := hm.1.1; unfold mayP at this; exact wrap64 (by omega) (by omega)
    simp (disch := omega) only [go_sem, ↓reduceIte, Nat.reduceEqDiff, Nat.reduceAdd, Nat.reduceMul, Nat.reduceSub, Nat.reduceLT, Nat.reduceLeDiff, Nat.reduceBEq, reduceCtorEq, Int.reduceLT, Int.reduceEq, Int.reduceLE, Int.reduceAdd, Int.reduceSub, Int.reduceToNat, Int.reduceNeg, cr, e1]
    refine wst_op { o with id := (o.id.1, o.id.2 + 1) } _ hr10 rfl rfl (by decide) rfl fun S11 hr11 hb11 => ?_
    have hp11 := ((hp8.ext he9).ne hb10 (by simp [blkOf]; exact hrp)).ne hb11 (by simp [blkOf]; exact hrp)
    have hq11 := ((hq8.ext he9).ne hb10 (by simp [blkOf]; exact hrq)).ne hb11 (by simp [blkOf]; exact hrq)
    have g4 : S.Ext S4 := (((he.trans he2).but hb3 fun j hj => by simp [blkOf] at hj; have := he.n; omega)).but hb4 fun j hj => by simp [blkOf] at hj; have := he.n; omega
    have g8 : S.Ext S8 := (((g4.but hb5 fun j hj => by simp [blkOf] at hj; have := he.n; omega).trans he6).but hb7 fun j hj => by simp [blkOf] at hj; have := g4.n; have := hb5.n; omega).but hb8 fun j hj => by simp [blkOf] at hj; have := g4.n; have := hb5.n; omega
    have g11 : S.Ext S11 := ((g8.trans he9).but hb10 fun j hj => by simp [blkOf] at hj; have := g8.n; omega).but hb11 fun j hj => by simp [blkOf] at hj; have := g8.n; omega
    have hd11 := hd.ext dotE g11
    have cp := hp11.c
    have cq := hq11.c
    have cr11 := hr11.c
    have n1 : ¬ mayO { o with time := 0 } := not_may_time
    have n3 : ¬ mayO { o with id := (o.id.1, o.id.2 + 1) } := not_may_seq hm
    simp (disch := omega) only [go_sem, ↓reduceIte, Nat.reduceEqDiff, Nat.reduceAdd, Nat.reduceMul, Nat.reduceSub, Nat.reduceLT, Nat.reduceLeDiff, Nat.reduceBEq, reduceCtorEq, Int.reduceLT, Int.reduceEq, Int.reduceLE, Int.reduceAdd, Int.reduceSub, Int.reduceToNat, Int.reduceNeg, cp]
    refine wJ_of (F.ops_Check_J (o := { o with deps := [] }) (dv := nilS) (nil_slD _) (by simp)) ?_; rintro _ _ ⟨rfl, rfl⟩
    simp (disch := omega) only [go_sem, ↓reduceIte, Nat.reduceEqDiff, Nat.reduceAdd, Nat.reduceMul, Nat.reduceSub, Nat.reduceLT, Nat.reduceLeDiff, Nat.reduceBEq, reduceCtorEq, Int.reduceLT, Int.reduceEq, Int.reduceLE, Int.reduceAdd, Int.reduceSub, Int.reduceToNat, Int.reduceNeg, cq, cr11, hmk]
    refine wJ_of (F.ops_Check_J (o := { o with time := 0 }) hd11 (by simp; omega)) ?_; rintro _ _ ⟨rfl, rfl⟩
    simp (disch := omega) only [go_sem, ↓reduceIte, Nat.reduceEqDiff, Nat.reduceAdd, Nat.reduceMul, Nat.reduceSub, Nat.reduceLT, Nat.reduceLeDiff, Nat.reduceBEq, reduceCtorEq, Int.reduceLT, Int.reduceEq, Int.reduceLE, Int.reduceAdd, Int.reduceSub, Int.reduceToNat, Int.reduceNeg, cq, cr11, n1]
    refine wJ_of (F.ops_Check_J (o := { o with id := (o.id.1, o.id.2 + 1) }) hd11 (by simp; omega)) ?_; rintro _ _ ⟨rfl, rfl⟩
    simp (disch := omega) only [go_sem, ↓reduceIte, Nat.reduceEqDiff, Nat.reduceAdd, Nat.reduceMul, Nat.reduceSub, Nat.reduceLT, Nat.reduceLeDiff, Nat.reduceBEq, reduceCtorEq, Int.reduceLT, Int.reduceEq, Int.reduceLE, Int.reduceAdd, Int.reduceSub, Int.reduceToNat, Int.reduceNeg, n3]
  by_cases b3 : o.block = o.id
  rotate_left
  · have hmk : ¬ mayO { o with deps := [] } := fun h => b3 (hL.1 h).2.2.1
    have eb := (eqV_dot o.block o.id).trans (congrArg some (decide_eq_false b3))
    simp (disch := omega) only [go_sem, ↓reduceIte, Nat.reduceEqDiff, Nat.reduceAdd, Nat.reduceMul, Nat.reduceSub, Nat.reduceLT, Nat.reduceLeDiff, Nat.reduceBEq, reduceCtorEq, Int.reduceLT, Int.reduceEq, Int.reduceLE, Int.reduceAdd, Int.reduceSub, Int.reduceToNat, Int.reduceNeg, hc4, d1, b2, eb]
    refine wst_op { o with deps := [] } nilS hp4 rfl rfl (by decide) rfl fun S5 hp5 hb5 => ?_
    have hwb5 := hwb4.ne hb5 (by simp [blkOf]; exact hwp)
    have hc5 := hwb5.c
    simp (disch := omega) only [go_sem, ↓reduceIte, Nat.reduceEqDiff, Nat.reduceAdd, Nat.reduceMul, Nat.reduceSub, Nat.reduceLT, Nat.reduceLeDiff, Nat.reduceBEq, reduceCtorEq, Int.reduceLT, Int.reduceEq, Int.reduceLE, Int.reduceAdd, Int.reduceSub, Int.reduceToNat, Int.reduceNeg, hc5]
    refine walloc_O fun q S6 he6 hq6 hqn => ?_
    have hp6 := hp5.ext he6
    have hwb6 := hwb5.ext he6
    have hc6 := hwb6.c
    simp (disch := omega) only [go_sem, ↓reduceIte, Nat.reduceEqDiff, Nat.reduceAdd, Nat.reduceMul, Nat.reduceSub, Nat.reduceLT, Nat.reduceLeDiff, Nat.reduceBEq, reduceCtorEq, Int.reduceLT, Int.reduceEq, Int.reduceLE, Int.reduceAdd, Int.reduceSub, Int.reduceToNat, Int.reduceNeg, hc6]
    refine wst_op o _ hq6 rfl rfl (by decide) (wrote_full _ _ rfl) fun S7 hq7 hb7 => ?_
    simp (disch := omega) only [go_sem, ↓reduceIte, Nat.reduceEqDiff, Nat.reduceAdd, Nat.reduceMul, Nat.reduceSub, Nat.reduceLT, Nat.reduceLeDiff, Nat.reduceBEq, reduceCtorEq, Int.reduceLT, Int.reduceEq, Int.reduceLE, Int.reduceAdd, Int.reduceSub, Int.reduceToNat, Int.reduceNeg]
    refine wst_op { o with time := 0 } _ hq7 rfl rfl (by decide) rfl fun S8 hq8 hb8 => ?_
    have hqp : q ≠ p := by have := hp5.1; omega
    have hqw : q ≠ w := by have := hwb5.1; omega
    have hwb8 := (hwb6.ne hb7 (by simp [blkOf]; exact hqw)).ne hb8 (by simp [blkOf]; exact hqw)
    have hp8 := (hp6.ne hb7 (by simp [blkOf]; exact hqp)).ne hb8 (by simp [blkOf]; exact hqp)
    have hc8 := hwb8.c
    simp (disch := omega) only [go_sem, ↓reduceIte, Nat.reduceEqDiff, Nat.reduceAdd, Nat.reduceMul, Nat.reduceSub, Nat.reduceLT, Nat.reduceLeDiff, Nat.reduceBEq, reduceCtorEq, Int.reduceLT, Int.reduceEq, Int.reduceLE, Int.reduceAdd, Int.reduceSub, Int.reduceToNat, Int.reduceNeg, hc8]
    refine walloc_O fun r S9 he9 hr9 hrn => ?_
    have hwb9 := hwb8.ext he9
    have hc9 := hwb9.c
    simp (disch := omega) only [go_sem, ↓reduceIte, Nat.reduceEqDiff, Nat.reduceAdd, Nat.reduceMul, Nat.reduceSub, Nat.reduceLT, Nat.reduceLeDiff, Nat.reduceBEq, reduceCtorEq, Int.reduceLT, Int.reduceEq, Int.reduceLE, Int.reduceAdd, Int.reduceSub, Int.reduceToNat, Int.reduceNeg, hc9]
    refine wst_op o _ hr9 rfl rfl (by decide) (wrote_full _ _ rfl) fun S10 hr10 hb10 => ?_
    have hrp : r ≠ p := by have := hp8.1; omega
    have hrq : r ≠ q := by have := hq8.1; omega
    have hrw : r ≠ w := by have := hwb8.1; omega
    have cr := hr10.c
    have e1 : IntKind.i64.wrap (o.id.2 + 1) = o.id.2 + 1 := by have := hm.1.1; unfold mayP at this; exact wrap64 (by omega) (by omega)
    simp (disch := omega) only [go_sem, ↓reduceIte, Nat.reduceEqDiff, Nat.reduceAdd, Nat.reduceMul, Nat.reduceSub, Nat.reduceLT, Nat.reduceLeDiff, Nat.reduceBEq, reduceCtorEq, Int.reduceLT, Int.reduceEq, Int.reduceLE, Int.reduceAdd, Int.reduceSub, Int.reduceToNat, Int.reduceNeg, cr, e1]
    refine wst_op { o with id := (o.id.1, o.id.2 + 1) } _ hr10 rfl rfl (by decide) rfl fun S11 hr11 hb11 => ?_
    have hp11 := ((hp8.ext he9).ne hb10 (by simp [blkOf]; exact hrp)).ne hb11 (by simp [blkOf]; exact hrp)
    have hq11 := ((hq8.ext he9).ne hb10 (by simp [blkOf]; exact hrq)).ne hb11 (by simp [blkOf]; exact hrq)
    have g4 : S.Ext S4 := (((he.trans he2).but hb3 fun j hj => by simp [blkOf] at hj; have := he.n; omega)).but hb4 fun j hj => by simp [blkOf] at hj; have := he.n; omega
    have g8 : S.Ext S8 := (((g4.but hb5 fun j hj => by simp [blkOf] at hj; have := he.n; omega).trans he6).but hb7 fun j hj => by simp [blkOf] at hj; have := g4.n; have := hb5.n; omega).but hb8 fun j hj => by simp [blkOf] at hj; have := g4.n; have := hb5.n; omega
    have g11 : S.Ext S11 := ((g8.trans he9).but hb10 fun j hj => by simp [blkOf] at hj; have := g8.n; omega).but hb11 fun j hj => by simp [blkOf] at hj; have := g8.n; omega
    have hd11 := hd.ext dotE g11
    have cp := hp11.c
    have cq := hq11.c
    have cr11 := hr11.c
    have n1 : ¬ mayO { o with time := 0 } := not_may_time
    have n3 : ¬ mayO { o with id := (o.id.1, o.id.2 + 1) } := not_may_seq hm
    simp (disch := omega) only [go_sem, ↓reduceIte, Nat.reduceEqDiff, Nat.reduceAdd, Nat.reduceMul, Nat.reduceSub, Nat.reduceLT, Nat.reduceLeDiff, Nat.reduceBEq, reduceCtorEq, Int.reduceLT, Int.reduceEq, Int.reduceLE, Int.reduceAdd, Int.reduceSub, Int.reduceToNat, Int.reduceNeg, cp]
    refine wJ_of (F.ops_Check_J (o := { o with deps := [] }) (dv := nilS) (nil_slD _) (by simp)) ?_; rintro _ _ ⟨rfl, rfl⟩
    simp (disch := omega) only [go_sem, ↓reduceIte, Nat.reduceEqDiff, Nat.reduceAdd, Nat.reduceMul, Nat.reduceSub, Nat.reduceLT, Nat.reduceLeDiff, Nat.reduceBEq, reduceCtorEq, Int.reduceLT, Int.reduceEq, Int.reduceLE, Int.reduceAdd, Int.reduceSub, Int.reduceToNat, Int.reduceNeg, cq, cr11, hmk]
    refine wJ_of (F.ops_Check_J (o := { o with time := 0 }) hd11 (by simp; omega)) ?_; rintro _ _ ⟨rfl, rfl⟩
    simp (disch := omega) only [go_sem, ↓reduceIte, Nat.reduceEqDiff, Nat.reduceAdd, Nat.reduceMul, Nat.reduceSub, Nat.reduceLT, Nat.reduceLeDiff, Nat.reduceBEq, reduceCtorEq, Int.reduceLT, Int.reduceEq, Int.reduceLE, Int.reduceAdd, Int.reduceSub, Int.reduceToNat, Int.reduceNeg, cq, cr11, n1]
    refine wJ_of (F.ops_Check_J (o := { o with id := (o.id.1, o.id.2 + 1) }) hd11 (by simp; omega)) ?_; rintro _ _ ⟨rfl, rfl⟩
    simp (disch := omega) only [go_sem, ↓reduceIte, Nat.reduceEqDiff, Nat.reduceAdd, Nat.reduceMul, Nat.reduceSub, Nat.reduceLT, Nat.reduceLeDiff, Nat.reduceBEq, reduceCtorEq, Int.reduceLT, Int.reduceEq, Int.reduceLE, Int.reduceAdd, Int.reduceSub, Int.reduceToNat, Int.reduceNeg, n3]
  have eb := (eqV_dot o.block o.id).trans (congrArg some (decide_eq_true b3))
  simp (disch := omega) only [go_sem, ↓reduceIte, Nat.reduceEqDiff, Nat.reduceAdd, Nat.reduceMul, Nat.reduceSub, Nat.reduceLT, Nat.reduceLeDiff, Nat.reduceBEq, reduceCtorEq, Int.reduceLT, Int.reduceEq, Int.reduceLE, Int.reduceAdd, Int.reduceSub, Int.reduceToNat, Int.reduceNeg, hc4, d1, b2, eb]
  refine wJ_of F.api_Root_J ?_; rintro _ _ ⟨rfl, rfl⟩
  by_cases b4 : o.parent = (0, -1)
  · have hmk : mayO { o with deps := [] } := hL.2 ⟨b1, b2, b3, .inl b4⟩
    have e4 := (eqV_dot o.parent (0, -1)).trans (congrArg some (decide_eq_true b4))
    simp (disch := omega) only [go_sem, ↓reduceIte, Nat.reduceEqDiff, Nat.reduceAdd, Nat.reduceMul, Nat.reduceSub, Nat.reduceLT, Nat.reduceLeDiff, Nat.reduceBEq, reduceCtorEq, Int.reduceLT, Int.reduceEq, Int.reduceLE, Int.reduceAdd, Int.reduceSub, Int.reduceToNat, Int.reduceNeg, hc4, e4]
    refine wst_op { o with deps := [] } nilS hp4 rfl rfl (by decide) rfl fun S5 hp5 hb5 => ?_
    have hwb5 := hwb4.ne hb5 (by simp [blkOf]; exact hwp)
    have hc5 := hwb5.c
    simp (disch := omega) only [go_sem, ↓reduceIte, Nat.reduceEqDiff, Nat.reduceAdd, Nat.reduceMul, Nat.reduceSub, Nat.reduceLT, Nat.reduceLeDiff, Nat.reduceBEq, reduceCtorEq, Int.reduceLT, Int.reduceEq, Int.reduceLE, Int.reduceAdd, Int.reduceSub, Int.reduceToNat, Int.reduceNeg, hc5]
    refine walloc_O fun q S6 he6 hq6 hqn => ?_
    have hp6 := hp5.ext he6
    have hwb6 := hwb5.ext he6
    have hc6 := hwb6.c
    simp (disch := omega) only [go_sem, ↓reduceIte, Nat.reduceEqDiff, Nat.reduceAdd, Nat.reduceMul, Nat.reduceSub, Nat.reduceLT, Nat.reduceLeDiff, Nat.reduceBEq, reduceCtorEq, Int.reduceLT, Int.reduceEq, Int.reduceLE, Int.reduceAdd, Int.reduceSub, Int.reduceToNat, Int.reduceNeg, hc6]
    refine wst_op o _ hq6 rfl rfl (by decide) (wrote_full _ _ rfl) fun S7 hq7 hb7 => ?_
    simp (disch := omega) only [go_sem, ↓reduceIte, Nat.reduceEqDiff, Nat.reduceAdd, Nat.reduceMul, Nat.reduceSub, Nat.reduceLT, Nat.reduceLeDiff, Nat.reduceBEq, reduceCtorEq, Int.reduceLT, Int.reduceEq, Int.reduceLE, Int.reduceAdd, Int.reduceSub, Int.reduceToNat, Int.reduceNeg]
    refine wst_op { o with time := 0 } _ hq7 rfl rfl (by decide) rfl fun S8 hq8 hb8 => ?_
    have hqp : q ≠ p := by have := hp5.1; omega
    have hqw : q ≠ w := by have := hwb5.1; omega
    have hwb8 := (hwb6.ne hb7 (by simp [blkOf]; exact hqw)).ne hb8 (by simp [blkOf]; exact hqw)
    have hp8 := (hp6.ne hb7 (by simp [blkOf]; exact hqp)).ne hb8 (by simp [blkOf]; exact hqp)
    have hc8 := hwb8.c
    simp (disch := omega) only [go_sem, ↓reduceIte, Nat.reduceEqDiff, Nat.reduceAdd, Nat.reduceMul, Nat.reduceSub, Nat.reduceLT, Nat.reduceLeDiff, Nat.reduceBEq, reduceCtorEq, Int.reduceLT, Int.reduceEq, Int.reduceLE, Int.reduceAdd, Int.reduceSub, Int.reduceToNat, Int.reduceNeg, hc8]
    refine walloc_O fun r S9 he9 hr9 hrn => ?_
    have hwb9 := hwb8.ext he9
    have hc9 := hwb9.c
    simp (disch := omega) only [go_sem, ↓reduceIte, Nat.reduceEqDiff, Nat.reduceAdd, Nat.reduceMul, Nat.reduceSub, Nat.reduceLT, Nat.reduceLeDiff, Nat.reduceBEq, reduceCtorEq, Int.reduceLT, Int.reduceEq, Int.reduceLE, Int.reduceAdd, Int.reduceSub, Int.reduceToNat, Int.reduceNeg, hc9]
    refine wst_op o _ hr9 rfl rfl (by decide) (wrote_full _ _ rfl) fun S10 hr10 hb10 => ?_
    have hrp : r ≠ p := by have := hp8.1; omega
    have hrq : r ≠ q := by have := hq8.1; omega
    have hrw : r ≠ w := by have := hwb8.1; omega
    have cr := hr10.c
    have e1 : IntKind.i64.wrap (o.id.2 + 1) = o.id.2 + 1 := by have := hm.1.1; unfold mayP at this; exact wrap64 (by omega) (by omega)
    simp (disch := omega) only [go_sem, ↓reduceIte, Nat.reduceEqDiff, Nat.reduceAdd, Nat.reduceMul, Nat.reduceSub, Nat.reduceLT, Nat.reduceLeDiff, Nat.reduceBEq, reduceCtorEq, Int.reduceLT, Int.reduceEq, Int.reduceLE, Int.reduceAdd, Int.reduceSub, Int.reduceToNat, Int.reduceNeg, cr, e1]
    refine wst_op { o with id := (o.id.1, o.id.2 + 1) } _ hr10 rfl rfl (by decide) rfl fun S11 hr11 hb11 => ?_
    have hp11 := ((hp8.ext he9).ne hb10 (by simp [blkOf]; exact hrp)).ne hb11 (by simp [blkOf]; exact hrp)
    have hq11 := ((hq8.ext he9).ne hb10 (by simp [blkOf]; exact hrq)).ne hb11 (by simp [blkOf]; exact hrq)
    have g4 : S.Ext S4 := (((he.trans he2).but hb3 fun j hj => by simp [blkOf] at hj; have := he.n; omega)).but hb4 fun j hj => by simp [blkOf] at hj; have := he.n; omega
    have g8 : S.Ext S8 := (((g4.but hb5 fun j hj => by simp [blkOf] at hj; have := he.n; omega).trans he6).but hb7 fun j hj => by simp [blkOf] at hj; have := g4.n; have := hb5.n; omega).but hb8 fun j hj => by simp [blkOf] at hj; have := g4.n; have := hb5.n; omega
    have g11 : S.Ext S11 := ((g8.trans he9).but hb10 fun j hj => by simp [blkOf] at hj; have := g8.n; omega).but hb11 fun j hj => by simp [blkOf] at hj; have := g8.n; omega
    have hd11 := hd.ext dotE g11
    have cp := hp11.c
    have cq := hq11.c
    have cr11 := hr11.c
    have n1 : ¬ mayO { o with time := 0 } := not_may_time
    have n3 : ¬ mayO { o with id := (o.id.1, o.id.2 + 1) } := not_may_seq hm
    simp (disch := omega) only [go_sem, ↓reduceIte, Nat.reduceEqDiff, Nat.reduceAdd, Nat.reduceMul, Nat.reduceSub, Nat.reduceLT, Nat.reduceLeDiff, Nat.reduceBEq, reduceCtorEq, Int.reduceLT, Int.reduceEq, Int.reduceLE, Int.reduceAdd, Int.reduceSub, Int.reduceToNat, Int.reduceNeg, cp]
    refine wJ_of (F.ops_Check_J (o := { o with deps := [] }) (dv := nilS) (nil_slD _) (by simp)) ?_; rintro _ _ ⟨rfl, rfl⟩
    simp (disch := omega) only [go_sem, ↓reduceIte, Nat.reduceEqDiff, Nat.reduceAdd, Nat.reduceMul, Nat.reduceSub, Nat.reduceLT, Nat.reduceLeDiff, Nat.reduceBEq, reduceCtorEq, Int.reduceLT, Int.reduceEq, Int.reduceLE, Int.reduceAdd, Int.reduceSub, Int.reduceToNat, Int.reduceNeg, cq, cr11, hmk]
    refine wJ_of (F.ops_Check_J (o := { o with time := 0 }) hd11 (by simp; omega)) ?_; rintro _ _ ⟨rfl, rfl⟩
    simp (disch := omega) only [go_sem, ↓reduceIte, Nat.reduceEqDiff, Nat.reduceAdd, Nat.reduceMul, Nat.reduceSub, Nat.reduceLT, Nat.reduceLeDiff, Nat.reduceBEq, reduceCtorEq, Int.reduceLT, Int.reduceEq, Int.reduceLE, Int.reduceAdd, Int.reduceSub, Int.reduceToNat, Int.reduceNeg, cq, cr11, n1]
    refine wJ_of (F.ops_Check_J (o := { o with id := (o.id.1, o.id.2 + 1) }) hd11 (by simp; omega)) ?_; rintro _ _ ⟨rfl, rfl⟩
    simp (disch := omega) only [go_sem, ↓reduceIte, Nat.reduceEqDiff, Nat.reduceAdd, Nat.reduceMul, Nat.reduceSub, Nat.reduceLT, Nat.reduceLeDiff, Nat.reduceBEq, reduceCtorEq, Int.reduceLT, Int.reduceEq, Int.reduceLE, Int.reduceAdd, Int.reduceSub, Int.reduceToNat, Int.reduceNeg, n3]
  have e4 := (eqV_dot o.parent (0, -1)).trans (congrArg some (decide_eq_false b4))
  simp (disch := omega) only [go_sem, ↓reduceIte, Nat.reduceEqDiff, Nat.reduceAdd, Nat.reduceMul, Nat.reduceSub, Nat.reduceLT, Nat.reduceLeDiff, Nat.reduceBEq, reduceCtorEq, Int.reduceLT, Int.reduceEq, Int.reduceLE, Int.reduceAdd, Int.reduceSub, Int.reduceToNat, Int.reduceNeg, hc4, e4]
  refine wJ_of F.api_Trash_J ?_; rintro _ _ ⟨rfl, rfl⟩
  by_cases b5 : o.parent = (0, -2)
  · have hmk : mayO { o with deps := [] } := hL.2 ⟨b1, b2, b3, .inr b5⟩
    have e5 := (eqV_dot o.parent (0, -2)).trans (congrArg some (decide_eq_true b5))
    simp (disch := omega) only [go_sem, ↓reduceIte, Nat.reduceEqDiff, Nat.reduceAdd, Nat.reduceMul, Nat.reduceSub, Nat.reduceLT, Nat.reduceLeDiff, Nat.reduceBEq, reduceCtorEq, Int.reduceLT, Int.reduceEq, Int.reduceLE, Int.reduceAdd, Int.reduceSub, Int.reduceToNat, Int.reduceNeg, hc4, e5]
    refine wst_op { o with deps := [] } nilS hp4 rfl rfl (by decide) rfl fun S5 hp5 hb5 => ?_
    have hwb5 := hwb4.ne hb5 (by simp [blkOf]; exact hwp)
    have hc5 := hwb5.c
    simp (disch := omega) only [go_sem, ↓reduceIte, Nat.reduceEqDiff, Nat.reduceAdd, Nat.reduceMul, Nat.reduceSub, Nat.reduceLT, Nat.reduceLeDiff, Nat.reduceBEq, reduceCtorEq, Int.reduceLT, Int.reduceEq, Int.reduceLE, Int.reduceAdd, Int.reduceSub, Int.reduceToNat, Int.reduceNeg, hc5]
    refine walloc_O fun q S6 he6 hq6 hqn => ?_
    have hp6 := hp5.ext he6
    have hwb6 := hwb5.ext he6
    have hc6 := hwb6.c
    simp (disch := omega) only [go_sem, ↓reduceIte, Nat.reduceEqDiff, Nat.reduceAdd, Nat.reduceMul, Nat.reduceSub, Nat.reduceLT, Nat.reduceLeDiff, Nat.reduceBEq, reduceCtorEq, Int.reduceLT, Int.reduceEq, Int.reduceLE, Int.reduceAdd, Int.reduceSub, Int.reduceToNat, Int.reduceNeg, hc6]
    refine wst_op o _ hq6 rfl rfl (by decide) (wrote_full _ _ rfl) fun S7 hq7 hb7 => ?_
    simp (disch := omega) only [go_sem, ↓reduceIte, Nat.reduceEqDiff, Nat.reduceAdd, Nat.reduceMul, Nat.reduceSub, Nat.reduceLT, Nat.reduceLeDiff, Nat.reduceBEq, reduceCtorEq, Int.reduceLT, Int.reduceEq, Int.reduceLE, Int.reduceAdd, Int.reduceSub, Int.reduceToNat, Int.reduceNeg]
    refine wst_op { o with time := 0 } _ hq7 rfl rfl (by decide) rfl fun S8 hq8 hb8 => ?_
    have hqp : q ≠ p := by have := hp5.1; omega
    have hqw : q ≠ w := by have := hwb5.1; omega
    have hwb8 := (hwb6.ne hb7 (by simp [blkOf]; exact hqw)).ne hb8 (by simp [blkOf]; exact hqw)
    have hp8 := (hp6.ne hb7 (by simp [blkOf]; exact hqp)).ne hb8 (by simp [blkOf]; exact hqp)
    have hc8 := hwb8.c
    simp (disch := omega) only [go_sem, ↓reduceIte, Nat.reduceEqDiff, Nat.reduceAdd, Nat.reduceMul, Nat.reduceSub, Nat.reduceLT, Nat.reduceLeDiff, Nat.reduceBEq, reduceCtorEq, Int.reduceLT, Int.reduceEq, Int.reduceLE, Int.reduceAdd, Int.reduceSub, Int.reduceToNat, Int.reduceNeg, hc8]
    refine walloc_O fun r S9 he9 hr9 hrn => ?_
    have hwb9 := hwb8.ext he9
    have hc9 := hwb9.c
    simp (disch := omega) only [go_sem, ↓reduceIte, Nat.reduceEqDiff, Nat.reduceAdd, Nat.reduceMul, Nat.reduceSub, Nat.reduceLT, Nat.reduceLeDiff, Nat.reduceBEq, reduceCtorEq, Int.reduceLT, Int.reduceEq, Int.reduceLE, Int.reduceAdd, Int.reduceSub, Int.reduceToNat, Int.reduceNeg, hc9]
    refine wst_op o _ hr9 rfl rfl (by decide) (wrote_full _ _ rfl) fun S10 hr10 hb10 => ?_
    have hrp : r ≠ p := by have := hp8.1; omega
    have hrq : r ≠ q := by have := hq8.1; omega
    have hrw : r ≠ w := by have := hwb8.1; omega
    have cr := hr10.c
    have e1 : IntKind.i64.wrap (o.id.2 + 1) = o.id.2 + 1 := by have := hm.1.1; unfold mayP at this; exact wrap64 (by omega) (by omega)
    simp (disch := omega) only [go_sem, ↓reduceIte, Nat.reduceEqDiff, Nat.reduceAdd, Nat.reduceMul, Nat.reduceSub, Nat.reduceLT, Nat.reduceLeDiff, Nat.reduceBEq, reduceCtorEq, Int.reduceLT, Int.reduceEq, Int.reduceLE, Int.reduceAdd, Int.reduceSub, Int.reduceToNat, Int.reduceNeg, cr, e1]
    refine wst_op { o with id := (o.id.1, o.id.2 + 1) } _ hr10 rfl rfl (by decide) rfl fun S11 hr11 hb11 => ?_
    have hp11 := ((hp8.ext he9).ne hb10 (by simp [blkOf]; exact hrp)).ne hb11 (by simp [blkOf]; exact hrp)
    have hq11 := ((hq8.ext he9).ne hb10 (by simp [blkOf]; exact hrq)).ne hb11 (by simp [blkOf]; exact hrq)
    have g4 : S.Ext S4 := (((he.trans he2).but hb3 fun j hj => by simp [blkOf] at hj; have := he.n; omega)).but hb4 fun j hj => by simp [blkOf] at hj; have := he.n; omega
    have g8 : S.Ext S8 := (((g4.but hb5 fun j hj => by simp [blkOf] at hj; have := he.n; omega).trans he6).but hb7 fun j hj => by simp [blkOf] at hj; have := g4.n; have := hb5.n; omega).but hb8 fun j hj => by simp [blkOf] at hj; have := g4.n; have := hb5.n; omega
    have g11 : S.Ext S11 := ((g8.trans he9).but hb10 fun j hj => by simp [blkOf] at hj; have := g8.n; omega).but hb11 fun j hj => by simp [blkOf] at hj; have := g8.n; omega
    have hd11 := hd.ext dotE g11
    have cp := hp11.c
    have cq := hq11.c
    have cr11 := hr11.c
    have n1 : ¬ mayO { o with time := 0 } := not_may_time
    have n3 : ¬ mayO { o with id := (o.id.1, o.id.2 + 1) } := not_may_seq hm
    simp (disch := omega) only [go_sem, ↓reduceIte, Nat.reduceEqDiff, Nat.reduceAdd, Nat.reduceMul, Nat.reduceSub, Nat.reduceLT, Nat.reduceLeDiff, Nat.reduceBEq, reduceCtorEq, Int.reduceLT, Int.reduceEq, Int.reduceLE, Int.reduceAdd, Int.reduceSub, Int.reduceToNat, Int.reduceNeg, cp]
    refine wJ_of (F.ops_Check_J (o := { o with deps := [] }) (dv := nilS) (nil_slD _) (by simp)) ?_; rintro _ _ ⟨rfl, rfl⟩
    simp (disch := omega) only [go_sem, ↓reduceIte, Nat.reduceEqDiff, Nat.reduceAdd, Nat.reduceMul, Nat.reduceSub, Nat.reduceLT, Nat.reduceLeDiff, Nat.reduceBEq, reduceCtorEq, Int.reduceLT, Int.reduceEq, Int.reduceLE, Int.reduceAdd, Int.reduceSub, Int.reduceToNat, Int.reduceNeg, cq, cr11, hmk]
    refine wJ_of (F.ops_Check_J (o := { o with time := 0 }) hd11 (by simp; omega)) ?_; rintro _ _ ⟨rfl, rfl⟩
    simp (disch := omega) only [go_sem, ↓reduceIte, Nat.reduceEqDiff, Nat.reduceAdd, Nat.reduceMul, Nat.reduceSub, Nat.reduceLT, Nat.reduceLeDiff, Nat.reduceBEq, reduceCtorEq, Int.reduceLT, Int.reduceEq, Int.reduceLE, Int.reduceAdd, Int.reduceSub, Int.reduceToNat, Int.reduceNeg, cq, cr11, n1]
    refine wJ_of (F.ops_Check_J (o := { o with id := (o.id.1, o.id.2 + 1) }) hd11 (by simp; omega)) ?_; rintro _ _ ⟨rfl, rfl⟩
    simp (disch := omega) only [go_sem, ↓reduceIte, Nat.reduceEqDiff, Nat.reduceAdd, Nat.reduceMul, Nat.reduceSub, Nat.reduceLT, Nat.reduceLeDiff, Nat.reduceBEq, reduceCtorEq, Int.reduceLT, Int.reduceEq, Int.reduceLE, Int.reduceAdd, Int.reduceSub, Int.reduceToNat, Int.reduceNeg, n3]
  · have hmk : ¬ mayO { o with deps := [] } := fun h => (hL.1 h).2.2.2.elim b4 b5
    have e5 := (eqV_dot o.parent (0, -2)).trans (congrArg some (decide_eq_false b5))
    simp (disch := omega) only [go_sem, ↓reduceIte, Nat.reduceEqDiff, Nat.reduceAdd, Nat.reduceMul, Nat.reduceSub, Nat.reduceLT, Nat.reduceLeDiff, Nat.reduceBEq, reduceCtorEq, Int.reduceLT, Int.reduceEq, Int.reduceLE, Int.reduceAdd, Int.reduceSub, Int.reduceToNat, Int.reduceNeg, hc4, e5]
    refine wst_op { o with deps := [] } nilS hp4 rfl rfl (by decide) rfl fun S5 hp5 hb5 => ?_
    have hwb5 := hwb4.ne hb5 (by simp [blkOf]; exact hwp)
    have hc5 := hwb5.c
    simp (disch := omega) only [go_sem, ↓reduceIte, Nat.reduceEqDiff, Nat.reduceAdd, Nat.reduceMul, Nat.reduceSub, Nat.reduceLT, Nat.reduceLeDiff, Nat.reduceBEq, reduceCtorEq, Int.reduceLT, Int.reduceEq, Int.reduceLE, Int.reduceAdd, Int.reduceSub, Int.reduceToNat, Int.reduceNeg, hc5]
    refine walloc_O fun q S6 he6 hq6 hqn => ?_
    have hp6 := hp5.ext he6
    have hwb6 := hwb5.ext he6
    have hc6 := hwb6.c
    simp (disch := omega) only [go_sem, ↓reduceIte, Nat.reduceEqDiff, Nat.reduceAdd, Nat.reduceMul, Nat.reduceSub, Nat.reduceLT, Nat.reduceLeDiff, Nat.reduceBEq, reduceCtorEq, Int.reduceLT, Int.reduceEq, Int.reduceLE, Int.reduceAdd, Int.reduceSub, Int.reduceToNat, Int.reduceNeg, hc6]
    refine wst_op o _ hq6 rfl rfl (by decide) (wrote_full _ _ rfl) fun S7 hq7 hb7 => ?_
    simp (disch := omega) only [go_sem, ↓reduceIte, Nat.reduceEqDiff, Nat.reduceAdd, Nat.reduceMul, Nat.reduceSub, Nat.reduceLT, Nat.reduceLeDiff, Nat.reduceBEq, reduceCtorEq, Int.reduceLT, Int.reduceEq, Int.reduceLE, Int.reduceAdd, Int.reduceSub, Int.reduceToNat, Int.reduceNeg]
    refine wst_op { o with time := 0 } _ hq7 rfl rfl (by decide) rfl fun S8 hq8 hb8 => ?_
    have hqp : q ≠ p := by have := hp5.1; omega
    have hqw : q ≠ w := by have := hwb5.1; omega
    have hwb8 := (hwb6.ne hb7 (by simp [blkOf]; exact hqw)).ne hb8 (by simp [blkOf]; exact hqw)
    have hp8 := (hp6.ne hb7 (by simp [blkOf]; exact hqp)).ne hb8 (by simp [blkOf]; exact hqp)
    have hc8 := hwb8.c
    simp (disch := omega) only [go_sem, ↓reduceIte, Nat.reduceEqDiff, Nat.reduceAdd, Nat.reduceMul, Nat.reduceSub, Nat.reduceLT, Nat.reduceLeDiff, Nat.reduceBEq, reduceCtorEq, Int.reduceLT, Int.reduceEq, Int.reduceLE, Int.reduceAdd, Int.reduceSub, Int.reduceToNat, Int.reduceNeg, hc8]
    refine walloc_O fun r S9 he9 hr9 hrn => ?_
    have hwb9 := hwb8.ext he9
    have hc9 := hwb9.c
    simp (disch := omega) only [go_sem, ↓reduceIte, Nat.reduceEqDiff, Nat.reduceAdd, Nat.reduceMul, Nat.reduceSub, Nat.reduceLT, Nat.reduceLeDiff, Nat.reduceBEq, reduceCtorEq, Int.reduceLT, Int.reduceEq, Int.reduceLE, Int.reduceAdd, Int.reduceSub, Int.reduceToNat, Int.reduceNeg, hc9]
    refine wst_op o _ hr9 rfl rfl (by decide) (wrote_full _ _ rfl) fun S10 hr10 hb10 => ?_
    have hrp : r ≠ p := by have := hp8.1; omega
    have hrq : r ≠ q := by have := hq8.1; omega
    have hrw : r ≠ w := by have := hwb8.1; omega
    have cr := hr10.c
    have e1 : IntKind.i64.wrap (o.id.2 + 1) = o.id.2 + 1 := by have := hm.1.1; unfold mayP at this; exact wrap64 (by omega) (by omega)
    simp (disch := omega) only [go_sem, ↓reduceIte, Nat.reduceEqDiff, Nat.reduceAdd, Nat.reduceMul, Nat.reduceSub, Nat.reduceLT, Nat.reduceLeDiff, Nat.reduceBEq, reduceCtorEq, Int.reduceLT, Int.reduceEq, Int.reduceLE, Int.reduceAdd, Int.reduceSub, Int.reduceToNat, Int.reduceNeg, cr, e1]
    refine wst_op { o with id := (o.id.1, o.id.2 + 1) } _ hr10 rfl rfl (by decide) rfl fun S11 hr11 hb11 => ?_
    have hp11 := ((hp8.ext he9).ne hb10 (by simp [blkOf]; exact hrp)).ne hb11 (by simp [blkOf]; exact hrp)
    have hq11 := ((hq8.ext he9).ne hb10 (by simp [blkOf]; exact hrq)).ne hb11 (by simp [blkOf]; exact hrq)
    have g4 : S.Ext S4 := (((he.trans he2).but hb3 fun j hj => by simp [blkOf] at hj; have := he.n; omega)).but hb4 fun j hj => by simp [blkOf] at hj; have := he.n; omega
    have g8 : S.Ext S8 := (((g4.but hb5 fun j hj => by simp [blkOf] at hj; have := he.n; omega).trans he6).but hb7 fun j hj => by simp [blkOf] at hj; have := g4.n; have := hb5.n; omega).but hb8 fun j hj => by simp [blkOf] at hj; have := g4.n; have := hb5.n; omega
    have g11 : S.Ext S11 := ((g8.trans he9).but hb10 fun j hj => by simp [blkOf] at hj; have := g8.n; omega).but hb11 fun j hj => by simp [blkOf] at hj; have := g8.n; omega
    have hd11 := hd.ext dotE g11
    have cp := hp11.c
    have cq := hq11.c
    have cr11 := hr11.c
    have n1 : ¬ mayO { o with time := 0 } := not_may_time
    have n3 : ¬ mayO { o with id := (o.id.1, o.id.2 + 1) } := not_may_seq hm
    simp (disch := omega) only [go_sem, ↓reduceIte, Nat.reduceEqDiff, Nat.reduceAdd, Nat.reduceMul, Nat.reduceSub, Nat.reduceLT, Nat.reduceLeDiff, Nat.reduceBEq, reduceCtorEq, Int.reduceLT, Int.reduceEq, Int.reduceLE, Int.reduceAdd, Int.reduceSub, Int.reduceToNat, Int.reduceNeg, cp]
    refine wJ_of (F.ops_Check_J (o := { o with deps := [] }) (dv := nilS) (nil_slD _) (by simp)) ?_; rintro _ _ ⟨rfl, rfl⟩
    simp (disch := omega) only [go_sem, ↓reduceIte, Nat.reduceEqDiff, Nat.reduceAdd, Nat.reduceMul, Nat.reduceSub, Nat.reduceLT, Nat.reduceLeDiff, Nat.reduceBEq, reduceCtorEq, Int.reduceLT, Int.reduceEq, Int.reduceLE, Int.reduceAdd, Int.reduceSub, Int.reduceToNat, Int.reduceNeg, cq, cr11, hmk]
    refine wJ_of (F.ops_Check_J (o := { o with time := 0 }) hd11 (by simp; omega)) ?_; rintro _ _ ⟨rfl, rfl⟩
    simp (disch := omega) only [go_sem, ↓reduceIte, Nat.reduceEqDiff, Nat.reduceAdd, Nat.reduceMul, Nat.reduceSub, Nat.reduceLT, Nat.reduceLeDiff, Nat.reduceBEq, reduceCtorEq, Int.reduceLT, Int.reduceEq, Int.reduceLE, Int.reduceAdd, Int.reduceSub, Int.reduceToNat, Int.reduceNeg, cq, cr11, n1]
    refine wJ_of (F.ops_Check_J (o := { o with id := (o.id.1, o.id.2 + 1) }) hd11 (by simp; omega)) ?_; rintro _ _ ⟨rfl, rfl⟩
    simp (disch := omega) only [go_sem, ↓reduceIte, Nat.reduceEqDiff, Nat.reduceAdd, Nat.reduceMul, Nat.reduceSub, Nat.reduceLT, Nat.reduceLeDiff, Nat.reduceBEq, reduceCtorEq, Int.reduceLT, Int.reduceEq, Int.reduceLE, Int.reduceAdd, Int.reduceSub, Int.reduceToNat, Int.reduceNeg, n3]
end Go.Osj
