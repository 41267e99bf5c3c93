/- What is put is taken; awake. -/
import Derived.Test.YtfadbihdmohdiaaDoorKJ
set_option linter.unusedVariables false
set_option linter.unusedSimpArgs false
set_option maxHeartbeats 1000000
namespace Go.Osj
theorem rdD_encD {d : Dot} (h : inI d.1 ∧ inI d.2) (r : List Int) : rdD (encD d ++ r) 0 = (d, r, 0) := by
  unfold encD
  rw [List.append_assoc, rdD_enc h.1 h.2]
theorem rdO_enc {o : OpA} (hm : mayO o) (hL : o.deps.length < 100000) (r : List Int) : rdO (encO o ++ r, 0) = (o, r, 0) := by
  obtain ⟨i1, i2, i3, i4, i5, i6, i7, i8, i9, i10⟩ := mayO_in hm
  have hk : formP o.kind (encD o.block ++ (encX o ++ r), 0) = (encD o.block ++ (encX o ++ r), 0) := if_pos i10
  have e1 : rdH (encO o ++ r, 0) = (⟨o.id, o.time, o.deps, o.kind, o.block, (0, 0), 0, 0, (0, 0), ⟨#[]⟩⟩, encX o ++ r, 0) := by
    unfold rdH encO
    simp only [List.append_assoc]
    rw [rdD_encD i1]
    simp only
    rw [rdI_enc i2]
    simp only
    rw [rdV_enc hm.1.2.2.2.1 hL]
    simp only
    rw [rdI_enc i3]
    simp only
    rw [hk]
    simp only
    rw [rdD_encD i4]
  have e2 : rdB (⟨o.id, o.time, o.deps, o.kind, o.block, (0, 0), 0, 0, (0, 0), ⟨#[]⟩⟩ : OpA) (encX o ++ r, 0) = (o, r, 0) := by
    rcases hm.2 with ⟨k, m⟩ | ⟨k, m⟩ | ⟨k, m⟩
    · have ex : encX o = encD o.at_ ++ (encI o.side ++ encI o.char) := by unfold encX; rw [if_neg (by omega), if_neg (by omega)]
      have z1 : o.parent = (0, 0) := m.2.2.2.2.2.2.2.1
      have z2 : o.key = ⟨#[]⟩ := m.2.2.2.2.2.2.2.2
      unfold rdB
      simp only
      rw [if_pos k, ex]
      simp only [List.append_assoc]
      rw [rdD_encD i5]
      simp only
      rw [rdI_enc i6]
      simp only
      rw [rdI_enc i7]
      simp only [← z1, ← z2]
    · have ex : encX o = encD o.at_ := by unfold encX; rw [if_neg (by omega), if_pos k]
      obtain ⟨-, -, z1, z2, z3, z4⟩ := m
      unfold rdB
      simp only
      rw [if_neg (by omega), if_pos k, ex]
      rw [rdD_encD i5]
      cases o
      simp_all
    · have ex : encX o = encD o.parent ++ encT o.key := by unfold encX; rw [if_pos k]
      obtain ⟨-, -, -, -, z1, z2, z3⟩ := m
      unfold rdB
      simp only
      rw [if_neg (by omega), if_neg (by omega), if_pos k, ex]
      simp only [List.append_assoc]
      rw [rdD_encD i8]
      simp only
      rw [rdT_enc (by omega)]
      cases o
      simp_all
  unfold rdO
  rw [e1]
  simp only
  rw [e2]
  unfold rdF
  simp only [if_true, if_pos hm]
theorem o1_may : mayO o1 := by decide +kernel
theorem o1_enc : encO o1 = [2, 2, 2, 0, 6, 2, 2, 0, 1, 1, 110] := by decide +kernel
theorem nil_slD (S : St) : SlT dotE S nilS [] := (OwnT.nil dotE 0 S).sl dotE
def o2 : OpA := ⟨(1, 2), 1, [], 3, (1, 1), (0, 0), 0, 0, (0, -1), ⟨#[110]⟩⟩
theorem o2_may : ¬ mayO o2 := by decide +kernel
theorem F.osierlaw07_awake_J {S : St} : J PR F.osierlaw07_awake [] S fun v S' => v = .bool true ∧ S = S' := by
  refine J.back (J_by PR.mixed F.osierlaw07_awake.ok (by simp) ?_)
  simp (disch := omega) only [go_sem, ↓reduceIte, Nat.reduceEqDiff, Nat.reduceAdd, Nat.reduceMul, Nat.reduceSub, Nat.reduceLT, Nat.reduceLeDiff, Nat.reduceBEq, reduceCtorEq, Int.reduceLT, Int.reduceEq, Int.reduceLE, Int.reduceAdd, Int.reduceSub, Int.reduceToNat, Int.reduceNeg]
  refine wJ_of F.osierlaw07_made_J ?_; rintro _ _ ⟨rfl, rfl⟩
  simp (disch := omega) only [go_sem, ↓reduceIte, Nat.reduceEqDiff, Nat.reduceAdd, Nat.reduceMul, Nat.reduceSub, Nat.reduceLT, Nat.reduceLeDiff, Nat.reduceBEq, reduceCtorEq, Int.reduceLT, Int.reduceEq, Int.reduceLE, Int.reduceAdd, Int.reduceSub, Int.reduceToNat, Int.reduceNeg]
  refine walloc_O fun x S1 he1 hx0 hxn => ?_
  simp (disch := omega) only [go_sem, ↓reduceIte, Nat.reduceEqDiff, Nat.reduceAdd, Nat.reduceMul, Nat.reduceSub, Nat.reduceLT, Nat.reduceLeDiff, Nat.reduceBEq, reduceCtorEq, Int.reduceLT, Int.reduceEq, Int.reduceLE, Int.reduceAdd, Int.reduceSub, Int.reduceToNat, Int.reduceNeg]
  refine wst_op o1 nilS hx0 rfl rfl (by decide) (wrote_full _ _ rfl) fun S2 hx2 hb2 => ?_
  have g2 : S.Ext S2 := he1.but hb2 fun j hj => by simp [blkOf] at hj; omega
  have c2 := hx2.c
  simp (disch := omega) only [go_sem, ↓reduceIte, Nat.reduceEqDiff, Nat.reduceAdd, Nat.reduceMul, Nat.reduceSub, Nat.reduceLT, Nat.reduceLeDiff, Nat.reduceBEq, reduceCtorEq, Int.reduceLT, Int.reduceEq, Int.reduceLE, Int.reduceAdd, Int.reduceSub, Int.reduceToNat, Int.reduceNeg, c2]
  refine wfresh_of fun z hz => ?_
  have he3 := (St.Ext.refl S2).put hz (.cells true 1 [.int .u8 9])
  have g3 := g2.trans he3
  have hx3 := hx2.ext he3
  have c3 := hx3.c
  have hl : SlT byteE (S2.put z (.cells true 1 [.int .u8 9])) (.slice (some ⟨z, 0, none⟩) 1 1) [9] := SlT.lit byteE (xs := [(9 : Int)])
  simp (disch := omega) only [go_sem, ↓reduceIte, Nat.reduceEqDiff, Nat.reduceAdd, Nat.reduceMul, Nat.reduceSub, Nat.reduceLT, Nat.reduceLeDiff, Nat.reduceBEq, reduceCtorEq, Int.reduceLT, Int.reduceEq, Int.reduceLE, Int.reduceAdd, Int.reduceSub, Int.reduceToNat, Int.reduceNeg, c2, c3]
  refine wJ_of (F.ops_Put_J (o := o1) (dv := nilS) hl (nil_slD _) o1_may (by decide) (by decide)) ?_; rintro v4 S4 ⟨ho4, he4⟩
  have g4 := g3.trans he4
  have hx4 := hx3.ext he4
  have c4 := hx4.c
  replace ho4 : OwnT byteE S.n S4 v4 [9, 2, 2, 2, 0, 6, 2, 2, 0, 1, 1, 110] := by rw [o1_enc] at ho4; exact ho4.mono byteE g3.n
  obtain ⟨b4, cap4, hv4⟩ := (ho4.sl byteE).len byteE
  change v4 = .slice b4 12 cap4 at hv4
  subst hv4
  simp (disch := omega) only [go_sem, ↓reduceIte, Nat.reduceEqDiff, Nat.reduceAdd, Nat.reduceMul, Nat.reduceSub, Nat.reduceLT, Nat.reduceLeDiff, Nat.reduceBEq, reduceCtorEq, Int.reduceLT, Int.reduceEq, Int.reduceLE, Int.reduceAdd, Int.reduceSub, Int.reduceToNat, Int.reduceNeg, c4]
  refine walloc_O fun y S5 he5 hy0 hyn => ?_
  have g5 := g4.trans he5
  have hx5 := hx4.ext he5
  have ho5 := ho4.ext byteE he5
  have hxl := hx4.1
  simp (disch := omega) only [go_sem, ↓reduceIte, Nat.reduceEqDiff, Nat.reduceAdd, Nat.reduceMul, Nat.reduceSub, Nat.reduceLT, Nat.reduceLeDiff, Nat.reduceBEq, reduceCtorEq, Int.reduceLT, Int.reduceEq, Int.reduceLE, Int.reduceAdd, Int.reduceSub, Int.reduceToNat, Int.reduceNeg]
  refine wst_op o1 nilS hy0 rfl rfl (by decide) (wrote_full _ _ rfl) fun S6 hy6 hb6 => ?_
  have g6 : S.Ext S6 := g5.but hb6 fun j hj => by have := g4.n; simp [blkOf] at hj; omega
  have hx6 := hx5.ne hb6 (by simp [blkOf]; omega)
  have ho6 := ho5.but byteE hb6 fun j hj => by have := (ho4.blk byteE j hj).2; simp [blkOf]; omega
  simp (disch := omega) only [go_sem, ↓reduceIte, Nat.reduceEqDiff, Nat.reduceAdd, Nat.reduceMul, Nat.reduceSub, Nat.reduceLT, Nat.reduceLeDiff, Nat.reduceBEq, reduceCtorEq, Int.reduceLT, Int.reduceEq, Int.reduceLE, Int.reduceAdd, Int.reduceSub, Int.reduceToNat, Int.reduceNeg]
  refine wst_op o2 nilS hy6 rfl rfl (by decide) rfl fun S7 hy7 hb7 => ?_
  have g7 : S.Ext S7 := g6.but hb7 fun j hj => by have := g4.n; simp [blkOf] at hj; omega
  have hx7 := hx6.ne hb7 (by simp [blkOf]; omega)
  have ho7 := ho6.but byteE hb7 fun j hj => by have := (ho4.blk byteE j hj).2; simp [blkOf]; omega
  have hmin : min (1 : Int) ((12 : Nat) : Int) = 1 := by decide
  have hmin2 : min (1 : Int) 12 = 1 := by decide
  obtain ⟨u, hu, hus⟩ := (ho7.sl byteE).from byteE (l := 1) (q := .i64) (i := 1) rfl (by decide)
  replace hu : slV 1 _ _ _ _ = _ := hu
  replace hus : SlT byteE S7 u (encO o1) := by rw [o1_enc]; exact hus
  simp (disch := omega) only [go_sem, ↓reduceIte, Nat.reduceEqDiff, Nat.reduceAdd, Nat.reduceMul, Nat.reduceSub, Nat.reduceLT, Nat.reduceLeDiff, Nat.reduceBEq, reduceCtorEq, Int.reduceLT, Int.reduceEq, Int.reduceLE, Int.reduceAdd, Int.reduceSub, Int.reduceToNat, Int.reduceNeg, hmin, hmin2, hu]
  refine wJ_of (F.num_Read_J hus) ?_; rintro _ S8 ⟨q, rfl, hq, hr, he8⟩
  have g8 := g7.trans he8
  have hx8 := hx7.ext he8
  have hy8 := hy7.ext he8
  have ho8 := ho7.ext byteE he8
  simp (disch := omega) only [go_sem, ↓reduceIte, Nat.reduceEqDiff, Nat.reduceAdd, Nat.reduceMul, Nat.reduceSub, Nat.reduceLT, Nat.reduceLeDiff, Nat.reduceBEq, reduceCtorEq, Int.reduceLT, Int.reduceEq, Int.reduceLE, Int.reduceAdd, Int.reduceSub, Int.reduceToNat, Int.reduceNeg]
  refine wJ_of (F.ops_Take_J (p := (encO o1, 0)) (L := 11) hr he8.n ⟨by rw [o1_enc]; simp [isB], by simp, by rw [o1_enc]; decide⟩ (by decide)) ?_; rintro _ S9 ⟨⟨d, rfl, hod⟩, hr9, hb9⟩
  have hO := rdO_enc o1_may (by decide) []
  rw [List.append_nil] at hO
  rw [hO] at hod hr9 ⊢
  have g9 : S.Ext S9 := g8.but hb9 fun j hj => by have := g7.n; simp [blkOf] at hj; omega
  have hx9 := hx8.ne hb9 (by have := hx7.1; simp [blkOf]; omega)
  have hy9 := hy8.ne hb9 (by have := hy7.1; simp [blkOf]; omega)
  have ho9 := ho8.but byteE hb9 fun j hj => by have := (ho7.blk byteE j hj).2; simp [blkOf]; omega
  obtain ⟨bd, cd, hdv⟩ := (hod.sl dotE).len dotE
  subst hdv
  simp (disch := omega) only [go_sem, ↓reduceIte, Nat.reduceEqDiff, Nat.reduceAdd, Nat.reduceMul, Nat.reduceSub, Nat.reduceLT, Nat.reduceLeDiff, Nat.reduceBEq, reduceCtorEq, Int.reduceLT, Int.reduceEq, Int.reduceLE, Int.reduceAdd, Int.reduceSub, Int.reduceToNat, Int.reduceNeg]
  refine walloc_O fun w S10 he10 hw0 hwn => ?_
  have g10 := g9.trans he10
  simp (disch := omega) only [go_sem, ↓reduceIte, Nat.reduceEqDiff, Nat.reduceAdd, Nat.reduceMul, Nat.reduceSub, Nat.reduceLT, Nat.reduceLeDiff, Nat.reduceBEq, reduceCtorEq, Int.reduceLT, Int.reduceEq, Int.reduceLE, Int.reduceAdd, Int.reduceSub, Int.reduceToNat, Int.reduceNeg]
  refine wst_op o1 _ hw0 rfl rfl (by decide) (wrote_full _ _ rfl) fun S11 hw11 hb11 => ?_
  have g11 : S.Ext S11 := g10.but hb11 fun j hj => by have := g9.n; simp [blkOf] at hj; omega
  have hx11 := (hx9.ext he10).ne hb11 (by have := hx9.1; simp [blkOf]; omega)
  have hy11 := (hy9.ext he10).ne hb11 (by have := hy9.1; simp [blkOf]; omega)
  have ho11 := (ho9.ext byteE he10).but byteE hb11 fun j hj => by have := (ho9.blk byteE j hj).2; simp [blkOf]; omega
  have hr11 : RdT S11 q S7.n [] 0 := (hr9.but he10).keep hb11.n (hb11.obj q (by have := hr9.lt; have := he10.n; omega) (by have := hr9.lt; simp [blkOf]; omega)) fun i hi hi2 => hb11.obj i hi2 (by have := he8.n; have := hb9.n; simp [blkOf]; omega)
  have cx := hx11.c
  have cy := hy11.c
  have cw := hw11.c
  simp (disch := omega) only [go_sem, ↓reduceIte, Nat.reduceEqDiff, Nat.reduceAdd, Nat.reduceMul, Nat.reduceSub, Nat.reduceLT, Nat.reduceLeDiff, Nat.reduceBEq, reduceCtorEq, Int.reduceLT, Int.reduceEq, Int.reduceLE, Int.reduceAdd, Int.reduceSub, Int.reduceToNat, Int.reduceNeg, cx]
  refine wJ_of (F.ops_Check_J (o := o1) (dv := nilS) (nil_slD _) (by decide)) ?_; rintro _ _ ⟨rfl, rfl⟩
  simp (disch := omega) only [go_sem, ↓reduceIte, Nat.reduceEqDiff, Nat.reduceAdd, Nat.reduceMul, Nat.reduceSub, Nat.reduceLT, Nat.reduceLeDiff, Nat.reduceBEq, reduceCtorEq, Int.reduceLT, Int.reduceEq, Int.reduceLE, Int.reduceAdd, Int.reduceSub, Int.reduceToNat, Int.reduceNeg, cx, cy, o1_may]
  refine wJ_of (F.ops_Check_J (o := o2) (dv := nilS) (nil_slD _) (by decide)) ?_; rintro _ _ ⟨rfl, rfl⟩
  have htx := (ho11.sl byteE).text
  have hbe : (bytesOf [9, 2, 2, 2, 0, 6, 2, 2, 0, 1, 1, 110] == ⟨#[9, 2, 2, 2, 0, 6, 2, 2, 0, 1, 1, 110]⟩) = true := by decide +kernel
  have hke : (o1.key == ⟨#[110]⟩) = true := by decide +kernel
  have hie := (eqV_dot o1.id o1.id).trans (congrArg some (decide_eq_true rfl))
  simp (disch := omega) only [go_sem, ↓reduceIte, Nat.reduceEqDiff, Nat.reduceAdd, Nat.reduceMul, Nat.reduceSub, Nat.reduceLT, Nat.reduceLeDiff, Nat.reduceBEq, reduceCtorEq, Int.reduceLT, Int.reduceEq, Int.reduceLE, Int.reduceAdd, Int.reduceSub, Int.reduceToNat, Int.reduceNeg, cx, cy, cw, o1_may, o2_may, htx, hbe, hke, hie]
  refine wJ_of (F.num_Reader_End_J hr11) ?_; rintro _ S12 ⟨rfl, hb12⟩
  simp (disch := omega) only [go_sem, ↓reduceIte, Nat.reduceEqDiff, Nat.reduceAdd, Nat.reduceMul, Nat.reduceSub, Nat.reduceLT, Nat.reduceLeDiff, Nat.reduceBEq, reduceCtorEq, Int.reduceLT, Int.reduceEq, Int.reduceLE, Int.reduceAdd, Int.reduceSub, Int.reduceToNat, Int.reduceNeg]
  exact g11.but hb12 fun j hj => by have := g7.n; simp [blkOf] at hj; omega
end Go.Osj
