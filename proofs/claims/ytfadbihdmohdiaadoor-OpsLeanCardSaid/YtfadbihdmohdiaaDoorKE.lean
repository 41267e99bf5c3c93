/- Operations, put. -/
import Derived.Test.YtfadbihdmohdiaaDoorKC
set_option linter.unusedVariables false
set_option linter.unusedSimpArgs false
namespace Go.Osj
/-- what follows an operation's block -/
def encX (o : OpA) : List Int := if o.kind = 3 then encD o.parent ++ encT o.key else if o.kind = 2 then encD o.at_ else encD o.at_ ++ (encI o.side ++ encI o.char)
def encO (o : OpA) : List Int := encD o.id ++ (encI o.time ++ (encV o.deps ++ (encI o.kind ++ (encD o.block ++ encX o))))
instance (a : Int) : Decidable (inI a) := inferInstanceAs (Decidable (_ ∧ _))
theorem mayO_in {o : OpA} (h : mayO o) : (inI o.id.1 ∧ inI o.id.2) ∧ inI o.time ∧ inI o.kind ∧ (inI o.block.1 ∧ inI o.block.2) ∧ (inI o.at_.1 ∧ inI o.at_.2) ∧ inI o.side ∧ inI o.char ∧ (inI o.parent.1 ∧ inI o.parent.2) ∧ o.key.size ≤ 200 ∧ (o.kind = 1 ∨ o.kind = 2 ∨ o.kind = 3) := by
  obtain ⟨⟨h1, h2, h3, h4, h5⟩, h6⟩ := h
  have hid := may_inI h1
  have ht : inI o.time := by unfold inI; omega
  have hz : ∀ d : Dot, d = (0, 0) → inI d.1 ∧ inI d.2 := by rintro _ rfl; decide
  have hh : ∀ d : Dot, hasP o.deps d → inI d.1 ∧ inI d.2 := fun d h => may_inI h.1
  have hi : ∀ a : Int, 0 ≤ a → a ≤ 2000000 → inI a := fun a h1 h2 => by unfold inI; omega
  rcases h6 with ⟨hk, g1, g2, g3, g4, g5, g6, g7, g8, g9⟩ | ⟨hk, g1, g2, g3, g4, g5, g6⟩ | ⟨hk, g1, g2, g3, g4, g5, g6, g7⟩
  · have ha : inI o.at_.1 ∧ inI o.at_.2 := by
      by_cases a0 : o.at_ = (0, 0)
      · exact hz _ a0
      · exact hh _ (g2 a0)
    exact ⟨hid, ht, hi _ (by omega) (by omega), hh _ g4, ha, hi _ (by omega) (by omega), hi _ (by omega) (by omega), hz _ g8, by rw [g9]; decide, .inl hk⟩
  · exact ⟨hid, ht, hi _ (by omega) (by omega), hh _ g1, hh _ g2, hi _ (by omega) (by omega), hi _ (by omega) (by omega), hz _ g5, by rw [g6]; decide, .inr (.inl hk)⟩
  · have hb : inI o.block.1 ∧ inI o.block.2 := by
      rcases g1 with g1 | g1
      · rw [g1]; exact hid
      · exact hh _ g1
    have hp : inI o.parent.1 ∧ inI o.parent.2 := by
      rcases g2 with g2 | g2 | g2
      · rw [g2]; decide
      · rw [g2]; decide
      · exact hh _ g2
    exact ⟨hid, ht, hi _ (by omega) (by omega), hb, hz _ g5, hi _ (by omega) (by omega), hi _ (by omega) (by omega), hp, g4.1.2, .inr (.inr hk)⟩
theorem encV_len (xs : List Dot) : (encV xs).length ≤ 9 + 18 * xs.length := by
  have h := (encDs_len xs).2
  have := (sizeN_range xs.length).2
  unfold encV
  rw [List.length_append, encN_len]
  omega
theorem encT_len (s : ByteArray) : (encT s).length ≤ 9 + s.size := by
  have := (sizeN_range s.size).2
  unfold encT
  rw [List.length_append, encN_len, strL_len]
  omega
theorem encO_len {o : OpA} (h : mayO o) : (encO o).length ≤ 400 + 18 * o.deps.length := by
  have h1 := (encD_len o.id).2
  have h2 := encI_len o.time
  have h3 := encV_len o.deps
  have h4 := encI_len o.kind
  have h5 := (encD_len o.block).2
  have h6 := (encD_len o.parent).2
  have h7 := encT_len o.key
  have h8 := (encD_len o.at_).2
  have h9 := encI_len o.side
  have h10 := encI_len o.char
  have h11 := (mayO_in h).2.2.2.2.2.2.2.2.1
  unfold encO encX
  split
  · simp only [List.length_append]; omega
  · split
    · simp only [List.length_append]; omega
    · simp only [List.length_append]; omega
theorem F.ops_Put_J {S : St} {l : Value} {bs : List Int} {o : OpA} {dv : Value} (hl : SlT byteE S l bs) (hd : SlT dotE S dv o.deps) (hm : mayO o) (hL : o.deps.length < 10000) (hB : bs.length < 90000) :
    J PR F.ops_Put [l, opV o dv] S fun v S' => OwnT byteE S.n S' v (bs ++ encO o) ∧ S.Ext S' := by
  obtain ⟨i1, i2, i3, i4, i5, i6, i7, i8, i9, i10⟩ := mayO_in hm
  have h1 := (encD_len o.id).2
  have h2 := encI_len o.time
  have h3 := encV_len o.deps
  have h4 := encI_len o.kind
  have h5 := (encD_len o.block).2
  have h6 := (encD_len o.parent).2
  have h8 := (encD_len o.at_).2
  have h9 := encI_len o.side
  refine J_by PR.mixed F.ops_Put.ok (by simp) ?_
  simp (disch := omega) only [go_sem, ↓reduceIte, Nat.reduceEqDiff, Nat.reduceAdd, Nat.reduceMul, Nat.reduceSub, Nat.reduceLT, Nat.reduceLeDiff, Nat.reduceBEq, reduceCtorEq, Int.reduceLT, Int.reduceEq, Int.reduceLE, Int.reduceAdd, Int.reduceSub, Int.reduceToNat, Int.reduceNeg]
  refine wE_boxO (o := o) (dv := dv) rfl fun w S1 he1 hwb hw => ?_
  have hc1 := hwb.c
  simp (disch := omega) only [go_sem, ↓reduceIte, Nat.reduceEqDiff, Nat.reduceAdd, Nat.reduceMul, Nat.reduceSub, Nat.reduceLT, Nat.reduceLeDiff, Nat.reduceBEq, reduceCtorEq, Int.reduceLT, Int.reduceEq, Int.reduceLE, Int.reduceAdd, Int.reduceSub, Int.reduceToNat, Int.reduceNeg, hc1]
  refine wJ_of (F.dots_Put_J (d := o.id) (hl.ext byteE he1) i1.1 i1.2 (by omega)) ?_; rintro v2 S2 ⟨ho2, hf2⟩
  change OwnT byteE _ S2 v2 (bs ++ encD o.id) at ho2
  have he2 := he1.trans hf2
  have hc2 := (hwb.ext hf2).c
  simp (disch := omega) only [go_sem, ↓reduceIte, Nat.reduceEqDiff, Nat.reduceAdd, Nat.reduceMul, Nat.reduceSub, Nat.reduceLT, Nat.reduceLeDiff, Nat.reduceBEq, reduceCtorEq, Int.reduceLT, Int.reduceEq, Int.reduceLE, Int.reduceAdd, Int.reduceSub, Int.reduceToNat, Int.reduceNeg, hc2]
  refine wJ_of (F.num_Int_J (ho2.sl byteE) i2 (by simp only [List.length_append]; omega)) ?_; rintro v3 S3 ⟨ho3, hf3⟩
  have he3 := he2.trans hf3
  have hc3 := (hwb.ext (hf2.trans hf3)).c
  simp (disch := omega) only [go_sem, ↓reduceIte, Nat.reduceEqDiff, Nat.reduceAdd, Nat.reduceMul, Nat.reduceSub, Nat.reduceLT, Nat.reduceLeDiff, Nat.reduceBEq, reduceCtorEq, Int.reduceLT, Int.reduceEq, Int.reduceLE, Int.reduceAdd, Int.reduceSub, Int.reduceToNat, Int.reduceNeg, hc3]
  refine wJ_of (F.vector_Put_J (ho3.sl byteE) (hd.ext dotE he3) hm.1.2.2.2.1.2 (by simp only [List.length_append]; omega) (by omega)) ?_; rintro v4 S4 ⟨ho4, hf4⟩
  have he4 := he3.trans hf4
  have hc4 := (hwb.ext ((hf2.trans hf3).trans hf4)).c
  simp (disch := omega) only [go_sem, ↓reduceIte, Nat.reduceEqDiff, Nat.reduceAdd, Nat.reduceMul, Nat.reduceSub, Nat.reduceLT, Nat.reduceLeDiff, Nat.reduceBEq, reduceCtorEq, Int.reduceLT, Int.reduceEq, Int.reduceLE, Int.reduceAdd, Int.reduceSub, Int.reduceToNat, Int.reduceNeg, hc4]
  refine wJ_of (F.num_Int_J (ho4.sl byteE) i3 (by simp only [List.length_append]; omega)) ?_; rintro v5 S5 ⟨ho5, hf5⟩
  have he5 := he4.trans hf5
  have hc5 := (hwb.ext (((hf2.trans hf3).trans hf4).trans hf5)).c
  simp (disch := omega) only [go_sem, ↓reduceIte, Nat.reduceEqDiff, Nat.reduceAdd, Nat.reduceMul, Nat.reduceSub, Nat.reduceLT, Nat.reduceLeDiff, Nat.reduceBEq, reduceCtorEq, Int.reduceLT, Int.reduceEq, Int.reduceLE, Int.reduceAdd, Int.reduceSub, Int.reduceToNat, Int.reduceNeg, hc5]
  refine wJ_of (F.dots_Put_J (d := o.block) (ho5.sl byteE) i4.1 i4.2 (by simp only [List.length_append]; omega)) ?_; rintro v6 S6 ⟨ho6, hf6⟩
  have he6 := he5.trans hf6
  have hw6 := hwb.ext ((((hf2.trans hf3).trans hf4).trans hf5).trans hf6)
  have hc6 := hw6.c
  change OwnT byteE _ S6 v6 (_ ++ encD o.block) at ho6
  by_cases k3 : o.kind = 3
  · simp (disch := omega) only [go_sem, ↓reduceIte, Nat.reduceEqDiff, Nat.reduceAdd, Nat.reduceMul, Nat.reduceSub, Nat.reduceLT, Nat.reduceLeDiff, Nat.reduceBEq, reduceCtorEq, Int.reduceLT, Int.reduceEq, Int.reduceLE, Int.reduceAdd, Int.reduceSub, Int.reduceToNat, Int.reduceNeg, hc6, k3]
    refine wJ_of (F.dots_Put_J (d := o.parent) (ho6.sl byteE) i8.1 i8.2 (by simp only [List.length_append]; omega)) ?_; rintro v7 S7 ⟨ho7, hf7⟩
    have he7 := he6.trans hf7
    have hc7 := (hw6.ext hf7).c
    change OwnT byteE _ S7 v7 (_ ++ encD o.parent) at ho7
    simp (disch := omega) only [go_sem, ↓reduceIte, Nat.reduceEqDiff, Nat.reduceAdd, Nat.reduceMul, Nat.reduceSub, Nat.reduceLT, Nat.reduceLeDiff, Nat.reduceBEq, reduceCtorEq, Int.reduceLT, Int.reduceEq, Int.reduceLE, Int.reduceAdd, Int.reduceSub, Int.reduceToNat, Int.reduceNeg, hc7]
    refine wJ_of (F.num_Text_J (ho7.sl byteE) (by simp only [List.length_append]; omega) (by omega)) ?_; rintro v8 S8 ⟨ho8, hf8⟩
    simp (disch := omega) only [go_sem, ↓reduceIte, Nat.reduceEqDiff, Nat.reduceAdd, Nat.reduceMul, Nat.reduceSub, Nat.reduceLT, Nat.reduceLeDiff, Nat.reduceBEq, reduceCtorEq, Int.reduceLT, Int.reduceEq, Int.reduceLE, Int.reduceAdd, Int.reduceSub, Int.reduceToNat, Int.reduceNeg]
    refine ⟨?_, he7.trans hf8⟩
    have := ho8.mono byteE (B' := S.n) (he7.n)
    simpa [encO, encX, k3] using this
  by_cases k2 : o.kind = 2
  · simp (disch := omega) only [go_sem, ↓reduceIte, Nat.reduceEqDiff, Nat.reduceAdd, Nat.reduceMul, Nat.reduceSub, Nat.reduceLT, Nat.reduceLeDiff, Nat.reduceBEq, reduceCtorEq, Int.reduceLT, Int.reduceEq, Int.reduceLE, Int.reduceAdd, Int.reduceSub, Int.reduceToNat, Int.reduceNeg, hc6, k3, k2]
    refine wJ_of (F.dots_Put_J (d := o.at_) (ho6.sl byteE) i5.1 i5.2 (by simp only [List.length_append]; omega)) ?_; rintro v7 S7 ⟨ho7, hf7⟩
    change OwnT byteE _ S7 v7 (_ ++ encD o.at_) at ho7
    simp (disch := omega) only [go_sem, ↓reduceIte, Nat.reduceEqDiff, Nat.reduceAdd, Nat.reduceMul, Nat.reduceSub, Nat.reduceLT, Nat.reduceLeDiff, Nat.reduceBEq, reduceCtorEq, Int.reduceLT, Int.reduceEq, Int.reduceLE, Int.reduceAdd, Int.reduceSub, Int.reduceToNat, Int.reduceNeg]
    refine ⟨?_, he6.trans hf7⟩
    have := ho7.mono byteE (B' := S.n) (he6.n)
    simpa [encO, encX, k3, k2] using this
  simp (disch := omega) only [go_sem, ↓reduceIte, Nat.reduceEqDiff, Nat.reduceAdd, Nat.reduceMul, Nat.reduceSub, Nat.reduceLT, Nat.reduceLeDiff, Nat.reduceBEq, reduceCtorEq, Int.reduceLT, Int.reduceEq, Int.reduceLE, Int.reduceAdd, Int.reduceSub, Int.reduceToNat, Int.reduceNeg, hc6, k3, k2]
  refine wJ_of (F.dots_Put_J (d := o.at_) (ho6.sl byteE) i5.1 i5.2 (by simp only [List.length_append]; omega)) ?_; rintro v7 S7 ⟨ho7, hf7⟩
  have he7 := he6.trans hf7
  have hc7 := (hw6.ext hf7).c
  change OwnT byteE _ S7 v7 (_ ++ encD o.at_) at ho7
  simp (disch := omega) only [go_sem, ↓reduceIte, Nat.reduceEqDiff, Nat.reduceAdd, Nat.reduceMul, Nat.reduceSub, Nat.reduceLT, Nat.reduceLeDiff, Nat.reduceBEq, reduceCtorEq, Int.reduceLT, Int.reduceEq, Int.reduceLE, Int.reduceAdd, Int.reduceSub, Int.reduceToNat, Int.reduceNeg, hc7]
  refine wJ_of (F.num_Int_J (ho7.sl byteE) i6 (by simp only [List.length_append]; omega)) ?_; rintro v8 S8 ⟨ho8, hf8⟩
  have he8 := he7.trans hf8
  have hc8 := (hw6.ext (hf7.trans hf8)).c
  simp (disch := omega) only [go_sem, ↓reduceIte, Nat.reduceEqDiff, Nat.reduceAdd, Nat.reduceMul, Nat.reduceSub, Nat.reduceLT, Nat.reduceLeDiff, Nat.reduceBEq, reduceCtorEq, Int.reduceLT, Int.reduceEq, Int.reduceLE, Int.reduceAdd, Int.reduceSub, Int.reduceToNat, Int.reduceNeg, hc8]
  refine wJ_of (F.num_Int_J (ho8.sl byteE) i7 (by simp only [List.length_append]; omega)) ?_; rintro v9 S9 ⟨ho9, hf9⟩
  simp (disch := omega) only [go_sem, ↓reduceIte, Nat.reduceEqDiff, Nat.reduceAdd, Nat.reduceMul, Nat.reduceSub, Nat.reduceLT, Nat.reduceLeDiff, Nat.reduceBEq, reduceCtorEq, Int.reduceLT, Int.reduceEq, Int.reduceLE, Int.reduceAdd, Int.reduceSub, Int.reduceToNat, Int.reduceNeg]
  refine ⟨?_, he8.trans hf9⟩
  have := ho9.mono byteE (B' := S.n) (he8.n)
  simpa [encO, encX, k3, k2] using this
theorem opB.but {S S' : St} {u : Value} {w B : Nat} {o : OpA} {d : Value} (h : opB S w o d) (hb : St.But u S S') (hu : ∀ j, blkOf u = some j → B ≤ j) (hB : w < B) : opB S' w o d :=
  ⟨Nat.lt_of_lt_of_le h.1 hb.n, (hb.obj w h.1 (fun e => by have := hu w e; omega)).trans h.2⟩
theorem F.osierref07_Put_J {S : St} {o : OpA} {dv : Value} (hd : SlT dotE S dv o.deps) (hm : mayO o) (hL : o.deps.length < 10000) :
    J PR F.osierref07_Put [opV o dv] S fun v S' => OwnT byteE S.n S' v (encO o) ∧ S.Ext S' := by
  obtain ⟨i1, i2, i3, i4, i5, i6, i7, i8, i9, i10⟩ := mayO_in hm
  have h1 := (encD_len o.id).2
  have h2 := encI_len o.time
  have h3 := encV_len o.deps
  have h4 := encI_len o.kind
  have h5 := (encD_len o.block).2
  have h6 := (encD_len o.parent).2
  have h7 := encT_len o.key
  have h8 := (encD_len o.at_).2
  have h9 := encI_len o.side
  have h10 := encI_len o.char
  refine J_by PR.mixed F.osierref07_Put.ok (by simp) ?_
  simp (disch := omega) only [go_sem, ↓reduceIte, Nat.reduceEqDiff, Nat.reduceAdd, Nat.reduceMul, Nat.reduceSub, Nat.reduceLT, Nat.reduceLeDiff, Nat.reduceBEq, reduceCtorEq, Int.reduceLT, Int.reduceEq, Int.reduceLE, Int.reduceAdd, Int.reduceSub, Int.reduceToNat, Int.reduceNeg]
  refine wE_boxO (o := o) (dv := dv) rfl fun w S1 he1 hwb hw => ?_
  have hc1 := hwb.c
  have hwn := hwb.1
  simp (disch := omega) only [go_sem, ↓reduceIte, Nat.reduceEqDiff, Nat.reduceAdd, Nat.reduceMul, Nat.reduceSub, Nat.reduceLT, Nat.reduceLeDiff, Nat.reduceBEq, reduceCtorEq, Int.reduceLT, Int.reduceEq, Int.reduceLE, Int.reduceAdd, Int.reduceSub, Int.reduceToNat, Int.reduceNeg, hc1]
  refine wJ_of (F.osierref03_Put_J (d := o.id) i1.1 i1.2) ?_; rintro v2 S2 ⟨ho2, hg2⟩
  change OwnT byteE _ S2 v2 (encD o.id) at ho2
  have hw2 := hwb.ext hg2
  have hc2 := hw2.c
  simp (disch := omega) only [go_sem, ↓reduceIte, Nat.reduceEqDiff, Nat.reduceAdd, Nat.reduceMul, Nat.reduceSub, Nat.reduceLT, Nat.reduceLeDiff, Nat.reduceBEq, reduceCtorEq, Int.reduceLT, Int.reduceEq, Int.reduceLE, Int.reduceAdd, Int.reduceSub, Int.reduceToNat, Int.reduceNeg, hc2]
  refine wJ_of (F.osierref01_Int_J i2) ?_; rintro v3 S3 ⟨ho3, hf3⟩
  change OwnT byteE _ S3 v3 (encI o.time) at ho3
  have hg3 := hg2.trans hf3
  simp (disch := omega) only [go_sem, ↓reduceIte, Nat.reduceEqDiff, Nat.reduceAdd, Nat.reduceMul, Nat.reduceSub, Nat.reduceLT, Nat.reduceLeDiff, Nat.reduceBEq, reduceCtorEq, Int.reduceLT, Int.reduceEq, Int.reduceLE, Int.reduceAdd, Int.reduceSub, Int.reduceToNat, Int.reduceNeg]
  refine wE_app byteE (ys := encI o.time) (ho2.ext byteE hf3) (ho3.sl byteE) rfl rfl hg3.n (by first | omega | (simp only [List.length_append]; omega)) (by first | omega | (simp only [List.length_append]; omega)) fun v4 S4 ho4 hb4 hv4 => ?_
  have hg4 := hg3.but hb4 (ho2.fresh byteE)
  have hw4 := (hw2.ext hf3).but hb4 (ho2.fresh byteE) hwn
  have hc4 := hw4.c
  simp (disch := omega) only [go_sem, ↓reduceIte, Nat.reduceEqDiff, Nat.reduceAdd, Nat.reduceMul, Nat.reduceSub, Nat.reduceLT, Nat.reduceLeDiff, Nat.reduceBEq, reduceCtorEq, Int.reduceLT, Int.reduceEq, Int.reduceLE, Int.reduceAdd, Int.reduceSub, Int.reduceToNat, Int.reduceNeg, hc4]
  refine wJ_of (F.osierref04_Put_J (hd.ext dotE (he1.trans hg4)) hm.1.2.2.2.1.2 (by omega)) ?_; rintro v5 S5 ⟨ho5, hf5⟩
  change OwnT byteE _ S5 v5 (encV o.deps) at ho5
  have hg5 := hg4.trans hf5
  simp (disch := omega) only [go_sem, ↓reduceIte, Nat.reduceEqDiff, Nat.reduceAdd, Nat.reduceMul, Nat.reduceSub, Nat.reduceLT, Nat.reduceLeDiff, Nat.reduceBEq, reduceCtorEq, Int.reduceLT, Int.reduceEq, Int.reduceLE, Int.reduceAdd, Int.reduceSub, Int.reduceToNat, Int.reduceNeg]
  refine wE_app byteE (ys := encV o.deps) (ho4.ext byteE hf5) (ho5.sl byteE) rfl rfl hg5.n (by first | omega | (simp only [List.length_append]; omega)) (by first | omega | (simp only [List.length_append]; omega)) fun v6 S6 ho6 hb6 hv6 => ?_
  have hg6 := hg5.but hb6 (ho4.fresh byteE)
  have hw6 := (hw4.ext hf5).but hb6 (ho4.fresh byteE) hwn
  have hc6 := hw6.c
  simp (disch := omega) only [go_sem, ↓reduceIte, Nat.reduceEqDiff, Nat.reduceAdd, Nat.reduceMul, Nat.reduceSub, Nat.reduceLT, Nat.reduceLeDiff, Nat.reduceBEq, reduceCtorEq, Int.reduceLT, Int.reduceEq, Int.reduceLE, Int.reduceAdd, Int.reduceSub, Int.reduceToNat, Int.reduceNeg, hc6]
  refine wJ_of (F.osierref01_Int_J i3) ?_; rintro v7 S7 ⟨ho7, hf7⟩
  change OwnT byteE _ S7 v7 (encI o.kind) at ho7
  have hg7 := hg6.trans hf7
  simp (disch := omega) only [go_sem, ↓reduceIte, Nat.reduceEqDiff, Nat.reduceAdd, Nat.reduceMul, Nat.reduceSub, Nat.reduceLT, Nat.reduceLeDiff, Nat.reduceBEq, reduceCtorEq, Int.reduceLT, Int.reduceEq, Int.reduceLE, Int.reduceAdd, Int.reduceSub, Int.reduceToNat, Int.reduceNeg]
  refine wE_app byteE (ys := encI o.kind) (ho6.ext byteE hf7) (ho7.sl byteE) rfl rfl hg7.n (by first | omega | (simp only [List.length_append]; omega)) (by first | omega | (simp only [List.length_append]; omega)) fun v8 S8 ho8 hb8 hv8 => ?_
  have hg8 := hg7.but hb8 (ho6.fresh byteE)
  have hw8 := (hw6.ext hf7).but hb8 (ho6.fresh byteE) hwn
  have hc8 := hw8.c
  simp (disch := omega) only [go_sem, ↓reduceIte, Nat.reduceEqDiff, Nat.reduceAdd, Nat.reduceMul, Nat.reduceSub, Nat.reduceLT, Nat.reduceLeDiff, Nat.reduceBEq, reduceCtorEq, Int.reduceLT, Int.reduceEq, Int.reduceLE, Int.reduceAdd, Int.reduceSub, Int.reduceToNat, Int.reduceNeg, hc8]
  refine wJ_of (F.osierref03_Put_J (d := o.block) i4.1 i4.2) ?_; rintro v9 S9 ⟨ho9, hf9⟩
  change OwnT byteE _ S9 v9 (encD o.block) at ho9
  have hg9 := hg8.trans hf9
  simp (disch := omega) only [go_sem, ↓reduceIte, Nat.reduceEqDiff, Nat.reduceAdd, Nat.reduceMul, Nat.reduceSub, Nat.reduceLT, Nat.reduceLeDiff, Nat.reduceBEq, reduceCtorEq, Int.reduceLT, Int.reduceEq, Int.reduceLE, Int.reduceAdd, Int.reduceSub, Int.reduceToNat, Int.reduceNeg]
  refine wE_app byteE (ys := encD o.block) (ho8.ext byteE hf9) (ho9.sl byteE) rfl rfl hg9.n (by first | omega | (simp only [List.length_append]; omega)) (by first | omega | (simp only [List.length_append]; omega)) fun v10 S10 ho10 hb10 hv10 => ?_
  have hg10 := hg9.but hb10 (ho8.fresh byteE)
  have hw10 := (hw8.ext hf9).but hb10 (ho8.fresh byteE) hwn
  have hc10 := hw10.c
  by_cases k1 : o.kind = 1
  · simp (disch := omega) only [go_sem, ↓reduceIte, Nat.reduceEqDiff, Nat.reduceAdd, Nat.reduceMul, Nat.reduceSub, Nat.reduceLT, Nat.reduceLeDiff, Nat.reduceBEq, reduceCtorEq, Int.reduceLT, Int.reduceEq, Int.reduceLE, Int.reduceAdd, Int.reduceSub, Int.reduceToNat, Int.reduceNeg, hc10, k1]
    refine wJ_of (F.osierref03_Put_J (d := o.at_) i5.1 i5.2) ?_; rintro v11 S11 ⟨ho11, hf11⟩
    change OwnT byteE _ S11 v11 (encD o.at_) at ho11
    have hg11 := hg10.trans hf11
    simp (disch := omega) only [go_sem, ↓reduceIte, Nat.reduceEqDiff, Nat.reduceAdd, Nat.reduceMul, Nat.reduceSub, Nat.reduceLT, Nat.reduceLeDiff, Nat.reduceBEq, reduceCtorEq, Int.reduceLT, Int.reduceEq, Int.reduceLE, Int.reduceAdd, Int.reduceSub, Int.reduceToNat, Int.reduceNeg]
    refine wE_app byteE (ys := encD o.at_) (ho10.ext byteE hf11) (ho11.sl byteE) rfl rfl hg11.n (by first | omega | (simp only [List.length_append]; omega)) (by first | omega | (simp only [List.length_append]; omega)) fun v12 S12 ho12 hb12 hv12 => ?_
    have hg12 := hg11.but hb12 (ho10.fresh byteE)
    have hw12 := (hw10.ext hf11).but hb12 (ho10.fresh byteE) hwn
    have hc12 := hw12.c
    simp (disch := omega) only [go_sem, ↓reduceIte, Nat.reduceEqDiff, Nat.reduceAdd, Nat.reduceMul, Nat.reduceSub, Nat.reduceLT, Nat.reduceLeDiff, Nat.reduceBEq, reduceCtorEq, Int.reduceLT, Int.reduceEq, Int.reduceLE, Int.reduceAdd, Int.reduceSub, Int.reduceToNat, Int.reduceNeg, hc12]
    refine wJ_of (F.osierref01_Int_J i6) ?_; rintro v13 S13 ⟨ho13, hf13⟩
    change OwnT byteE _ S13 v13 (encI o.side) at ho13
    have hg13 := hg12.trans hf13
    simp (disch := omega) only [go_sem, ↓reduceIte, Nat.reduceEqDiff, Nat.reduceAdd, Nat.reduceMul, Nat.reduceSub, Nat.reduceLT, Nat.reduceLeDiff, Nat.reduceBEq, reduceCtorEq, Int.reduceLT, Int.reduceEq, Int.reduceLE, Int.reduceAdd, Int.reduceSub, Int.reduceToNat, Int.reduceNeg]
    refine wE_app byteE (ys := encI o.side) (ho12.ext byteE hf13) (ho13.sl byteE) rfl rfl hg13.n (by first | omega | (simp only [List.length_append]; omega)) (by first | omega | (simp only [List.length_append]; omega)) fun v14 S14 ho14 hb14 hv14 => ?_
    have hg14 := hg13.but hb14 (ho12.fresh byteE)
    have hw14 := (hw12.ext hf13).but hb14 (ho12.fresh byteE) hwn
    have hc14 := hw14.c
    simp (disch := omega) only [go_sem, ↓reduceIte, Nat.reduceEqDiff, Nat.reduceAdd, Nat.reduceMul, Nat.reduceSub, Nat.reduceLT, Nat.reduceLeDiff, Nat.reduceBEq, reduceCtorEq, Int.reduceLT, Int.reduceEq, Int.reduceLE, Int.reduceAdd, Int.reduceSub, Int.reduceToNat, Int.reduceNeg, hc14]
    refine wJ_of (F.osierref01_Int_J i7) ?_; rintro v15 S15 ⟨ho15, hf15⟩
    change OwnT byteE _ S15 v15 (encI o.char) at ho15
    have hg15 := hg14.trans hf15
    simp (disch := omega) only [go_sem, ↓reduceIte, Nat.reduceEqDiff, Nat.reduceAdd, Nat.reduceMul, Nat.reduceSub, Nat.reduceLT, Nat.reduceLeDiff, Nat.reduceBEq, reduceCtorEq, Int.reduceLT, Int.reduceEq, Int.reduceLE, Int.reduceAdd, Int.reduceSub, Int.reduceToNat, Int.reduceNeg]
    refine wE_app byteE (ys := encI o.char) (ho14.ext byteE hf15) (ho15.sl byteE) rfl rfl hg15.n (by first | omega | (simp only [List.length_append]; omega)) (by first | omega | (simp only [List.length_append]; omega)) fun v16 S16 ho16 hb16 hv16 => ?_
    have hg16 := hg15.but hb16 (ho14.fresh byteE)
    have hw16 := (hw14.ext hf15).but hb16 (ho14.fresh byteE) hwn
    have hc16 := hw16.c
    simp (disch := omega) only [go_sem, ↓reduceIte, Nat.reduceEqDiff, Nat.reduceAdd, Nat.reduceMul, Nat.reduceSub, Nat.reduceLT, Nat.reduceLeDiff, Nat.reduceBEq, reduceCtorEq, Int.reduceLT, Int.reduceEq, Int.reduceLE, Int.reduceAdd, Int.reduceSub, Int.reduceToNat, Int.reduceNeg]
    refine ⟨?_, he1.trans hg16⟩
    have := ho16.mono byteE (B' := S.n) he1.n
    simpa [encO, encX, k1] using this
  by_cases k2 : o.kind = 2
  · simp (disch := omega) only [go_sem, ↓reduceIte, Nat.reduceEqDiff, Nat.reduceAdd, Nat.reduceMul, Nat.reduceSub, Nat.reduceLT, Nat.reduceLeDiff, Nat.reduceBEq, reduceCtorEq, Int.reduceLT, Int.reduceEq, Int.reduceLE, Int.reduceAdd, Int.reduceSub, Int.reduceToNat, Int.reduceNeg, hc10, k1, k2]
    refine wJ_of (F.osierref03_Put_J (d := o.at_) i5.1 i5.2) ?_; rintro v11 S11 ⟨ho11, hf11⟩
    change OwnT byteE _ S11 v11 (encD o.at_) at ho11
    have hg11 := hg10.trans hf11
    simp (disch := omega) only [go_sem, ↓reduceIte, Nat.reduceEqDiff, Nat.reduceAdd, Nat.reduceMul, Nat.reduceSub, Nat.reduceLT, Nat.reduceLeDiff, Nat.reduceBEq, reduceCtorEq, Int.reduceLT, Int.reduceEq, Int.reduceLE, Int.reduceAdd, Int.reduceSub, Int.reduceToNat, Int.reduceNeg]
    refine wE_app byteE (ys := encD o.at_) (ho10.ext byteE hf11) (ho11.sl byteE) rfl rfl hg11.n (by first | omega | (simp only [List.length_append]; omega)) (by first | omega | (simp only [List.length_append]; omega)) fun v12 S12 ho12 hb12 hv12 => ?_
    have hg12 := hg11.but hb12 (ho10.fresh byteE)
    have hw12 := (hw10.ext hf11).but hb12 (ho10.fresh byteE) hwn
    have hc12 := hw12.c
    simp (disch := omega) only [go_sem, ↓reduceIte, Nat.reduceEqDiff, Nat.reduceAdd, Nat.reduceMul, Nat.reduceSub, Nat.reduceLT, Nat.reduceLeDiff, Nat.reduceBEq, reduceCtorEq, Int.reduceLT, Int.reduceEq, Int.reduceLE, Int.reduceAdd, Int.reduceSub, Int.reduceToNat, Int.reduceNeg]
    refine ⟨?_, he1.trans hg12⟩
    have := ho12.mono byteE (B' := S.n) he1.n
    simpa [encO, encX, k2] using this
  have k3 : o.kind = 3 := by omega
  simp (disch := omega) only [go_sem, ↓reduceIte, Nat.reduceEqDiff, Nat.reduceAdd, Nat.reduceMul, Nat.reduceSub, Nat.reduceLT, Nat.reduceLeDiff, Nat.reduceBEq, reduceCtorEq, Int.reduceLT, Int.reduceEq, Int.reduceLE, Int.reduceAdd, Int.reduceSub, Int.reduceToNat, Int.reduceNeg, hc10, k1, k2, k3]
  refine wJ_of (F.osierref03_Put_J (d := o.parent) i8.1 i8.2) ?_; rintro v11 S11 ⟨ho11, hf11⟩
  change OwnT byteE _ S11 v11 (encD o.parent) at ho11
  have hg11 := hg10.trans hf11
  simp (disch := omega) only [go_sem, ↓reduceIte, Nat.reduceEqDiff, Nat.reduceAdd, Nat.reduceMul, Nat.reduceSub, Nat.reduceLT, Nat.reduceLeDiff, Nat.reduceBEq, reduceCtorEq, Int.reduceLT, Int.reduceEq, Int.reduceLE, Int.reduceAdd, Int.reduceSub, Int.reduceToNat, Int.reduceNeg]
  refine wE_app byteE (ys := encD o.parent) (ho10.ext byteE hf11) (ho11.sl byteE) rfl rfl hg11.n (by first | omega | (simp only [List.length_append]; omega)) (by first | omega | (simp only [List.length_append]; omega)) fun v12 S12 ho12 hb12 hv12 => ?_
  have hg12 := hg11.but hb12 (ho10.fresh byteE)
  have hw12 := (hw10.ext hf11).but hb12 (ho10.fresh byteE) hwn
  have hc12 := hw12.c
  simp (disch := omega) only [go_sem, ↓reduceIte, Nat.reduceEqDiff, Nat.reduceAdd, Nat.reduceMul, Nat.reduceSub, Nat.reduceLT, Nat.reduceLeDiff, Nat.reduceBEq, reduceCtorEq, Int.reduceLT, Int.reduceEq, Int.reduceLE, Int.reduceAdd, Int.reduceSub, Int.reduceToNat, Int.reduceNeg, hc12]
  refine wJ_of (F.osierref01_Text_J (by omega)) ?_; rintro v13 S13 ⟨ho13, hf13⟩
  change OwnT byteE _ S13 v13 (encT o.key) at ho13
  have hg13 := hg12.trans hf13
  simp (disch := omega) only [go_sem, ↓reduceIte, Nat.reduceEqDiff, Nat.reduceAdd, Nat.reduceMul, Nat.reduceSub, Nat.reduceLT, Nat.reduceLeDiff, Nat.reduceBEq, reduceCtorEq, Int.reduceLT, Int.reduceEq, Int.reduceLE, Int.reduceAdd, Int.reduceSub, Int.reduceToNat, Int.reduceNeg]
  refine wE_app byteE (ys := encT o.key) (ho12.ext byteE hf13) (ho13.sl byteE) rfl rfl hg13.n (by first | omega | (simp only [List.length_append]; omega)) (by first | omega | (simp only [List.length_append]; omega)) fun v14 S14 ho14 hb14 hv14 => ?_
  have hg14 := hg13.but hb14 (ho12.fresh byteE)
  have hw14 := (hw12.ext hf13).but hb14 (ho12.fresh byteE) hwn
  have hc14 := hw14.c
  simp (disch := omega) only [go_sem, ↓reduceIte, Nat.reduceEqDiff, Nat.reduceAdd, Nat.reduceMul, Nat.reduceSub, Nat.reduceLT, Nat.reduceLeDiff, Nat.reduceBEq, reduceCtorEq, Int.reduceLT, Int.reduceEq, Int.reduceLE, Int.reduceAdd, Int.reduceSub, Int.reduceToNat, Int.reduceNeg]
  refine ⟨?_, he1.trans hg14⟩
  have := ho14.mono byteE (B' := S.n) he1.n
  simpa [encO, encX, k3] using this
end Go.Osj
