/- Contracts of layer 1: readers. -/
import Derived.Test.YtnofakkcipcphaaB
set_option linter.unusedSimpArgs false
namespace Go.Osj
/-- a reader: what is left, the error -/
def RdT (S : St) (q B : Nat) (bs : List Int) (e : Int) : Prop := ∃ v, S.obj q = some (.cells true 2 [v, .int .i64 e]) ∧ q < S.n ∧ SlT byteE S v bs ∧ (bs ≠ [] → blkOf v ≠ some q ∧ ∀ j, blkOf v = some j → j < B)
abbrev ptrV (q : Nat) : Value := .pointer (some ⟨q, 0, none⟩)
theorem RdT.lt {S : St} {q B : Nat} {bs : List Int} {e : Int} (h : RdT S q B bs e) : q < S.n := let ⟨_, _, h, _⟩ := h; h
theorem RdT.cell1 {S : St} {q B : Nat} {bs : List Int} {e : Int} (h : RdT S q B bs e) : S.cell ⟨q, 1, none⟩ = some (.int .i64 e) := by
  obtain ⟨v, ho, -⟩ := h
  rw [St.cell_def, ho]
  rfl
theorem RdT.cell0 {S : St} {q B : Nat} {bs : List Int} {e : Int} (h : RdT S q B bs e) : ∃ v, S.cell ⟨q, 0, none⟩ = some v ∧ True ∧ SlT byteE S v bs ∧ True := by
  obtain ⟨v, ho, -, hs, -⟩ := h
  exact ⟨v, by rw [St.cell_def, ho]; rfl, trivial, hs, trivial⟩
theorem RdT.keep {S S' : St} {q B : Nat} {bs : List Int} {e : Int} (h : RdT S q B bs e) (hn : S.n ≤ S'.n) (hq : S'.obj q = S.obj q) (ho : ∀ i, i < B → i < S.n → S'.obj i = S.obj i) : RdT S' q B bs e := by
  obtain ⟨v, h1, h2, ⟨base, cap, rfl, g1, g2, g3⟩, h4⟩ := h
  refine ⟨_, by rw [hq]; exact h1, by omega, ⟨base, cap, rfl, g1, g2, fun hne => ?_⟩, h4⟩
  obtain ⟨b, off, rfl, hb2, hl⟩ := g3 hne
  refine ⟨b, off, rfl, by omega, ?_⟩
  rw [St.loadN_def, ho b ((h4 hne).2 b rfl) hb2, ← St.loadN_def]
  exact hl
theorem but_put (S : St) (q : Nat) (o : AObj) : St.But (ptrV q) S (S.put q o) := ⟨by rw [St.put_n]; omega, fun i _ hn => St.put_other _ _ _ (by rintro rfl; exact hn rfl)⟩
theorem SlT.blk_but {S S' : St} {q : Nat} {v : Value} {bs : List Int} (h : SlT byteE S v bs) (hv : bs ≠ [] → blkOf v ≠ some q) (hb : St.But (ptrV q) S S') : SlT byteE S' v bs := by
  obtain ⟨base, cap, rfl, h1, h2, h3⟩ := h
  refine ⟨base, cap, rfl, h1, h2, fun hne => ?_⟩
  obtain ⟨b, off, rfl, hb2, hl⟩ := h3 hne
  refine ⟨b, off, rfl, by have := hb.n; omega, ?_⟩
  rw [St.loadN_def, hb.obj b hb2 (fun e => hv hne (by simpa [blkOf] using e.symm)), ← St.loadN_def]
  exact hl
theorem slV_blk {esz : Nat} {v u : Value} {lo hi : Option Value} (h : slV esz v lo hi none = some u) : blkOf u = blkOf v := by
  cases v <;> simp only [slV] at h <;> try (simp at h; done)
  rename_i base len cap
  cases base with
  | none =>
    simp only at h
    split at h
    · simp only [Option.bind_eq_some_iff, Option.map_eq_some_iff] at h
      obtain ⟨m, _, h, _, l, _, rfl⟩ := h
      rfl
    · simp at h
  | some a =>
    simp only [Option.bind_eq_some_iff] at h
    obtain ⟨m, _, h, _, l, _, hh⟩ := h
    split at hh
    · simp at hh; subst hh; rfl
    · split at hh
      · simp at hh; subst hh; rfl
      · simp at hh
theorem slV_cells {esz : Nat} {v u : Value} {lo hi : Option Value} (h : slV esz v lo hi none = some u) : u.cells = #[u] := by
  cases v <;> simp only [slV] at h <;> try (simp at h; done)
  rename_i base len cap
  cases base with
  | none =>
    simp only at h
    split at h
    · simp only [Option.bind_eq_some_iff, Option.map_eq_some_iff] at h
      obtain ⟨m, _, h, _, l, _, rfl⟩ := h
      rfl
    · simp at h
  | some a =>
    simp only [Option.bind_eq_some_iff] at h
    obtain ⟨m, _, h, _, l, _, hh⟩ := h
    split at hh
    · simp at hh; subst hh; rfl
    · split at hh
      · simp at hh; subst hh; rfl
      · simp at hh
theorem RdT.set {S : St} {q B : Nat} {v : Value} {bs : List Int} {e : Int} (hs : SlT byteE S v bs) (hv : bs ≠ [] → blkOf v ≠ some q ∧ ∀ j, blkOf v = some j → j < B) : RdT (S.put q (.cells true 2 [v, .int .i64 e])) q B bs e :=
  ⟨v, St.put_same _ _ _, St.lt_put_self _ _ _, hs.blk_but (fun h => (hv h).1) (but_put ..), hv⟩
theorem RdT.but {S S' : St} {q B : Nat} {bs : List Int} {e : Int} (h : RdT S q B bs e) (he : S.Ext S') : RdT S' q B bs e := by
  obtain ⟨v, h1, h2, h3, h4⟩ := h
  exact ⟨v, by rw [he.obj q h2]; exact h1, by have := he.n; omega, h3.ext byteE he, h4⟩
theorem but_refl (v : Value) (S : St) : St.But v S S := ⟨Nat.le_refl _, fun _ _ _ => rfl⟩
theorem St.But.trans {v : Value} {S S1 S2 : St} (h1 : St.But v S S1) (h2 : St.But v S1 S2) : St.But v S S2 :=
  ⟨Nat.le_trans h1.n h2.n, fun i hi hn => (h2.obj i (by have := h1.n; omega) hn).trans (h1.obj i hi hn)⟩
theorem St.Ext.toBut {v : Value} {S S' : St} (h : S.Ext S') : St.But v S S' := ⟨h.n, fun i hi _ => h.obj i hi⟩
theorem nil_sl (S : St) : SlT byteE S (.slice none 0 0) [] := (OwnT.nil byteE 0 S).sl byteE
theorem F.num_Reader_Fail_J {S : St} {q B : Nat} {bs : List Int} {e x : Int} (h : RdT S q B bs e) (hx : x ≠ 0) :
    J PR F.num_Reader_Fail [ptrV q, .int .i64 x] S fun v S' => v = .tuple #[] ∧ RdT S' q B (if e = 0 then [] else bs) (if e = 0 then x else e) ∧ St.But (ptrV q) S S' := by
  have hr := h
  obtain ⟨v, ho, hq, hs, hv⟩ := h
  obtain ⟨base, cap, rfl⟩ := hs.len byteE
  have c0 : S.cell ⟨q, 0, none⟩ = some (.slice base bs.length cap) := by rw [St.cell_def, ho]; rfl
  have c1 : S.cell ⟨q, 1, none⟩ = some (.int .i64 e) := by rw [St.cell_def, ho]; rfl
  refine J_by PR.mixed F.num_Reader_Fail.ok (by simp) ?_
  by_cases he : e = 0
  · subst he
    simp (disch := omega) only [go_sem, ↓reduceIte, Nat.reduceEqDiff, Nat.reduceAdd, Nat.reduceMul, Nat.reduceSub, Nat.reduceLT, Nat.reduceLeDiff, Nat.reduceBEq, Nat.reduceLeDiff, reduceCtorEq, Int.reduceLT, Int.reduceEq, Int.reduceLE, Int.reduceAdd, Int.reduceSub, Int.reduceToNat, Int.reduceNeg, Int.toNat_natCast, beq_self_eq_true, wrap64, undef, Nat.zero_add, Nat.add_zero, Int.zero_add, Int.add_zero, Int.sub_zero, St.loadN_other, St.cell_other, eqN, Option.isNone_none, c0, c1, hx]
    refine wst_of ho rfl rfl (by simp) (by simp) ?_
    simp (disch := omega) only [go_sem, ↓reduceIte, Nat.reduceEqDiff, Nat.reduceAdd, Nat.reduceMul, Nat.reduceSub, Nat.reduceLT, Nat.reduceLeDiff, Nat.reduceBEq, Nat.reduceLeDiff, reduceCtorEq, Int.reduceLT, Int.reduceEq, Int.reduceLE, Int.reduceAdd, Int.reduceSub, Int.reduceToNat, Int.reduceNeg, Int.toNat_natCast, beq_self_eq_true, wrap64, undef, Nat.zero_add, Nat.add_zero, Int.zero_add, Int.add_zero, Int.sub_zero, St.loadN_other, St.cell_other]
    refine ⟨RdT.set (nil_sl S) (by simp), but_put ..⟩
  · simp (disch := omega) only [go_sem, ↓reduceIte, Nat.reduceEqDiff, Nat.reduceAdd, Nat.reduceMul, Nat.reduceSub, Nat.reduceLT, Nat.reduceLeDiff, Nat.reduceBEq, Nat.reduceLeDiff, reduceCtorEq, Int.reduceLT, Int.reduceEq, Int.reduceLE, Int.reduceAdd, Int.reduceSub, Int.reduceToNat, Int.reduceNeg, Int.toNat_natCast, beq_self_eq_true, wrap64, undef, Nat.zero_add, Nat.add_zero, Int.zero_add, Int.add_zero, Int.sub_zero, St.loadN_other, St.cell_other, eqN, Option.isNone_none, c0, c1, he]
    exact ⟨hr, but_refl ..⟩
theorem F.osierref01_R_Fail_J {S : St} {q B : Nat} {bs : List Int} {e x : Int} (h : RdT S q B bs e) (hx : x ≠ 0) :
    J PR F.osierref01_R_Fail [ptrV q, .int .i64 x] S fun v S' => v = .tuple #[] ∧ RdT S' q B (if e = 0 then [] else bs) (if e = 0 then x else e) ∧ St.But (ptrV q) S S' := by
  have hr := h
  obtain ⟨v, ho, hq, hs, hv⟩ := h
  obtain ⟨base, cap, rfl⟩ := hs.len byteE
  have c0 : S.cell ⟨q, 0, none⟩ = some (.slice base bs.length cap) := by rw [St.cell_def, ho]; rfl
  have c1 : S.cell ⟨q, 1, none⟩ = some (.int .i64 e) := by rw [St.cell_def, ho]; rfl
  refine J_by PR.mixed F.osierref01_R_Fail.ok (by simp) ?_
  by_cases he : e = 0
  · subst he
    simp (disch := omega) only [go_sem, ↓reduceIte, Nat.reduceEqDiff, Nat.reduceAdd, Nat.reduceMul, Nat.reduceSub, Nat.reduceLT, Nat.reduceLeDiff, Nat.reduceBEq, Nat.reduceLeDiff, reduceCtorEq, Int.reduceLT, Int.reduceEq, Int.reduceLE, Int.reduceAdd, Int.reduceSub, Int.reduceToNat, Int.reduceNeg, Int.toNat_natCast, beq_self_eq_true, wrap64, undef, Nat.zero_add, Nat.add_zero, Int.zero_add, Int.add_zero, Int.sub_zero, St.loadN_other, St.cell_other, eqN, Option.isNone_none, c0, c1, hx]
    refine wst_of ho rfl rfl (by simp) (by simp) ?_
    simp (disch := omega) only [go_sem, ↓reduceIte, Nat.reduceEqDiff, Nat.reduceAdd, Nat.reduceMul, Nat.reduceSub, Nat.reduceLT, Nat.reduceLeDiff, Nat.reduceBEq, Nat.reduceLeDiff, reduceCtorEq, Int.reduceLT, Int.reduceEq, Int.reduceLE, Int.reduceAdd, Int.reduceSub, Int.reduceToNat, Int.reduceNeg, Int.toNat_natCast, beq_self_eq_true, wrap64, undef, Nat.zero_add, Nat.add_zero, Int.zero_add, Int.add_zero, Int.sub_zero, St.loadN_other, St.cell_other]
    refine ⟨RdT.set (nil_sl S) (by simp), but_put ..⟩
  · simp (disch := omega) only [go_sem, ↓reduceIte, Nat.reduceEqDiff, Nat.reduceAdd, Nat.reduceMul, Nat.reduceSub, Nat.reduceLT, Nat.reduceLeDiff, Nat.reduceBEq, Nat.reduceLeDiff, reduceCtorEq, Int.reduceLT, Int.reduceEq, Int.reduceLE, Int.reduceAdd, Int.reduceSub, Int.reduceToNat, Int.reduceNeg, Int.toNat_natCast, beq_self_eq_true, wrap64, undef, Nat.zero_add, Nat.add_zero, Int.zero_add, Int.add_zero, Int.sub_zero, St.loadN_other, St.cell_other, eqN, Option.isNone_none, c0, c1, he]
    exact ⟨hr, but_refl ..⟩
theorem F.num_Reader_Left_J {S : St} {q B : Nat} {bs : List Int} {e : Int} (h : RdT S q B bs e) : J PR F.num_Reader_Left [ptrV q] S fun v S' => v = .int .i64 bs.length ∧ S = S' := by
  obtain ⟨v, ho, hq, hs, hv⟩ := h
  obtain ⟨base, cap, rfl⟩ := hs.len byteE
  have c0 : S.cell ⟨q, 0, none⟩ = some (.slice base bs.length cap) := by rw [St.cell_def, ho]; rfl
  refine J_by PR.mixed F.num_Reader_Left.ok (by simp) ?_
  simp (disch := omega) only [go_sem, ↓reduceIte, Nat.reduceEqDiff, Nat.reduceAdd, Nat.reduceMul, Nat.reduceSub, Nat.reduceLT, Nat.reduceLeDiff, Nat.reduceBEq, Nat.reduceLeDiff, reduceCtorEq, Int.reduceLT, Int.reduceEq, Int.reduceLE, Int.reduceAdd, Int.reduceSub, Int.reduceToNat, Int.reduceNeg, Int.toNat_natCast, beq_self_eq_true, wrap64, undef, Nat.zero_add, Nat.add_zero, Int.zero_add, Int.add_zero, Int.sub_zero, St.loadN_other, St.cell_other, eqN, Option.isNone_none, c0]
theorem F.num_Reader_Err_J {S : St} {q B : Nat} {bs : List Int} {e : Int} (h : RdT S q B bs e) : J PR F.num_Reader_Err [ptrV q] S fun v S' => v = .int .i64 e ∧ S = S' := by
  obtain ⟨v, ho, hq, hs, hv⟩ := h
  have c1 : S.cell ⟨q, 1, none⟩ = some (.int .i64 e) := by rw [St.cell_def, ho]; rfl
  refine J_by PR.mixed F.num_Reader_Err.ok (by simp) ?_
  simp (disch := omega) only [go_sem, ↓reduceIte, Nat.reduceEqDiff, Nat.reduceAdd, Nat.reduceMul, Nat.reduceSub, Nat.reduceLT, Nat.reduceLeDiff, Nat.reduceBEq, Nat.reduceLeDiff, reduceCtorEq, Int.reduceLT, Int.reduceEq, Int.reduceLE, Int.reduceAdd, Int.reduceSub, Int.reduceToNat, Int.reduceNeg, Int.toNat_natCast, beq_self_eq_true, wrap64, undef, Nat.zero_add, Nat.add_zero, Int.zero_add, Int.add_zero, Int.sub_zero, St.loadN_other, St.cell_other, eqN, Option.isNone_none, c1]
theorem F.num_Read_J {S : St} {l : Value} {bs : List Int} (hl : SlT byteE S l bs) : J PR F.num_Read [l] S fun v S' => ∃ q, v = ptrV q ∧ S.n ≤ q ∧ RdT S' q S.n bs 0 ∧ S.Ext S' := by
  obtain ⟨base, cap, rfl⟩ := hl.len byteE
  refine J_by PR.mixed F.num_Read.ok (by simp) ?_
  simp (disch := omega) only [go_sem, ↓reduceIte, Nat.reduceEqDiff, Nat.reduceAdd, Nat.reduceMul, Nat.reduceSub, Nat.reduceLT, Nat.reduceLeDiff, Nat.reduceBEq, Nat.reduceLeDiff, reduceCtorEq, Int.reduceLT, Int.reduceEq, Int.reduceLE, Int.reduceAdd, Int.reduceSub, Int.reduceToNat, Int.reduceNeg, Int.toNat_natCast, beq_self_eq_true, wrap64, undef, Nat.zero_add, Nat.add_zero, Int.zero_add, Int.add_zero, Int.sub_zero, St.loadN_other, St.cell_other]
  refine wfresh_of fun q hq => ?_
  simp (disch := omega) only [go_sem, ↓reduceIte, Nat.reduceEqDiff, Nat.reduceAdd, Nat.reduceMul, Nat.reduceSub, Nat.reduceLT, Nat.reduceLeDiff, Nat.reduceBEq, Nat.reduceLeDiff, reduceCtorEq, Int.reduceLT, Int.reduceEq, Int.reduceLE, Int.reduceAdd, Int.reduceSub, Int.reduceToNat, Int.reduceNeg, Int.toNat_natCast, beq_self_eq_true, wrap64, undef, Nat.zero_add, Nat.add_zero, Int.zero_add, Int.add_zero, Int.sub_zero, St.loadN_other, St.cell_other]
  have he := (St.Ext.refl S).put hq (.cells true 2 [.slice base bs.length cap, .int .i64 0])
  refine ⟨q, rfl, hq, ⟨_, St.put_same _ _ _, St.lt_put_self _ _ _, hl.ext byteE he, fun hne => ?_⟩, he⟩
  obtain ⟨b2, c2, h1, -, -, h4⟩ := hl
  obtain ⟨b, off, rfl, hlt, -⟩ := h4 hne
  injection h1 with h1 h2 h3
  subst h1
  refine ⟨fun hb => ?_, fun j hj => ?_⟩
  · simp [blkOf] at hb
    omega
  · simp [blkOf] at hj
    omega
theorem F.num_Reader_take_J {S : St} {q B : Nat} {bs : List Int} {e : Int} {n : Nat} (h : RdT S q B bs e) (hL : bs.length < 1000000000) :
    J PR F.num_Reader_take [ptrV q, .int .u64 n] S fun v S' => St.But (ptrV q) S S' ∧ ((e = 0 ∧ n ≤ bs.length ∧ SlT byteE S' v (bs.take n) ∧ (bs.take n ≠ [] → ∀ j, blkOf v = some j → j < B) ∧ RdT S' q B (bs.drop n) 0) ∨ (¬ (e = 0 ∧ n ≤ bs.length) ∧ v = .slice none 0 0 ∧ RdT S' q B (if e = 0 then [] else bs) (if e = 0 then 10 else e))) := by
  have hr := h
  obtain ⟨v, ho, hq, hs, hv⟩ := h
  obtain ⟨base, cap, rfl⟩ := hs.len byteE
  have c0 : S.cell ⟨q, 0, none⟩ = some (.slice base bs.length cap) := by rw [St.cell_def, ho]; rfl
  have c1 : S.cell ⟨q, 1, none⟩ = some (.int .i64 e) := by rw [St.cell_def, ho]; rfl
  refine J_by PR.mixed F.num_Reader_take.ok (by simp) ?_
  by_cases he : e = 0
  · subst he
    simp (disch := omega) only [go_sem, ↓reduceIte, Nat.reduceEqDiff, Nat.reduceAdd, Nat.reduceMul, Nat.reduceSub, Nat.reduceLT, Nat.reduceLeDiff, Nat.reduceBEq, Nat.reduceLeDiff, reduceCtorEq, Int.reduceLT, Int.reduceEq, Int.reduceLE, Int.reduceAdd, Int.reduceSub, Int.reduceToNat, Int.reduceNeg, Int.toNat_natCast, beq_self_eq_true, wrap64, undef, Nat.zero_add, Nat.add_zero, Int.zero_add, Int.add_zero, Int.sub_zero, St.loadN_other, St.cell_other, eqN, Option.isNone_none, c0, c1, wrapu64]
    refine wcond_dec (fun hn => ?_) (fun hn => ?_)
    · simp (disch := omega) only [go_sem, ↓reduceIte, Nat.reduceEqDiff, Nat.reduceAdd, Nat.reduceMul, Nat.reduceSub, Nat.reduceLT, Nat.reduceLeDiff, Nat.reduceBEq, Nat.reduceLeDiff, reduceCtorEq, Int.reduceLT, Int.reduceEq, Int.reduceLE, Int.reduceAdd, Int.reduceSub, Int.reduceToNat, Int.reduceNeg, Int.toNat_natCast, beq_self_eq_true, wrap64, undef, Nat.zero_add, Nat.add_zero, Int.zero_add, Int.add_zero, Int.sub_zero, St.loadN_other, St.cell_other]
      refine wJ_of (F.num_Reader_Fail_J (x := 10) hr (by decide)) ?_; rintro _ S1 ⟨rfl, hr1, hb⟩
      simp (disch := omega) only [go_sem, ↓reduceIte, Nat.reduceEqDiff, Nat.reduceAdd, Nat.reduceMul, Nat.reduceSub, Nat.reduceLT, Nat.reduceLeDiff, Nat.reduceBEq, Nat.reduceLeDiff, reduceCtorEq, Int.reduceLT, Int.reduceEq, Int.reduceLE, Int.reduceAdd, Int.reduceSub, Int.reduceToNat, Int.reduceNeg, Int.toNat_natCast, beq_self_eq_true, wrap64, undef, Nat.zero_add, Nat.add_zero, Int.zero_add, Int.add_zero, Int.sub_zero, St.loadN_other, St.cell_other]
      exact ⟨hb, .inr ⟨by omega, by simpa using hr1⟩⟩
    · have hn' : n ≤ bs.length := by omega
      obtain ⟨u, hu, hus⟩ := hs.to byteE (k := n) (q := .u64) (i := n) rfl hn'
      replace hu : slV 1 _ _ _ _ = _ := hu
      obtain ⟨u2, hu2, hus2⟩ := hs.from byteE (l := n) (q := .u64) (i := n) rfl hn'
      replace hu2 : slV 1 _ _ _ _ = _ := hu2
      simp (disch := omega) only [go_sem, ↓reduceIte, Nat.reduceEqDiff, Nat.reduceAdd, Nat.reduceMul, Nat.reduceSub, Nat.reduceLT, Nat.reduceLeDiff, Nat.reduceBEq, Nat.reduceLeDiff, reduceCtorEq, Int.reduceLT, Int.reduceEq, Int.reduceLE, Int.reduceAdd, Int.reduceSub, Int.reduceToNat, Int.reduceNeg, Int.toNat_natCast, beq_self_eq_true, wrap64, undef, Nat.zero_add, Nat.add_zero, Int.zero_add, Int.add_zero, Int.sub_zero, St.loadN_other, St.cell_other, c0, c1, hu, hu2]
      have hc2 := slV_cells hu2
      refine wst_of ho (by rw [hc2]; rfl) (by rw [hc2]; have := hus2.len byteE; obtain ⟨b, c, rfl⟩ := this; rfl) (by simp) (by simp) ?_
      rw [hc2]
      simp (disch := omega) only [go_sem, ↓reduceIte, Nat.reduceEqDiff, Nat.reduceAdd, Nat.reduceMul, Nat.reduceSub, Nat.reduceLT, Nat.reduceLeDiff, Nat.reduceBEq, Nat.reduceLeDiff, reduceCtorEq, Int.reduceLT, Int.reduceEq, Int.reduceLE, Int.reduceAdd, Int.reduceSub, Int.reduceToNat, Int.reduceNeg, Int.toNat_natCast, beq_self_eq_true, wrap64, undef, Nat.zero_add, Nat.add_zero, Int.zero_add, Int.add_zero, Int.sub_zero, St.loadN_other, St.cell_other]
      have hne : ∀ x : List Int, bs = [] → x ≠ [] → (x = bs.take n ∨ x = bs.drop n) → False := by
        rintro x rfl h1 (h2 | h2) <;> simp at h2 <;> exact h1 h2
      have hbu : bs.take n ≠ [] → blkOf u ≠ some q := fun h => by
        rw [slV_blk hu]
        exact (hv fun hb => hne _ hb h (.inl rfl)).1
      have hbu2 : bs.drop n ≠ [] → blkOf u2 ≠ some q ∧ ∀ j, blkOf u2 = some j → j < B := fun h => by
        rw [slV_blk hu2]
        exact hv fun hb => hne _ hb h (.inr rfl)
      exact ⟨but_put .., .inl ⟨hn', hus.blk_but hbu (but_put ..), fun h => by rw [slV_blk hu]; exact (hv fun hb => hne _ hb h (.inl rfl)).2, RdT.set hus2 hbu2⟩⟩
  · simp (disch := omega) only [go_sem, ↓reduceIte, Nat.reduceEqDiff, Nat.reduceAdd, Nat.reduceMul, Nat.reduceSub, Nat.reduceLT, Nat.reduceLeDiff, Nat.reduceBEq, Nat.reduceLeDiff, reduceCtorEq, Int.reduceLT, Int.reduceEq, Int.reduceLE, Int.reduceAdd, Int.reduceSub, Int.reduceToNat, Int.reduceNeg, Int.toNat_natCast, beq_self_eq_true, wrap64, undef, Nat.zero_add, Nat.add_zero, Int.zero_add, Int.add_zero, Int.sub_zero, St.loadN_other, St.cell_other, eqN, Option.isNone_none, c0, c1, he]
    refine wJ_of (F.num_Reader_Fail_J (x := 10) hr (by decide)) ?_; rintro _ S1 ⟨rfl, hr1, hb⟩
    simp (disch := omega) only [go_sem, ↓reduceIte, Nat.reduceEqDiff, Nat.reduceAdd, Nat.reduceMul, Nat.reduceSub, Nat.reduceLT, Nat.reduceLeDiff, Nat.reduceBEq, Nat.reduceLeDiff, reduceCtorEq, Int.reduceLT, Int.reduceEq, Int.reduceLE, Int.reduceAdd, Int.reduceSub, Int.reduceToNat, Int.reduceNeg, Int.toNat_natCast, beq_self_eq_true, wrap64, undef, Nat.zero_add, Nat.add_zero, Int.zero_add, Int.add_zero, Int.sub_zero, St.loadN_other, St.cell_other]
    exact ⟨hb, .inr (by simpa [he] using hr1)⟩
end Go.Osj
