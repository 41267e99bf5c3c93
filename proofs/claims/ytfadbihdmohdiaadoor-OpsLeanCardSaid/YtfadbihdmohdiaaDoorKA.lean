/- keys.May, and strings.Trim at an ASCII cutset. -/
import Derived.Test.YtfadbihdmohdiaaDoorPC
set_option linter.unusedVariables false
set_option linter.unusedSimpArgs false
namespace Go.Osj
abbrev bl (s : ByteArray) : List UInt8 := s.data.toList
theorem bl_size (s : ByteArray) : s.size = (bl s).length := by
  show s.data.size = s.data.toList.length
  rw [Array.length_toList]
theorem bl_get (s : ByteArray) (i : Nat) : s[i]? = (bl s)[i]? := by
  by_cases h : i < s.size
  · rw [getElem?_pos s i h, List.getElem?_eq_getElem (by rw [← bl_size]; exact h)]
    rfl
  · rw [getElem?_neg s i h, List.getElem?_eq_none (by rw [← bl_size]; omega)]
theorem bl_ext (s : ByteArray) (l h : Nat) : bl (s.extract l h) = ((bl s).drop l).take (h - l) := by
  simp [bl, ByteArray.data_extract, Array.toList_extract, List.extract_eq_take_drop]
/-- the cells of a set of bytes -/
def setC (f : Nat → Bool) : List Value := (List.range 256).map fun c => .bool (f c)
theorem setC_len (f : Nat → Bool) : (setC f).length = 256 := by simp [setC]
theorem setC_size (f : Nat → Bool) : (setC f).toArray.size = 256 := by simp [setC]
theorem setC_one (f : Nat → Bool) : oneC (setC f) = true := by simp [oneC, setC, Value.oneCell']
theorem setC_get (f : Nat → Bool) {c : Nat} (h : c < 256) : (setC f)[c]? = some (.bool (f c)) := by simp [setC, h]
theorem setC_all (f : Nat → Bool) {p : Value → Bool} (hp : ∀ b, p (.bool b) = true) : (setC f).all p = true := by simp [setC, hp]
theorem setC_drop (f : Nat → Bool) : (setC f).drop 256 = [] := List.drop_of_length_le (by rw [setC_len]; omega)
theorem setC_take (f : Nat → Bool) : (setC f).take 256 = setC f := List.take_of_length_le (by rw [setC_len]; omega)
theorem setC_toList (f : Nat → Bool) : (setC f).toArray.toList = setC f := rfl
theorem wrote_full (cs news : List Value) (h : cs.length = news.length) : wrote cs 0 news = news := by
  unfold wrote
  rw [List.drop_of_length_le (by omega)]
  simp
theorem setC_wrote (f g : Nat → Bool) : wrote (setC f) 0 (setC g) = setC g := wrote_full _ _ (by simp [setC])
theorem setC_set (f : Nat → Bool) {c : Nat} (h : c < 256) : wrote (setC f) c [.bool true] = setC fun d => d == c || f d := by
  unfold wrote
  apply List.ext_getElem?
  intro i
  by_cases hi : i < 256
  · rw [setC_get _ hi]
    by_cases h1 : i < c
    · rw [List.append_assoc, List.getElem?_append_left (by simp [setC_len]; omega), List.getElem?_take, if_pos h1, setC_get _ hi]
      have : (i == c) = false := by simp; omega
      rw [this, Bool.false_or]
    · by_cases h2 : i = c
      · subst h2
        rw [List.append_assoc, List.getElem?_append_right (by simp [setC_len]; omega)]
        simp [setC_len, Nat.min_eq_left (Nat.le_of_lt hi)]
      · rw [List.getElem?_append_right (by simp [setC_len]; omega)]
        have e : (List.take c (setC f) ++ [Value.bool true]).length = c + 1 := by simp [setC_len]; omega
        rw [e, List.getElem?_drop]
        have e2 : c + [Value.bool true].length + (i - (c + 1)) = i := by simp; omega
        rw [e2, setC_get _ hi]
        have : (i == c) = false := by simp; omega
        rw [this, Bool.false_or]
  · rw [List.getElem?_eq_none (by simp [setC_len]; omega), List.getElem?_eq_none (by simp [setC_len]; omega)]
def inL (l : List UInt8) (c : Nat) : Bool := l.any fun b => b.toNat == c
theorem F.strings_makeASCIISet.r0' : F.strings_makeASCIISet.r0 = .ef 0 none (.alloc (setC fun _ => false)) (some 2) [] (.rd 1 none (.mv (.const (.bool false))) (some 3) false .done) .none := by kernel_rfl
theorem F.strings_Trim.r5' : F.strings_Trim.r5 =   .rd 0 none (.mv (.tmp 1)) (some 30) false (
  .ef 1 none (.call F.strings_makeASCIISet [(.tmp 30)]) (some 31) [] (
  .rd 2 none (.mv (.tmp 31)) (some 29) false <|
  .rd 3 none (.ext 0 (.tmp 29)) (some 32) false <|
  .rd 4 none (.ext 1 (.tmp 29)) (some 33) false <|
  .ef 5 none (.alloc (setC fun _ => false)) (some 5) [] (
  .ef 6 none (.st 256 (.tmp 5) (.tmp 32)) none [] (
  .rd 7 none (.mv (.tmp 33)) (some 6) false <|
  .done) .none) .none) .none) := by kernel_rfl
theorem F.strings_makeASCIISet_J {S : St} {s : ByteArray} (h : ∀ b ∈ bl s, b.toNat < 128) (hL : s.size < 1000) :
    J PR F.strings_makeASCIISet [.string s] S fun v S' => v = .tuple #[.agg (setC (inL (bl s))).toArray, .bool true] ∧ S = S' := by
  refine J.back (J_by PR.mixed F.strings_makeASCIISet.ok (by simp) ?_)
  simp (disch := omega) only [go_sem, ↓reduceIte, Nat.reduceEqDiff, Nat.reduceAdd, Nat.reduceMul, Nat.reduceSub, Nat.reduceLT, Nat.reduceLeDiff, Nat.reduceBEq, reduceCtorEq, Int.reduceLT, Int.reduceEq, Int.reduceLE, Int.reduceAdd, Int.reduceSub, Int.reduceToNat, Int.reduceNeg, F.strings_makeASCIISet.r0', setC_len]
  refine wfresh_of fun x hx => ?_
  simp (disch := omega) only [go_sem, ↓reduceIte, Nat.reduceEqDiff, Nat.reduceAdd, Nat.reduceMul, Nat.reduceSub, Nat.reduceLT, Nat.reduceLeDiff, Nat.reduceBEq, reduceCtorEq, Int.reduceLT, Int.reduceEq, Int.reduceLE, Int.reduceAdd, Int.reduceSub, Int.reduceToNat, Int.reduceNeg, setC_len]
  refine wC_loop (fun n fr S' => ∃ (i : Nat), n = s.size - i ∧ i ≤ s.size ∧ fr 0 = .string s ∧ fr 2 = ptrV x ∧ fr 4 = .int .i64 (i : Nat) ∧ S' = S.put x (.cells true 256 (setC (inL ((bl s).take i))))) s.size
    ⟨0, by simp (disch := omega) only [go_sem, ↓reduceIte, Nat.reduceEqDiff, Nat.reduceAdd, Nat.reduceMul, Nat.reduceSub, Nat.reduceLT, Nat.reduceLeDiff, Nat.reduceBEq, reduceCtorEq, Int.reduceLT, Int.reduceEq, Int.reduceLE, Int.reduceAdd, Int.reduceSub, Int.reduceToNat, Int.reduceNeg]; exact ⟨by omega, by omega, rfl⟩⟩ ?_
  rintro n fr S' ⟨i, rfl, hi, h0, h2, h4, rfl⟩
  simp (disch := omega) only [go_sem, ↓reduceIte, Nat.reduceEqDiff, Nat.reduceAdd, Nat.reduceMul, Nat.reduceSub, Nat.reduceLT, Nat.reduceLeDiff, Nat.reduceBEq, reduceCtorEq, Int.reduceLT, Int.reduceEq, Int.reduceLE, Int.reduceAdd, Int.reduceSub, Int.reduceToNat, Int.reduceNeg, F.strings_makeASCIISet.l0, h0, h2, h4]
  refine wcond_dec (fun hlt => ?_) (fun hge => ?_)
  · have hlx : i < (bl s).length := by rw [← bl_size]; omega
    have hb := h _ (List.getElem_mem hlx)
    have hg : s[i]? = some (bl s)[i] := by rw [bl_get, List.getElem?_eq_getElem hlx]
    have c0 : (0 : Int) ≤ (i : Int) := by omega
    simp (disch := omega) only [go_sem, ↓reduceIte, Nat.reduceEqDiff, Nat.reduceAdd, Nat.reduceMul, Nat.reduceSub, Nat.reduceLT, Nat.reduceLeDiff, Nat.reduceBEq, reduceCtorEq, Int.reduceLT, Int.reduceEq, Int.reduceLE, Int.reduceAdd, Int.reduceSub, Int.reduceToNat, Int.reduceNeg, h0, h2, h4, hg, c0]
    have c1 : ¬ (128 ≤ ((bl s)[i].toNat : Int)) := by omega
    have c2 : (0 : Int) ≤ ((bl s)[i].toNat : Int) ∧ ((bl s)[i].toNat : Int) < 256 := by omega
    have c3 : (bl s)[i].toNat ≤ 256 := by omega
    have c4 : (bl s)[i].toNat + 1 ≤ 256 := by omega
    simp (disch := omega) only [go_sem, ↓reduceIte, Nat.reduceEqDiff, Nat.reduceAdd, Nat.reduceMul, Nat.reduceSub, Nat.reduceLT, Nat.reduceLeDiff, Nat.reduceBEq, reduceCtorEq, Int.reduceLT, Int.reduceEq, Int.reduceLE, Int.reduceAdd, Int.reduceSub, Int.reduceToNat, Int.reduceNeg, h0, h2, h4, hg, c0, c1, c2, c3, c4, setC_len]
    refine ⟨by omega, by omega, s.size - (i + 1), by omega, i + 1, rfl, by omega, rfl, ?_⟩
    rw [Nat.mul_one]
    show S.put x (.cells true 256 (wrote (setC _) _ [.bool true])) = _
    rw [setC_set _ (by omega), take_snoc (List.getElem?_eq_getElem hlx)]
    congr 3
    funext d
    simp [inL, List.any_append, Bool.or_comm, Bool.beq_comm (a := d)]
  · have e : (bl s).take i = bl s := List.take_of_length_le (by rw [← bl_size]; omega)
    simp (disch := omega) only [go_sem, ↓reduceIte, Nat.reduceEqDiff, Nat.reduceAdd, Nat.reduceMul, Nat.reduceSub, Nat.reduceLT, Nat.reduceLeDiff, Nat.reduceBEq, reduceCtorEq, Int.reduceLT, Int.reduceEq, Int.reduceLE, Int.reduceAdd, Int.reduceSub, Int.reduceToNat, Int.reduceNeg, h0, h2, h4, setC_len, setC_take, setC_size, setC_drop, List.append_nil, e]
    refine ⟨setC_all _ (fun _ => rfl), ?_⟩
    exact (St.Ext.refl S).put hx _
theorem F.strings_asciiSet_contains_J {S : St} {x : Nat} {f : Nat → Bool} {c : Nat} (hx : S.obj x = some (.cells true 256 (setC f))) (hc : c < 256) :
    J PR F.strings_asciiSet_contains [ptrV x, .int .u8 c] S fun v S' => v = .bool (f c) ∧ S = S' := by
  have h1 : S.cell ⟨x, c, none⟩ = some (.bool (f c)) := by rw [St.cell_def, hx]; exact setC_get f hc
  have c2 : (0 : Int) ≤ (c : Int) ∧ (c : Int) < 256 := by omega
  refine J_by PR.mixed F.strings_asciiSet_contains.ok (by simp) ?_
  simp (disch := omega) only [go_sem, ↓reduceIte, Nat.reduceEqDiff, Nat.reduceAdd, Nat.reduceMul, Nat.reduceSub, Nat.reduceLT, Nat.reduceLeDiff, Nat.reduceBEq, reduceCtorEq, Int.reduceLT, Int.reduceEq, Int.reduceLE, Int.reduceAdd, Int.reduceSub, Int.reduceToNat, Int.reduceNeg, h1, c2, Nat.mul_one]
theorem bnd_none {fr : Fr} {y d : Nat} : bnd fr y d none = some d := rfl
theorem bnd_some {fr : Fr} {y d : Nat} {x : Operand} : bnd fr y d (some x) = (match ev fr x with | .int _ n => if 0 ≤ n ∧ n ≤ y then some n.toNat else none | _ => none) := rfl
theorem F.strings_trimRightASCII_J {S : St} {x : Nat} {f : Nat → Bool} {s : ByteArray} (hx : S.obj x = some (.cells true 256 (setC f))) (hL : s.size < 1000) :
    J PR F.strings_trimRightASCII [.string s, ptrV x] S fun v S' => (∃ t r, v = .string t ∧ bl s = bl t ++ r ∧ (∀ b ∈ r, f b.toNat = true) ∧ (t.size = 0 ∨ ∃ b ∈ bl t, f b.toNat = false)) ∧ S = S' := by
  refine J_by PR.mixed F.strings_trimRightASCII.ok (by simp) ?_
  simp (disch := omega) only [go_sem, ↓reduceIte, Nat.reduceEqDiff, Nat.reduceAdd, Nat.reduceMul, Nat.reduceSub, Nat.reduceLT, Nat.reduceLeDiff, Nat.reduceBEq, reduceCtorEq, Int.reduceLT, Int.reduceEq, Int.reduceLE, Int.reduceAdd, Int.reduceSub, Int.reduceToNat, Int.reduceNeg]
  refine wC_loop (fun n fr S' => ∃ t r, n = t.size ∧ fr 0 = .string t ∧ fr 1 = ptrV x ∧ bl s = bl t ++ r ∧ (∀ b ∈ r, f b.toNat = true) ∧ S = S') s.size ⟨s, [], by simp (disch := omega) only [go_sem, ↓reduceIte, Nat.reduceEqDiff, Nat.reduceAdd, Nat.reduceMul, Nat.reduceSub, Nat.reduceLT, Nat.reduceLeDiff, Nat.reduceBEq, reduceCtorEq, Int.reduceLT, Int.reduceEq, Int.reduceLE, Int.reduceAdd, Int.reduceSub, Int.reduceToNat, Int.reduceNeg]; simp⟩ ?_
  rintro n fr S' ⟨t, r, rfl, h0, h1, hs, hr, rfl⟩
  have hts : t.size ≤ s.size := by rw [bl_size, bl_size, hs, List.length_append]; omega
  simp (disch := omega) only [go_sem, ↓reduceIte, Nat.reduceEqDiff, Nat.reduceAdd, Nat.reduceMul, Nat.reduceSub, Nat.reduceLT, Nat.reduceLeDiff, Nat.reduceBEq, reduceCtorEq, Int.reduceLT, Int.reduceEq, Int.reduceLE, Int.reduceAdd, Int.reduceSub, Int.reduceToNat, Int.reduceNeg, F.strings_trimRightASCII.l0, h0, h1]
  refine wcond_dec (fun hlt => ?_) (fun hge => ?_)
  · have hlx : t.size - 1 < (bl t).length := by rw [← bl_size]; omega
    have hg : t[t.size - 1]? = some (bl t)[t.size - 1] := by rw [bl_get, List.getElem?_eq_getElem hlx]
    have e1 : IntKind.i64.wrap ((t.size : Int) - 1) = ((t.size - 1 : Nat) : Int) := by rw [wrap64 (by omega) (by omega)]; omega
    have e2 : (t.size : Int) - 1 = ((t.size - 1 : Nat) : Int) := by omega
    have c0 : (0 : Int) ≤ ((t.size - 1 : Nat) : Int) := by omega
    simp (disch := omega) only [go_sem, ↓reduceIte, Nat.reduceEqDiff, Nat.reduceAdd, Nat.reduceMul, Nat.reduceSub, Nat.reduceLT, Nat.reduceLeDiff, Nat.reduceBEq, reduceCtorEq, Int.reduceLT, Int.reduceEq, Int.reduceLE, Int.reduceAdd, Int.reduceSub, Int.reduceToNat, Int.reduceNeg, h0, h1, hg, e1, e2, c0]
    have hb8 := (bl t)[t.size - 1].toNat_lt
    refine wJ_of (F.strings_asciiSet_contains_J hx hb8) ?_; rintro _ _ ⟨rfl, rfl⟩
    by_cases hf : f (bl t)[t.size - 1].toNat = true
    · have c2 : (0 : Int) ≤ ((t.size - 1 : Nat) : Int) ∧ ((t.size - 1 : Nat) : Int) ≤ (t.size : Int) := by omega
      have c3 : (0 : Int) ≤ (0 : Int) ∧ (0 : Int) ≤ ((t.size - 1 : Nat) : Int) := by omega
      simp (disch := omega) only [go_sem, ↓reduceIte, Nat.reduceEqDiff, Nat.reduceAdd, Nat.reduceMul, Nat.reduceSub, Nat.reduceLT, Nat.reduceLeDiff, Nat.reduceBEq, reduceCtorEq, Int.reduceLT, Int.reduceEq, Int.reduceLE, Int.reduceAdd, Int.reduceSub, Int.reduceToNat, Int.reduceNeg, h0, h1, hg, e1, e2, c0, hf, bnd_none, bnd_some, c2, c3]
      have ht : bl t = bl (t.extract 0 (t.size - 1)) ++ [(bl t)[t.size - 1]] := by
        rw [bl_ext, List.drop_zero, Nat.sub_zero, ← take_snoc (List.getElem?_eq_getElem hlx), List.take_of_length_le (by have := bl_size t; omega)]
      refine ⟨t.size - 1, by omega, _, (bl t)[t.size - 1] :: r, ?_, rfl, ?_, ?_⟩
      · rw [ByteArray.size_extract]; omega
      · refine hs.trans ?_
        have := congrArg (· ++ r) ht
        simp only [List.append_assoc, List.singleton_append] at this
        exact this
      · intro b hb
        rcases List.mem_cons.1 hb with rfl | hb
        · exact hf
        · exact hr b hb
    · replace hf := Bool.eq_false_iff.2 hf
      simp (disch := omega) only [go_sem, ↓reduceIte, Nat.reduceEqDiff, Nat.reduceAdd, Nat.reduceMul, Nat.reduceSub, Nat.reduceLT, Nat.reduceLeDiff, Nat.reduceBEq, reduceCtorEq, Int.reduceLT, Int.reduceEq, Int.reduceLE, Int.reduceAdd, Int.reduceSub, Int.reduceToNat, Int.reduceNeg, h0, h1, hg, e1, e2, c0, hf]
      exact ⟨t, r, rfl, hs, hr, .inr ⟨_, List.getElem_mem hlx, hf⟩⟩
  · simp (disch := omega) only [go_sem, ↓reduceIte, Nat.reduceEqDiff, Nat.reduceAdd, Nat.reduceMul, Nat.reduceSub, Nat.reduceLT, Nat.reduceLeDiff, Nat.reduceBEq, reduceCtorEq, Int.reduceLT, Int.reduceEq, Int.reduceLE, Int.reduceAdd, Int.reduceSub, Int.reduceToNat, Int.reduceNeg, h0, h1]
    exact ⟨t, r, rfl, hs, hr, .inl (by omega)⟩
theorem F.strings_trimLeftASCII_J {S : St} {x : Nat} {f : Nat → Bool} {s : ByteArray} (hx : S.obj x = some (.cells true 256 (setC f))) (hL : s.size < 1000) :
    J PR F.strings_trimLeftASCII [.string s, ptrV x] S fun v S' => (∃ t r, v = .string t ∧ bl s = r ++ bl t ∧ (∀ b ∈ r, f b.toNat = true) ∧ (t.size = 0 ∨ ∃ b ∈ bl t, f b.toNat = false)) ∧ S = S' := by
  refine J_by PR.mixed F.strings_trimLeftASCII.ok (by simp) ?_
  simp (disch := omega) only [go_sem, ↓reduceIte, Nat.reduceEqDiff, Nat.reduceAdd, Nat.reduceMul, Nat.reduceSub, Nat.reduceLT, Nat.reduceLeDiff, Nat.reduceBEq, reduceCtorEq, Int.reduceLT, Int.reduceEq, Int.reduceLE, Int.reduceAdd, Int.reduceSub, Int.reduceToNat, Int.reduceNeg]
  refine wC_loop (fun n fr S' => ∃ t r, n = t.size ∧ fr 0 = .string t ∧ fr 1 = ptrV x ∧ bl s = r ++ bl t ∧ (∀ b ∈ r, f b.toNat = true) ∧ S = S') s.size ⟨s, [], by simp (disch := omega) only [go_sem, ↓reduceIte, Nat.reduceEqDiff, Nat.reduceAdd, Nat.reduceMul, Nat.reduceSub, Nat.reduceLT, Nat.reduceLeDiff, Nat.reduceBEq, reduceCtorEq, Int.reduceLT, Int.reduceEq, Int.reduceLE, Int.reduceAdd, Int.reduceSub, Int.reduceToNat, Int.reduceNeg]⟩ ?_
  rintro n fr S' ⟨t, r, rfl, h0, h1, hs, hr, rfl⟩
  have hts : t.size ≤ s.size := by rw [bl_size, bl_size, hs, List.length_append]; omega
  simp (disch := omega) only [go_sem, ↓reduceIte, Nat.reduceEqDiff, Nat.reduceAdd, Nat.reduceMul, Nat.reduceSub, Nat.reduceLT, Nat.reduceLeDiff, Nat.reduceBEq, reduceCtorEq, Int.reduceLT, Int.reduceEq, Int.reduceLE, Int.reduceAdd, Int.reduceSub, Int.reduceToNat, Int.reduceNeg, F.strings_trimLeftASCII.l0, h0, h1]
  refine wcond_dec (fun hlt => ?_) (fun hge => ?_)
  · have hlx : 0 < (bl t).length := by rw [← bl_size]; omega
    have hg : t[0]? = some (bl t)[0] := by rw [bl_get, List.getElem?_eq_getElem hlx]
    simp (disch := omega) only [go_sem, ↓reduceIte, Nat.reduceEqDiff, Nat.reduceAdd, Nat.reduceMul, Nat.reduceSub, Nat.reduceLT, Nat.reduceLeDiff, Nat.reduceBEq, reduceCtorEq, Int.reduceLT, Int.reduceEq, Int.reduceLE, Int.reduceAdd, Int.reduceSub, Int.reduceToNat, Int.reduceNeg, h0, h1, hg]
    have hb8 := (bl t)[0].toNat_lt
    refine wJ_of (F.strings_asciiSet_contains_J hx hb8) ?_; rintro _ _ ⟨rfl, rfl⟩
    by_cases hf : f (bl t)[0].toNat = true
    · have c3 : (0 : Int) ≤ (1 : Int) ∧ (1 : Int) ≤ (t.size : Int) := by omega
      simp (disch := omega) only [go_sem, ↓reduceIte, Nat.reduceEqDiff, Nat.reduceAdd, Nat.reduceMul, Nat.reduceSub, Nat.reduceLT, Nat.reduceLeDiff, Nat.reduceBEq, reduceCtorEq, Int.reduceLT, Int.reduceEq, Int.reduceLE, Int.reduceAdd, Int.reduceSub, Int.reduceToNat, Int.reduceNeg, h0, h1, hg, hf, bnd_none, bnd_some, c3]
      have ht : bl t = (bl t)[0] :: bl (t.extract 1 t.size) := by
        rw [bl_ext, bl_size, List.take_of_length_le (by simp), ← List.drop_eq_getElem_cons hlx, List.drop_zero]
      refine ⟨t.size - 1, by omega, _, r ++ [(bl t)[0]], ?_, rfl, ?_, ?_⟩
      · rw [ByteArray.size_extract]; omega
      · refine hs.trans ?_
        have := congrArg (r ++ ·) ht
        rw [List.append_assoc, List.singleton_append]
        exact this
      · intro b hb
        rcases List.mem_append.1 hb with hb | hb
        · exact hr b hb
        · simp at hb; subst hb; exact hf
    · replace hf := Bool.eq_false_iff.2 hf
      simp (disch := omega) only [go_sem, ↓reduceIte, Nat.reduceEqDiff, Nat.reduceAdd, Nat.reduceMul, Nat.reduceSub, Nat.reduceLT, Nat.reduceLeDiff, Nat.reduceBEq, reduceCtorEq, Int.reduceLT, Int.reduceEq, Int.reduceLE, Int.reduceAdd, Int.reduceSub, Int.reduceToNat, Int.reduceNeg, h0, h1, hg, hf]
      exact ⟨t, r, rfl, hs, hr, .inr ⟨_, List.getElem_mem hlx, hf⟩⟩
  · simp (disch := omega) only [go_sem, ↓reduceIte, Nat.reduceEqDiff, Nat.reduceAdd, Nat.reduceMul, Nat.reduceSub, Nat.reduceLT, Nat.reduceLeDiff, Nat.reduceBEq, reduceCtorEq, Int.reduceLT, Int.reduceEq, Int.reduceLE, Int.reduceAdd, Int.reduceSub, Int.reduceToNat, Int.reduceNeg, h0, h1]
    exact ⟨t, r, rfl, hs, hr, .inl (by omega)⟩
theorem F.strings_Trim_J {S : St} {s cs : ByteArray} (hc : 1 < cs.size) (hc2 : cs.size < 1000) (hcs : ∀ b ∈ bl cs, b.toNat < 128) (hL : s.size < 1000) :
    J PR F.strings_Trim [.string s, .string cs] S fun v S' => (∃ t, v = .string t ∧ (t.size = 0 ↔ ∀ b ∈ bl s, inL (bl cs) b.toNat = true)) ∧ S = S' := by
  have hcs0 : (cs == ⟨#[]⟩) = false := by rw [ba_beq, decide_eq_false_iff_not]; rintro rfl; exact absurd hc (by decide)
  refine J.back (J_by PR.mixed F.strings_Trim.ok (by simp) ?_)
  simp (disch := omega) only [go_sem, ↓reduceIte, Nat.reduceEqDiff, Nat.reduceAdd, Nat.reduceMul, Nat.reduceSub, Nat.reduceLT, Nat.reduceLeDiff, Nat.reduceBEq, reduceCtorEq, Int.reduceLT, Int.reduceEq, Int.reduceLE, Int.reduceAdd, Int.reduceSub, Int.reduceToNat, Int.reduceNeg, hcs0]
  by_cases h0 : (s == ⟨#[]⟩) = true
  · have h00 : s.size = 0 := by rw [ba_beq, decide_eq_true_eq] at h0; subst h0; rfl
    have hnil : bl s = [] := List.length_eq_zero_iff.1 (by rw [← bl_size]; exact h00)
    simp (disch := omega) only [go_sem, ↓reduceIte, Nat.reduceEqDiff, Nat.reduceAdd, Nat.reduceMul, Nat.reduceSub, Nat.reduceLT, Nat.reduceLeDiff, Nat.reduceBEq, reduceCtorEq, Int.reduceLT, Int.reduceEq, Int.reduceLE, Int.reduceAdd, Int.reduceSub, Int.reduceToNat, Int.reduceNeg, h0]
    exact ⟨⟨s, rfl, by simp [h00, hnil]⟩, St.Ext.refl S⟩
  have h1 : ¬ ((cs.size : Int) = 1) := by omega
  replace h0 := Bool.eq_false_iff.2 h0
  simp (disch := omega) only [go_sem, ↓reduceIte, Nat.reduceEqDiff, Nat.reduceAdd, Nat.reduceMul, Nat.reduceSub, Nat.reduceLT, Nat.reduceLeDiff, Nat.reduceBEq, reduceCtorEq, Int.reduceLT, Int.reduceEq, Int.reduceLE, Int.reduceAdd, Int.reduceSub, Int.reduceToNat, Int.reduceNeg, h0, h1, hcs0, F.strings_Trim.r5']
  refine wJ_of (F.strings_makeASCIISet_J hcs hc2) ?_; rintro _ _ ⟨rfl, rfl⟩
  simp (disch := omega) only [go_sem, ↓reduceIte, Nat.reduceEqDiff, Nat.reduceAdd, Nat.reduceMul, Nat.reduceSub, Nat.reduceLT, Nat.reduceLeDiff, Nat.reduceBEq, reduceCtorEq, Int.reduceLT, Int.reduceEq, Int.reduceLE, Int.reduceAdd, Int.reduceSub, Int.reduceToNat, Int.reduceNeg, F.strings_Trim.r5', setC_len]
  refine wfresh_of fun x hx => ?_
  simp (disch := omega) only [go_sem, ↓reduceIte, Nat.reduceEqDiff, Nat.reduceAdd, Nat.reduceMul, Nat.reduceSub, Nat.reduceLT, Nat.reduceLeDiff, Nat.reduceBEq, reduceCtorEq, Int.reduceLT, Int.reduceEq, Int.reduceLE, Int.reduceAdd, Int.reduceSub, Int.reduceToNat, Int.reduceNeg, setC_len, setC_size, setC_drop, List.append_nil]
  refine ⟨setC_all _ (fun _ => rfl), ?_⟩
  refine wJ_of (F.strings_trimRightASCII_J (St.put_same _ _ _) hL) ?_; rintro _ _ ⟨⟨t, r, rfl, hs, hr, -⟩, rfl⟩
  have hts : t.size ≤ s.size := by rw [bl_size, bl_size, hs, List.length_append]; omega
  simp (disch := omega) only [go_sem, ↓reduceIte, Nat.reduceEqDiff, Nat.reduceAdd, Nat.reduceMul, Nat.reduceSub, Nat.reduceLT, Nat.reduceLeDiff, Nat.reduceBEq, reduceCtorEq, Int.reduceLT, Int.reduceEq, Int.reduceLE, Int.reduceAdd, Int.reduceSub, Int.reduceToNat, Int.reduceNeg]
  refine wJ_of (F.strings_trimLeftASCII_J (St.put_same _ _ _) (by omega)) ?_; rintro _ _ ⟨⟨u, q, rfl, ht, hq, hu⟩, rfl⟩
  simp (disch := omega) only [go_sem, ↓reduceIte, Nat.reduceEqDiff, Nat.reduceAdd, Nat.reduceMul, Nat.reduceSub, Nat.reduceLT, Nat.reduceLeDiff, Nat.reduceBEq, reduceCtorEq, Int.reduceLT, Int.reduceEq, Int.reduceLE, Int.reduceAdd, Int.reduceSub, Int.reduceToNat, Int.reduceNeg]
  refine ⟨⟨u, rfl, fun h b hb => ?_, fun h => ?_⟩, (St.Ext.refl S).put hx _⟩
  · have hnil : bl u = [] := List.length_eq_zero_iff.1 (by rw [← bl_size]; exact h)
    rw [hs, ht, hnil] at hb
    simp only [List.append_nil, List.mem_append] at hb
    rcases hb with hb | hb
    · exact hq b hb
    · exact hr b hb
  · rcases hu with hu | ⟨b, hb, hf⟩
    · exact hu
    · have := h b (by rw [hs, ht]; simp [hb])
      rw [this] at hf
      cases hf
/-- a key that may be -/
def keyP (s : ByteArray) : Prop := (0 < s.size ∧ s.size ≤ 200) ∧ (bl s).getLast? ≠ some 97 ∧ ∀ b ∈ bl s, 97 ≤ b.toNat ∧ b.toNat ≤ 122
instance (s : ByteArray) : Decidable (keyP s) := inferInstanceAs (Decidable (_ ∧ _ ∧ _))
def lowS : ByteArray := ⟨#[97, 98, 99, 100, 101, 102, 103, 104, 105, 106, 107, 108, 109, 110, 111, 112, 113, 114, 115, 116, 117, 118, 119, 120, 121, 122]⟩
theorem lowS_in (b : UInt8) : inL (bl lowS) b.toNat = true ↔ 97 ≤ b.toNat ∧ b.toNat ≤ 122 := by
  have h := b.toNat_lt
  have : ∀ n : Fin 256, inL (bl lowS) n.1 = true ↔ 97 ≤ n.1 ∧ n.1 ≤ 122 := by decide +kernel
  exact this ⟨b.toNat, h⟩
theorem last_at {s : ByteArray} (h : 0 < s.size) : ∃ b, s[s.size - 1]? = some b ∧ (bl s).getLast? = some b := by
  have hlx : s.size - 1 < (bl s).length := by rw [← bl_size]; omega
  refine ⟨(bl s)[s.size - 1], by rw [bl_get, List.getElem?_eq_getElem hlx], ?_⟩
  rw [List.getLast?_eq_getElem?, ← bl_size, List.getElem?_eq_getElem hlx]
theorem F.keys_May_J {S : St} {s : ByteArray} : J PR F.keys_May [.string s] S fun v S' => v = .bool (decide (keyP s)) ∧ S = S' := by
  refine J_by PR.mixed F.keys_May.ok (by simp) ?_
  by_cases h1 : 0 < s.size ∧ s.size ≤ 200
  · obtain ⟨b, hb, hl⟩ := last_at h1.1
    have i1 : (0 : Int) < (s.size : Int) := by omega
    have i2 : (s.size : Int) ≤ 200 := by omega
    have e1 : IntKind.i64.wrap ((s.size : Int) - 1) = ((s.size - 1 : Nat) : Int) := by rw [wrap64 (by omega) (by omega)]; omega
    have e2 : (s.size : Int) - 1 = ((s.size - 1 : Nat) : Int) := by omega
    have c0 : (0 : Int) ≤ ((s.size - 1 : Nat) : Int) := by omega
    by_cases hx : b = 97
    · subst hx
      have e97 : ((UInt8.toNat 97 : Nat) : Int) = 97 := rfl
      simp (disch := omega) only [go_sem, ↓reduceIte, Nat.reduceEqDiff, Nat.reduceAdd, Nat.reduceMul, Nat.reduceSub, Nat.reduceLT, Nat.reduceLeDiff, Nat.reduceBEq, reduceCtorEq, Int.reduceLT, Int.reduceEq, Int.reduceLE, Int.reduceAdd, Int.reduceSub, Int.reduceToNat, Int.reduceNeg, i1, i2, hb, e1, e2, c0, e97]
      have hk : ¬ keyP s := fun h => h.2.1 hl
      simp [hk]
    · have hx' : ¬ ((b.toNat : Int) = 97) := by
        intro h
        apply hx
        apply UInt8.toNat_inj.1
        show b.toNat = 97
        omega
      simp (disch := omega) only [go_sem, ↓reduceIte, Nat.reduceEqDiff, Nat.reduceAdd, Nat.reduceMul, Nat.reduceSub, Nat.reduceLT, Nat.reduceLeDiff, Nat.reduceBEq, reduceCtorEq, Int.reduceLT, Int.reduceEq, Int.reduceLE, Int.reduceAdd, Int.reduceSub, Int.reduceToNat, Int.reduceNeg, i1, i2, hb, e1, e2, c0, hx']
      refine wJ_of (F.strings_Trim_J (cs := lowS) (by decide) (by decide) (by decide) (by omega)) ?_; rintro _ _ ⟨⟨t, rfl, ht⟩, rfl⟩
      simp only [lowS_in] at ht
      have et : (t == ⟨#[]⟩) = decide (t.size = 0) := by
        rw [ba_beq, decide_eq_decide]
        refine ⟨fun h => by subst h; rfl, fun h => ?_⟩
        apply ByteArray.ext
        exact Array.eq_empty_of_size_eq_zero h
      simp (disch := omega) only [go_sem, ↓reduceIte, Nat.reduceEqDiff, Nat.reduceAdd, Nat.reduceMul, Nat.reduceSub, Nat.reduceLT, Nat.reduceLeDiff, Nat.reduceBEq, reduceCtorEq, Int.reduceLT, Int.reduceEq, Int.reduceLE, Int.reduceAdd, Int.reduceSub, Int.reduceToNat, Int.reduceNeg, i1, i2, hb, e1, e2, c0, hx', et]
      congr 1
      rw [decide_eq_decide, ht]
      refine ⟨fun h => ⟨h1, ?_, h⟩, fun h => h.2.2⟩
      rw [hl]
      simpa using hx
  · have hk : ¬ keyP s := fun h => h1 h.1
    by_cases h0 : 0 < s.size
    · have i1 : (0 : Int) < (s.size : Int) := by omega
      have i2 : ¬ ((s.size : Int) ≤ 200) := by omega
      simp (disch := omega) only [go_sem, ↓reduceIte, Nat.reduceEqDiff, Nat.reduceAdd, Nat.reduceMul, Nat.reduceSub, Nat.reduceLT, Nat.reduceLeDiff, Nat.reduceBEq, reduceCtorEq, Int.reduceLT, Int.reduceEq, Int.reduceLE, Int.reduceAdd, Int.reduceSub, Int.reduceToNat, Int.reduceNeg, i1, i2]
      simp [hk]
    · have i1 : ¬ ((0 : Int) < (s.size : Int)) := by omega
      simp (disch := omega) only [go_sem, ↓reduceIte, Nat.reduceEqDiff, Nat.reduceAdd, Nat.reduceMul, Nat.reduceSub, Nat.reduceLT, Nat.reduceLeDiff, Nat.reduceBEq, reduceCtorEq, Int.reduceLT, Int.reduceEq, Int.reduceLE, Int.reduceAdd, Int.reduceSub, Int.reduceToNat, Int.reduceNeg, i1]
      simp [hk]
theorem F.osierref06_May_J {S : St} {s : ByteArray} : J PR F.osierref06_May [.string s] S fun v S' => v = .bool (decide (keyP s)) ∧ S = S' := by
  refine J_by PR.mixed F.osierref06_May.ok (by simp) ?_
  simp (disch := omega) only [go_sem, ↓reduceIte, Nat.reduceEqDiff, Nat.reduceAdd, Nat.reduceMul, Nat.reduceSub, Nat.reduceLT, Nat.reduceLeDiff, Nat.reduceBEq, reduceCtorEq, Int.reduceLT, Int.reduceEq, Int.reduceLE, Int.reduceAdd, Int.reduceSub, Int.reduceToNat, Int.reduceNeg]
  by_cases h0 : s.size = 0
  · have hk : ¬ keyP s := fun h => by have := h.1; omega
    simp (disch := omega) only [go_sem, ↓reduceIte, Nat.reduceEqDiff, Nat.reduceAdd, Nat.reduceMul, Nat.reduceSub, Nat.reduceLT, Nat.reduceLeDiff, Nat.reduceBEq, reduceCtorEq, Int.reduceLT, Int.reduceEq, Int.reduceLE, Int.reduceAdd, Int.reduceSub, Int.reduceToNat, Int.reduceNeg, h0]
    simp [hk]
  have i1 : ¬ ((s.size : Int) = 0) := by omega
  by_cases h2 : 200 < s.size
  · have hk : ¬ keyP s := fun h => by have := h.1; omega
    have i2 : (200 : Int) < (s.size : Int) := by omega
    simp (disch := omega) only [go_sem, ↓reduceIte, Nat.reduceEqDiff, Nat.reduceAdd, Nat.reduceMul, Nat.reduceSub, Nat.reduceLT, Nat.reduceLeDiff, Nat.reduceBEq, reduceCtorEq, Int.reduceLT, Int.reduceEq, Int.reduceLE, Int.reduceAdd, Int.reduceSub, Int.reduceToNat, Int.reduceNeg, i1, i2]
    simp [hk]
  have i2 : ¬ ((200 : Int) < (s.size : Int)) := by omega
  obtain ⟨b, hb, hl⟩ := last_at (s := s) (by omega)
  have e1 : IntKind.i64.wrap ((s.size : Int) - 1) = ((s.size - 1 : Nat) : Int) := by rw [wrap64 (by omega) (by omega)]; omega
  have e2 : (s.size : Int) - 1 = ((s.size - 1 : Nat) : Int) := by omega
  have c0 : (0 : Int) ≤ ((s.size - 1 : Nat) : Int) := by omega
  simp (disch := omega) only [go_sem, ↓reduceIte, Nat.reduceEqDiff, Nat.reduceAdd, Nat.reduceMul, Nat.reduceSub, Nat.reduceLT, Nat.reduceLeDiff, Nat.reduceBEq, reduceCtorEq, Int.reduceLT, Int.reduceEq, Int.reduceLE, Int.reduceAdd, Int.reduceSub, Int.reduceToNat, Int.reduceNeg, i1, i2, hb, e1, e2, c0]
  refine wcond_dec (fun hx => ?_) (fun hx => ?_)
  · have hk : ¬ keyP s := fun h => by
      apply h.2.1
      rw [hl]
      congr 1
      apply UInt8.toNat_inj.1
      show b.toNat = 97
      omega
    simp (disch := omega) only [go_sem, ↓reduceIte, Nat.reduceEqDiff, Nat.reduceAdd, Nat.reduceMul, Nat.reduceSub, Nat.reduceLT, Nat.reduceLeDiff, Nat.reduceBEq, reduceCtorEq, Int.reduceLT, Int.reduceEq, Int.reduceLE, Int.reduceAdd, Int.reduceSub, Int.reduceToNat, Int.reduceNeg]
    simp [hk]
  simp (disch := omega) only [go_sem, ↓reduceIte, Nat.reduceEqDiff, Nat.reduceAdd, Nat.reduceMul, Nat.reduceSub, Nat.reduceLT, Nat.reduceLeDiff, Nat.reduceBEq, reduceCtorEq, Int.reduceLT, Int.reduceEq, Int.reduceLE, Int.reduceAdd, Int.reduceSub, Int.reduceToNat, Int.reduceNeg]
  refine wC_loop (fun n fr S' => ∃ i : Nat, n = s.size - i ∧ i ≤ s.size ∧ fr 0 = .string s ∧ fr 3 = .int .i64 (i : Nat) ∧ S = S' ∧ ∀ b ∈ (bl s).take i, 97 ≤ b.toNat ∧ b.toNat ≤ 122) s.size ⟨0, by simp (disch := omega) only [go_sem, ↓reduceIte, Nat.reduceEqDiff, Nat.reduceAdd, Nat.reduceMul, Nat.reduceSub, Nat.reduceLT, Nat.reduceLeDiff, Nat.reduceBEq, reduceCtorEq, Int.reduceLT, Int.reduceEq, Int.reduceLE, Int.reduceAdd, Int.reduceSub, Int.reduceToNat, Int.reduceNeg]; simp⟩ ?_
  rintro n fr S' ⟨i, rfl, hi, g0, g3, rfl, ha⟩
  simp (disch := omega) only [go_sem, ↓reduceIte, Nat.reduceEqDiff, Nat.reduceAdd, Nat.reduceMul, Nat.reduceSub, Nat.reduceLT, Nat.reduceLeDiff, Nat.reduceBEq, reduceCtorEq, Int.reduceLT, Int.reduceEq, Int.reduceLE, Int.reduceAdd, Int.reduceSub, Int.reduceToNat, Int.reduceNeg, F.osierref06_May.l0, g0, g3]
  refine wcond_dec (fun hlt => ?_) (fun hge => ?_)
  · have hlx : i < (bl s).length := by rw [← bl_size]; omega
    have hg : s[i]? = some (bl s)[i] := by rw [bl_get, List.getElem?_eq_getElem hlx]
    have c0 : (0 : Int) ≤ (i : Int) := by omega
    by_cases hr : 97 ≤ (bl s)[i].toNat ∧ (bl s)[i].toNat ≤ 122
    · have j1 : ¬ (((bl s)[i].toNat : Int) < 97) := by omega
      have j2 : ¬ ((122 : Int) < ((bl s)[i].toNat : Int)) := by omega
      simp (disch := omega) only [go_sem, ↓reduceIte, Nat.reduceEqDiff, Nat.reduceAdd, Nat.reduceMul, Nat.reduceSub, Nat.reduceLT, Nat.reduceLeDiff, Nat.reduceBEq, reduceCtorEq, Int.reduceLT, Int.reduceEq, Int.reduceLE, Int.reduceAdd, Int.reduceSub, Int.reduceToNat, Int.reduceNeg, g0, g3, hg, c0, j1, j2]
      refine ⟨s.size - (i + 1), by omega, i + 1, rfl, by omega, rfl, ?_⟩
      rw [take_snoc (List.getElem?_eq_getElem hlx)]
      intro b hb
      rcases List.mem_append.1 hb with hb | hb
      · exact ha b hb
      · simp only [List.mem_singleton] at hb; subst hb; exact hr
    · have hk : ¬ keyP s := fun h => hr (h.2.2 _ (List.getElem_mem hlx))
      by_cases h97 : (bl s)[i].toNat < 97
      · have j1 : (((bl s)[i].toNat : Int) < 97) := by omega
        simp (disch := omega) only [go_sem, ↓reduceIte, Nat.reduceEqDiff, Nat.reduceAdd, Nat.reduceMul, Nat.reduceSub, Nat.reduceLT, Nat.reduceLeDiff, Nat.reduceBEq, reduceCtorEq, Int.reduceLT, Int.reduceEq, Int.reduceLE, Int.reduceAdd, Int.reduceSub, Int.reduceToNat, Int.reduceNeg, g0, g3, hg, c0, j1]
        simp [hk]
      · have j1 : ¬ (((bl s)[i].toNat : Int) < 97) := by omega
        have j2 : ((122 : Int) < ((bl s)[i].toNat : Int)) := by omega
        simp (disch := omega) only [go_sem, ↓reduceIte, Nat.reduceEqDiff, Nat.reduceAdd, Nat.reduceMul, Nat.reduceSub, Nat.reduceLT, Nat.reduceLeDiff, Nat.reduceBEq, reduceCtorEq, Int.reduceLT, Int.reduceEq, Int.reduceLE, Int.reduceAdd, Int.reduceSub, Int.reduceToNat, Int.reduceNeg, g0, g3, hg, c0, j1, j2]
        simp [hk]
  · rw [List.take_of_length_le (by rw [← bl_size]; omega)] at ha
    have hk : keyP s := by
      refine ⟨by omega, ?_, ha⟩
      rw [hl]
      intro h
      injection h with h
      subst h
      exact hx rfl
    simp (disch := omega) only [go_sem, ↓reduceIte, Nat.reduceEqDiff, Nat.reduceAdd, Nat.reduceMul, Nat.reduceSub, Nat.reduceLT, Nat.reduceLeDiff, Nat.reduceBEq, reduceCtorEq, Int.reduceLT, Int.reduceEq, Int.reduceLE, Int.reduceAdd, Int.reduceSub, Int.reduceToNat, Int.reduceNeg]
    simp [hk]
end Go.Osj
