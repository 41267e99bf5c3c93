/- Contracts carried over from the layers below. -/
import Derived.Test.YtfadbihdmohdiaaGreatDoorPA
set_option linter.unusedVariables false
/- keys.May, and strings.Trim at an ASCII cutset. -/
set_option linter.unusedSimpArgs false
namespace Go.Osj
abbrev bl (s : ByteArray) : List UInt8 := s.data.toList
theorem bl_size (s : ByteArray) : s.size = (bl s).length := by
  show s.data.size = s.data.toList.length
  rw [Array.length_toList]
theorem bl_get (s : ByteArray) (i : Nat) : s[i]? = (bl s)[i]? := by
  by_cases h : i < s.size
  · rw [getElem?_pos s i h, List.getElem?_eq_getElem (by rw [← bl_size]; exact h)]
    rfl
  · rw [getElem?_neg s i h, List.getElem?_eq_none (by rw [← bl_size]; omega)]
theorem bl_ext (s : ByteArray) (l h : Nat) : bl (s.extract l h) = ((bl s).drop l).take (h - l) := by
  simp [bl, ByteArray.data_extract, Array.toList_extract, List.extract_eq_take_drop]
/-- the cells of a set of bytes -/
def setC (f : Nat → Bool) : List Value := (List.range 256).map fun c => .bool (f c)
theorem setC_len (f : Nat → Bool) : (setC f).length = 256 := by simp [setC]
theorem setC_size (f : Nat → Bool) : (setC f).toArray.size = 256 := by simp [setC]
theorem setC_one (f : Nat → Bool) : oneC (setC f) = true := by simp [oneC, setC, Value.oneCell']
theorem setC_get (f : Nat → Bool) {c : Nat} (h : c < 256) : (setC f)[c]? = some (.bool (f c)) := by simp [setC, h]
theorem setC_all (f : Nat → Bool) {p : Value → Bool} (hp : ∀ b, p (.bool b) = true) : (setC f).all p = true := by simp [setC, hp]
theorem setC_drop (f : Nat → Bool) : (setC f).drop 256 = [] := List.drop_of_length_le (by rw [setC_len]; omega)
theorem setC_take (f : Nat → Bool) : (setC f).take 256 = setC f := List.take_of_length_le (by rw [setC_len]; omega)
theorem setC_toList (f : Nat → Bool) : (setC f).toArray.toList = setC f := rfl
theorem wrote_full (cs news : List Value) (h : cs.length = news.length) : wrote cs 0 news = news := by
  unfold wrote
  rw [List.drop_of_length_le (by omega)]
  simp
theorem setC_wrote (f g : Nat → Bool) : wrote (setC f) 0 (setC g) = setC g := wrote_full _ _ (by simp [setC])
theorem setC_set (f : Nat → Bool) {c : Nat} (h : c < 256) : wrote (setC f) c [.bool true] = setC fun d => d == c || f d := by
  unfold wrote
  apply List.ext_getElem?
  intro i
  by_cases hi : i < 256
  · rw [setC_get _ hi]
    by_cases h1 : i < c
    · rw [List.append_assoc, List.getElem?_append_left (by simp [setC_len]; omega), List.getElem?_take, if_pos h1, setC_get _ hi]
      have : (i == c) = false := by simp; omega
      rw [this, Bool.false_or]
    · by_cases h2 : i = c
      · subst h2
        rw [List.append_assoc, List.getElem?_append_right (by simp [setC_len]; omega)]
        simp [setC_len, Nat.min_eq_left (Nat.le_of_lt hi)]
      · rw [List.getElem?_append_right (by simp [setC_len]; omega)]
        have e : (List.take c (setC f) ++ [Value.bool true]).length = c + 1 := by simp [setC_len]; omega
        rw [e, List.getElem?_drop]
        have e2 : c + [Value.bool true].length + (i - (c + 1)) = i := by simp; omega
        rw [e2, setC_get _ hi]
        have : (i == c) = false := by simp; omega
        rw [this, Bool.false_or]
  · rw [List.getElem?_eq_none (by simp [setC_len]; omega), List.getElem?_eq_none (by simp [setC_len]; omega)]
def inL (l : List UInt8) (c : Nat) : Bool := l.any fun b => b.toNat == c
theorem F.strings_makeASCIISet.r0' : F.strings_makeASCIISet.r0 = .ef 0 none (.alloc (setC fun _ => false)) (some 2) [] (.rd 1 none (.mv (.const (.bool false))) (some 3) false .done) .none := by kernel_rfl
theorem F.strings_Trim.r5' : F.strings_Trim.r5 =   .rd 0 none (.mv (.tmp 1)) (some 30) false (
  .ef 1 none (.call F.strings_makeASCIISet [(.tmp 30)]) (some 31) [] (
  .rd 2 none (.mv (.tmp 31)) (some 29) false <|
  .rd 3 none (.ext 0 (.tmp 29)) (some 32) false <|
  .rd 4 none (.ext 1 (.tmp 29)) (some 33) false <|
  .ef 5 none (.alloc (setC fun _ => false)) (some 5) [] (
  .ef 6 none (.st 256 (.tmp 5) (.tmp 32)) none [] (
  .rd 7 none (.mv (.tmp 33)) (some 6) false <|
  .done) .none) .none) .none) := by kernel_rfl
theorem F.strings_makeASCIISet_J {S : St} {s : ByteArray} (h : ∀ b ∈ bl s, b.toNat < 128) (hL : s.size < 1000) :
    J PR F.strings_makeASCIISet [.string s] S fun v S' => v = .tuple #[.agg (setC (inL (bl s))).toArray, .bool true] ∧ S = S' := by
  refine J.back (J_by PR.mixed F.strings_makeASCIISet.ok (by simp) ?_)
  simp (disch := omega) only [go_sem, simprocAttr, F.strings_makeASCIISet.r0', setC_len]
  refine wfresh_of fun x hx => ?_
  simp (disch := omega) only [go_sem, simprocAttr, setC_len]
  refine wC_loop (fun n fr S' => ∃ (i : Nat), n = s.size - i ∧ i ≤ s.size ∧ fr 0 = .string s ∧ fr 2 = ptrV x ∧ fr 4 = .int .i64 (i : Nat) ∧ S' = S.put x (.cells true 256 (setC (inL ((bl s).take i))))) s.size
    ⟨0, by simp (disch := omega) only [go_sem, simprocAttr]; exact ⟨by omega, by omega, rfl⟩⟩ ?_
  rintro n fr S' ⟨i, rfl, hi, h0, h2, h4, rfl⟩
  simp (disch := omega) only [go_sem, simprocAttr, F.strings_makeASCIISet.l0, h0, h2, h4]
  refine wcond_dec (fun hlt => ?_) (fun hge => ?_)
  · have hlx : i < (bl s).length := by rw [← bl_size]; omega
    have hb := h _ (List.getElem_mem hlx)
    have hg : s[i]? = some (bl s)[i] := by rw [bl_get, List.getElem?_eq_getElem hlx]
    have c0 : (0 : Int) ≤ (i : Int) := by omega
    simp (disch := omega) only [go_sem, simprocAttr, h0, h2, h4, hg, c0]
    have c1 : ¬ (128 ≤ ((bl s)[i].toNat : Int)) := by omega
    have c2 : (0 : Int) ≤ ((bl s)[i].toNat : Int) ∧ ((bl s)[i].toNat : Int) < 256 := by omega
    have c3 : (bl s)[i].toNat ≤ 256 := by omega
    have c4 : (bl s)[i].toNat + 1 ≤ 256 := by omega
    simp (disch := omega) only [go_sem, simprocAttr, h0, h2, h4, hg, c0, c1, c2, c3, c4, setC_len]
    refine ⟨by omega, by omega, s.size - (i + 1), by omega, i + 1, rfl, by omega, rfl, ?_⟩
    rw [Nat.mul_one]
    show S.put x (.cells true 256 (wrote (setC _) _ [.bool true])) = _
    rw [setC_set _ (by omega), take_snoc (List.getElem?_eq_getElem hlx)]
    congr 3
    funext d
    simp [inL, List.any_append, Bool.or_comm, Bool.beq_comm (a := d)]
  · have e : (bl s).take i = bl s := List.take_of_length_le (by rw [← bl_size]; omega)
    simp (disch := omega) only [go_sem, simprocAttr, h0, h2, h4, setC_len, setC_take, setC_size, setC_drop, List.append_nil, e]
    refine ⟨setC_all _ (fun _ => rfl), ?_⟩
    exact (St.Ext.refl S).put hx _
theorem F.strings_asciiSet_contains_J {S : St} {x : Nat} {f : Nat → Bool} {c : Nat} (hx : S.obj x = some (.cells true 256 (setC f))) (hc : c < 256) :
    J PR F.strings_asciiSet_contains [ptrV x, .int .u8 c] S fun v S' => v = .bool (f c) ∧ S = S' := by
  have h1 : S.cell ⟨x, c, none⟩ = some (.bool (f c)) := by rw [St.cell_def, hx]; exact setC_get f hc
  have c2 : (0 : Int) ≤ (c : Int) ∧ (c : Int) < 256 := by omega
  refine J_by PR.mixed F.strings_asciiSet_contains.ok (by simp) ?_
  simp (disch := omega) only [go_sem, simprocAttr, h1, c2, Nat.mul_one]
theorem bnd_none {fr : Fr} {y d : Nat} : bnd fr y d none = some d := rfl
theorem bnd_some {fr : Fr} {y d : Nat} {x : Operand} : bnd fr y d (some x) = (match ev fr x with | .int _ n => if 0 ≤ n ∧ n ≤ y then some n.toNat else none | _ => none) := rfl
theorem F.strings_trimRightASCII_J {S : St} {x : Nat} {f : Nat → Bool} {s : ByteArray} (hx : S.obj x = some (.cells true 256 (setC f))) (hL : s.size < 1000) :
    J PR F.strings_trimRightASCII [.string s, ptrV x] S fun v S' => (∃ t r, v = .string t ∧ bl s = bl t ++ r ∧ (∀ b ∈ r, f b.toNat = true) ∧ (t.size = 0 ∨ ∃ b ∈ bl t, f b.toNat = false)) ∧ S = S' := by
  refine J_by PR.mixed F.strings_trimRightASCII.ok (by simp) ?_
  simp (disch := omega) only [go_sem, simprocAttr]
  refine wC_loop (fun n fr S' => ∃ t r, n = t.size ∧ fr 0 = .string t ∧ fr 1 = ptrV x ∧ bl s = bl t ++ r ∧ (∀ b ∈ r, f b.toNat = true) ∧ S = S') s.size ⟨s, [], by simp (disch := omega) only [go_sem, simprocAttr]; simp⟩ ?_
  rintro n fr S' ⟨t, r, rfl, h0, h1, hs, hr, rfl⟩
  have hts : t.size ≤ s.size := by rw [bl_size, bl_size, hs, List.length_append]; omega
  simp (disch := omega) only [go_sem, simprocAttr, F.strings_trimRightASCII.l0, h0, h1]
  refine wcond_dec (fun hlt => ?_) (fun hge => ?_)
  · have hlx : t.size - 1 < (bl t).length := by rw [← bl_size]; omega
    have hg : t[t.size - 1]? = some (bl t)[t.size - 1] := by rw [bl_get, List.getElem?_eq_getElem hlx]
    have e1 : IntKind.i64.wrap ((t.size : Int) - 1) = ((t.size - 1 : Nat) : Int) := by rw [wrap64 (by omega) (by omega)]; omega
    have e2 : (t.size : Int) - 1 = ((t.size - 1 : Nat) : Int) := by omega
    have c0 : (0 : Int) ≤ ((t.size - 1 : Nat) : Int) := by omega
    simp (disch := omega) only [go_sem, simprocAttr, h0, h1, hg, e1, e2, c0]
    have hb8 := (bl t)[t.size - 1].toNat_lt
    refine wJ_of (F.strings_asciiSet_contains_J hx hb8) ?_; rintro _ _ ⟨rfl, rfl⟩
    by_cases hf : f (bl t)[t.size - 1].toNat = true
    · have c2 : (0 : Int) ≤ ((t.size - 1 : Nat) : Int) ∧ ((t.size - 1 : Nat) : Int) ≤ (t.size : Int) := by omega
      have c3 : (0 : Int) ≤ (0 : Int) ∧ (0 : Int) ≤ ((t.size - 1 : Nat) : Int) := by omega
      simp (disch := omega) only [go_sem, simprocAttr, h0, h1, hg, e1, e2, c0, hf, bnd_none, bnd_some, c2, c3]
      have ht : bl t = bl (t.extract 0 (t.size - 1)) ++ [(bl t)[t.size - 1]] := by
        rw [bl_ext, List.drop_zero, Nat.sub_zero, ← take_snoc (List.getElem?_eq_getElem hlx), List.take_of_length_le (by have := bl_size t; omega)]
      refine ⟨t.size - 1, by omega, _, (bl t)[t.size - 1] :: r, ?_, rfl, ?_, ?_⟩
      · rw [ByteArray.size_extract]; omega
      · refine hs.trans ?_
        have := congrArg (· ++ r) ht
        simp only [List.append_assoc, List.singleton_append] at this
        exact this
      · intro b hb
        rcases List.mem_cons.1 hb with rfl | hb
        · exact hf
        · exact hr b hb
    · replace hf := Bool.eq_false_iff.2 hf
      simp (disch := omega) only [go_sem, simprocAttr, h0, h1, hg, e1, e2, c0, hf]
      exact ⟨t, r, rfl, hs, hr, .inr ⟨_, List.getElem_mem hlx, hf⟩⟩
  · simp (disch := omega) only [go_sem, simprocAttr, h0, h1]
    exact ⟨t, r, rfl, hs, hr, .inl (by omega)⟩
theorem F.strings_trimLeftASCII_J {S : St} {x : Nat} {f : Nat → Bool} {s : ByteArray} (hx : S.obj x = some (.cells true 256 (setC f))) (hL : s.size < 1000) :
    J PR F.strings_trimLeftASCII [.string s, ptrV x] S fun v S' => (∃ t r, v = .string t ∧ bl s = r ++ bl t ∧ (∀ b ∈ r, f b.toNat = true) ∧ (t.size = 0 ∨ ∃ b ∈ bl t, f b.toNat = false)) ∧ S = S' := by
  refine J_by PR.mixed F.strings_trimLeftASCII.ok (by simp) ?_
  simp (disch := omega) only [go_sem, simprocAttr]
  refine wC_loop (fun n fr S' => ∃ t r, n = t.size ∧ fr 0 = .string t ∧ fr 1 = ptrV x ∧ bl s = r ++ bl t ∧ (∀ b ∈ r, f b.toNat = true) ∧ S = S') s.size ⟨s, [], by simp (disch := omega) only [go_sem, simprocAttr]⟩ ?_
  rintro n fr S' ⟨t, r, rfl, h0, h1, hs, hr, rfl⟩
  have hts : t.size ≤ s.size := by rw [bl_size, bl_size, hs, List.length_append]; omega
  simp (disch := omega) only [go_sem, simprocAttr, F.strings_trimLeftASCII.l0, h0, h1]
  refine wcond_dec (fun hlt => ?_) (fun hge => ?_)
  · have hlx : 0 < (bl t).length := by rw [← bl_size]; omega
    have hg : t[0]? = some (bl t)[0] := by rw [bl_get, List.getElem?_eq_getElem hlx]
    simp (disch := omega) only [go_sem, simprocAttr, h0, h1, hg]
    have hb8 := (bl t)[0].toNat_lt
    refine wJ_of (F.strings_asciiSet_contains_J hx hb8) ?_; rintro _ _ ⟨rfl, rfl⟩
    by_cases hf : f (bl t)[0].toNat = true
    · have c3 : (0 : Int) ≤ (1 : Int) ∧ (1 : Int) ≤ (t.size : Int) := by omega
      simp (disch := omega) only [go_sem, simprocAttr, h0, h1, hg, hf, bnd_none, bnd_some, c3]
      have ht : bl t = (bl t)[0] :: bl (t.extract 1 t.size) := by
        rw [bl_ext, bl_size, List.take_of_length_le (by simp), ← List.drop_eq_getElem_cons hlx, List.drop_zero]
      refine ⟨t.size - 1, by omega, _, r ++ [(bl t)[0]], ?_, rfl, ?_, ?_⟩
      · rw [ByteArray.size_extract]; omega
      · refine hs.trans ?_
        have := congrArg (r ++ ·) ht
        rw [List.append_assoc, List.singleton_append]
        exact this
      · intro b hb
        rcases List.mem_append.1 hb with hb | hb
        · exact hr b hb
        · simp at hb; subst hb; exact hf
    · replace hf := Bool.eq_false_iff.2 hf
      simp (disch := omega) only [go_sem, simprocAttr, h0, h1, hg, hf]
      exact ⟨t, r, rfl, hs, hr, .inr ⟨_, List.getElem_mem hlx, hf⟩⟩
  · simp (disch := omega) only [go_sem, simprocAttr, h0, h1]
    exact ⟨t, r, rfl, hs, hr, .inl (by omega)⟩
theorem F.strings_Trim_J {S : St} {s cs : ByteArray} (hc : 1 < cs.size) (hc2 : cs.size < 1000) (hcs : ∀ b ∈ bl cs, b.toNat < 128) (hL : s.size < 1000) :
    J PR F.strings_Trim [.string s, .string cs] S fun v S' => (∃ t, v = .string t ∧ (t.size = 0 ↔ ∀ b ∈ bl s, inL (bl cs) b.toNat = true)) ∧ S = S' := by
  have hcs0 : (cs == ⟨#[]⟩) = false := by rw [ba_beq, decide_eq_false_iff_not]; rintro rfl; exact absurd hc (by decide)
  refine J.back (J_by PR.mixed F.strings_Trim.ok (by simp) ?_)
  simp (disch := omega) only [go_sem, simprocAttr, hcs0]
  by_cases h0 : (s == ⟨#[]⟩) = true
  · have h00 : s.size = 0 := by rw [ba_beq, decide_eq_true_eq] at h0; subst h0; rfl
    have hnil : bl s = [] := List.length_eq_zero_iff.1 (by rw [← bl_size]; exact h00)
    simp (disch := omega) only [go_sem, simprocAttr, h0]
    exact ⟨⟨s, rfl, by simp [h00, hnil]⟩, St.Ext.refl S⟩
  have h1 : ¬ ((cs.size : Int) = 1) := by omega
  replace h0 := Bool.eq_false_iff.2 h0
  simp (disch := omega) only [go_sem, simprocAttr, h0, h1, hcs0, F.strings_Trim.r5']
  refine wJ_of (F.strings_makeASCIISet_J hcs hc2) ?_; rintro _ _ ⟨rfl, rfl⟩
  simp (disch := omega) only [go_sem, simprocAttr, F.strings_Trim.r5', setC_len]
  refine wfresh_of fun x hx => ?_
  simp (disch := omega) only [go_sem, simprocAttr, setC_len, setC_size, setC_drop, List.append_nil]
  refine ⟨setC_all _ (fun _ => rfl), ?_⟩
  refine wJ_of (F.strings_trimRightASCII_J (St.put_same _ _ _) hL) ?_; rintro _ _ ⟨⟨t, r, rfl, hs, hr, -⟩, rfl⟩
  have hts : t.size ≤ s.size := by rw [bl_size, bl_size, hs, List.length_append]; omega
  simp (disch := omega) only [go_sem, simprocAttr]
  refine wJ_of (F.strings_trimLeftASCII_J (St.put_same _ _ _) (by omega)) ?_; rintro _ _ ⟨⟨u, q, rfl, ht, hq, hu⟩, rfl⟩
  simp (disch := omega) only [go_sem, simprocAttr]
  refine ⟨⟨u, rfl, fun h b hb => ?_, fun h => ?_⟩, (St.Ext.refl S).put hx _⟩
  · have hnil : bl u = [] := List.length_eq_zero_iff.1 (by rw [← bl_size]; exact h)
    rw [hs, ht, hnil] at hb
    simp only [List.append_nil, List.mem_append] at hb
    rcases hb with hb | hb
    · exact hq b hb
    · exact hr b hb
  · rcases hu with hu | ⟨b, hb, hf⟩
    · exact hu
    · have := h b (by rw [hs, ht]; simp [hb])
      rw [this] at hf
      cases hf
/-- a key that may be -/
def keyP (s : ByteArray) : Prop := (0 < s.size ∧ s.size ≤ 200) ∧ (bl s).getLast? ≠ some 97 ∧ ∀ b ∈ bl s, 97 ≤ b.toNat ∧ b.toNat ≤ 122
instance (s : ByteArray) : Decidable (keyP s) := inferInstanceAs (Decidable (_ ∧ _ ∧ _))
def lowS : ByteArray := ⟨#[97, 98, 99, 100, 101, 102, 103, 104, 105, 106, 107, 108, 109, 110, 111, 112, 113, 114, 115, 116, 117, 118, 119, 120, 121, 122]⟩
theorem lowS_in (b : UInt8) : inL (bl lowS) b.toNat = true ↔ 97 ≤ b.toNat ∧ b.toNat ≤ 122 := by
  have h := b.toNat_lt
  have : ∀ n : Fin 256, inL (bl lowS) n.1 = true ↔ 97 ≤ n.1 ∧ n.1 ≤ 122 := by decide +kernel
  exact this ⟨b.toNat, h⟩
theorem last_at {s : ByteArray} (h : 0 < s.size) : ∃ b, s[s.size - 1]? = some b ∧ (bl s).getLast? = some b := by
  have hlx : s.size - 1 < (bl s).length := by rw [← bl_size]; omega
  refine ⟨(bl s)[s.size - 1], by rw [bl_get, List.getElem?_eq_getElem hlx], ?_⟩
  rw [List.getLast?_eq_getElem?, ← bl_size, List.getElem?_eq_getElem hlx]
theorem F.keys_May_J {S : St} {s : ByteArray} : J PR F.keys_May [.string s] S fun v S' => v = .bool (decide (keyP s)) ∧ S = S' := by
  refine J_by PR.mixed F.keys_May.ok (by simp) ?_
  by_cases h1 : 0 < s.size ∧ s.size ≤ 200
  · obtain ⟨b, hb, hl⟩ := last_at h1.1
    have i1 : (0 : Int) < (s.size : Int) := by omega
    have i2 : (s.size : Int) ≤ 200 := by omega
    have e1 : IntKind.i64.wrap ((s.size : Int) - 1) = ((s.size - 1 : Nat) : Int) := by rw [wrap64 (by omega) (by omega)]; omega
    have e2 : (s.size : Int) - 1 = ((s.size - 1 : Nat) : Int) := by omega
    have c0 : (0 : Int) ≤ ((s.size - 1 : Nat) : Int) := by omega
    by_cases hx : b = 97
    · subst hx
      have e97 : ((UInt8.toNat 97 : Nat) : Int) = 97 := rfl
      simp (disch := omega) only [go_sem, simprocAttr, i1, i2, hb, e1, e2, c0, e97]
      have hk : ¬ keyP s := fun h => h.2.1 hl
      simp [hk]
    · have hx' : ¬ ((b.toNat : Int) = 97) := by
        intro h
        apply hx
        apply UInt8.toNat_inj.1
        show b.toNat = 97
        omega
      simp (disch := omega) only [go_sem, simprocAttr, i1, i2, hb, e1, e2, c0, hx']
      refine wJ_of (F.strings_Trim_J (cs := lowS) (by decide) (by decide) (by decide) (by omega)) ?_; rintro _ _ ⟨⟨t, rfl, ht⟩, rfl⟩
      simp only [lowS_in] at ht
      have et : (t == ⟨#[]⟩) = decide (t.size = 0) := by
        rw [ba_beq, decide_eq_decide]
        refine ⟨fun h => by subst h; rfl, fun h => ?_⟩
        apply ByteArray.ext
        exact Array.eq_empty_of_size_eq_zero h
      simp (disch := omega) only [go_sem, simprocAttr, i1, i2, hb, e1, e2, c0, hx', et]
      congr 1
      rw [decide_eq_decide, ht]
      refine ⟨fun h => ⟨h1, ?_, h⟩, fun h => h.2.2⟩
      rw [hl]
      simpa using hx
  · have hk : ¬ keyP s := fun h => h1 h.1
    by_cases h0 : 0 < s.size
    · have i1 : (0 : Int) < (s.size : Int) := by omega
      have i2 : ¬ ((s.size : Int) ≤ 200) := by omega
      simp (disch := omega) only [go_sem, simprocAttr, i1, i2]
      simp [hk]
    · have i1 : ¬ ((0 : Int) < (s.size : Int)) := by omega
      simp (disch := omega) only [go_sem, simprocAttr, i1]
      simp [hk]
theorem F.osierref06_May_J {S : St} {s : ByteArray} : J PR F.osierref06_May [.string s] S fun v S' => v = .bool (decide (keyP s)) ∧ S = S' := by
  refine J_by PR.mixed F.osierref06_May.ok (by simp) ?_
  simp (disch := omega) only [go_sem, simprocAttr]
  by_cases h0 : s.size = 0
  · have hk : ¬ keyP s := fun h => by have := h.1; omega
    simp (disch := omega) only [go_sem, simprocAttr, h0]
    simp [hk]
  have i1 : ¬ ((s.size : Int) = 0) := by omega
  by_cases h2 : 200 < s.size
  · have hk : ¬ keyP s := fun h => by have := h.1; omega
    have i2 : (200 : Int) < (s.size : Int) := by omega
    simp (disch := omega) only [go_sem, simprocAttr, i1, i2]
    simp [hk]
  have i2 : ¬ ((200 : Int) < (s.size : Int)) := by omega
  obtain ⟨b, hb, hl⟩ := last_at (s := s) (by omega)
  have e1 : IntKind.i64.wrap ((s.size : Int) - 1) = ((s.size - 1 : Nat) : Int) := by rw [wrap64 (by omega) (by omega)]; omega
  have e2 : (s.size : Int) - 1 = ((s.size - 1 : Nat) : Int) := by omega
  have c0 : (0 : Int) ≤ ((s.size - 1 : Nat) : Int) := by omega
  simp (disch := omega) only [go_sem, simprocAttr, i1, i2, hb, e1, e2, c0]
  refine wcond_dec (fun hx => ?_) (fun hx => ?_)
  · have hk : ¬ keyP s := fun h => by
      apply h.2.1
      rw [hl]
      congr 1
      apply UInt8.toNat_inj.1
      show b.toNat = 97
      omega
    simp (disch := omega) only [go_sem, simprocAttr]
    simp [hk]
  simp (disch := omega) only [go_sem, simprocAttr]
  refine wC_loop (fun n fr S' => ∃ i : Nat, n = s.size - i ∧ i ≤ s.size ∧ fr 0 = .string s ∧ fr 3 = .int .i64 (i : Nat) ∧ S = S' ∧ ∀ b ∈ (bl s).take i, 97 ≤ b.toNat ∧ b.toNat ≤ 122) s.size ⟨0, by simp (disch := omega) only [go_sem, simprocAttr]; simp⟩ ?_
  rintro n fr S' ⟨i, rfl, hi, g0, g3, rfl, ha⟩
  simp (disch := omega) only [go_sem, simprocAttr, F.osierref06_May.l0, g0, g3]
  refine wcond_dec (fun hlt => ?_) (fun hge => ?_)
  · have hlx : i < (bl s).length := by rw [← bl_size]; omega
    have hg : s[i]? = some (bl s)[i] := by rw [bl_get, List.getElem?_eq_getElem hlx]
    have c0 : (0 : Int) ≤ (i : Int) := by omega
    by_cases hr : 97 ≤ (bl s)[i].toNat ∧ (bl s)[i].toNat ≤ 122
    · have j1 : ¬ (((bl s)[i].toNat : Int) < 97) := by omega
      have j2 : ¬ ((122 : Int) < ((bl s)[i].toNat : Int)) := by omega
      simp (disch := omega) only [go_sem, simprocAttr, g0, g3, hg, c0, j1, j2]
      refine ⟨s.size - (i + 1), by omega, i + 1, rfl, by omega, rfl, ?_⟩
      rw [take_snoc (List.getElem?_eq_getElem hlx)]
      intro b hb
      rcases List.mem_append.1 hb with hb | hb
      · exact ha b hb
      · simp only [List.mem_singleton] at hb; subst hb; exact hr
    · have hk : ¬ keyP s := fun h => hr (h.2.2 _ (List.getElem_mem hlx))
      by_cases h97 : (bl s)[i].toNat < 97
      · have j1 : (((bl s)[i].toNat : Int) < 97) := by omega
        simp (disch := omega) only [go_sem, simprocAttr, g0, g3, hg, c0, j1]
        simp [hk]
      · have j1 : ¬ (((bl s)[i].toNat : Int) < 97) := by omega
        have j2 : ((122 : Int) < ((bl s)[i].toNat : Int)) := by omega
        simp (disch := omega) only [go_sem, simprocAttr, g0, g3, hg, c0, j1, j2]
        simp [hk]
  · rw [List.take_of_length_le (by rw [← bl_size]; omega)] at ha
    have hk : keyP s := by
      refine ⟨by omega, ?_, ha⟩
      rw [hl]
      intro h
      injection h with h
      subst h
      exact hx rfl
    simp (disch := omega) only [go_sem, simprocAttr]
    simp [hk]
end Go.Osj

/- Operations: whether one may be. -/
set_option linter.unusedSimpArgs false
set_option maxHeartbeats 2000000
namespace Go.Osj
structure OpA where
  id : Dot
  time : Int
  deps : List Dot
  kind : Int
  block : Dot
  at_ : Dot
  side : Int
  char : Int
  parent : Dot
  key : ByteArray
def opC (o : OpA) (d : Value) : List Value := [.int .i64 o.id.1, .int .i64 o.id.2, .int .i64 o.time, d, .int .i64 o.kind, .int .i64 o.block.1, .int .i64 o.block.2, .int .i64 o.at_.1, .int .i64 o.at_.2, .int .i64 o.side, .int .i64 o.char, .int .i64 o.parent.1, .int .i64 o.parent.2, .string o.key]
abbrev opV (o : OpA) (d : Value) : Value := .agg (opC o d).toArray
theorem opC_len (o : OpA) (d : Value) : (opC o d).length = 14 := rfl
theorem opC_toList (o : OpA) (d : Value) : (opC o d).toArray.toList = opC o d := rfl
theorem opC_take (o : OpA) (d : Value) : (opC o d).take 14 = opC o d := rfl
def opB (S : St) (w : Nat) (o : OpA) (d : Value) : Prop := w < S.n ∧ S.obj w = some (.cells true 14 (opC o d))
theorem opB.ext {S S' : St} {w : Nat} {o : OpA} {d : Value} (h : opB S w o d) (he : S.Ext S') : opB S' w o d := ⟨Nat.lt_of_lt_of_le h.1 he.n, (he.obj w h.1).trans h.2⟩
theorem opB.put {S : St} {w : Nat} {o : OpA} {d : Value} : opB (S.put w (.cells true 14 (opC o d))) w o d := ⟨St.lt_put_self _ _ _, St.put_same _ _ _⟩
theorem opB.c {S : St} {w : Nat} {o : OpA} {d : Value} (h : opB S w o d) :
    (S.cell ⟨w, 0, none⟩ = some (.int .i64 o.id.1) ∧ S.cell ⟨w, 1, none⟩ = some (.int .i64 o.id.2) ∧ S.cell ⟨w, 2, none⟩ = some (.int .i64 o.time) ∧ S.cell ⟨w, 3, none⟩ = some d ∧ S.cell ⟨w, 4, none⟩ = some (.int .i64 o.kind) ∧ S.cell ⟨w, 9, none⟩ = some (.int .i64 o.side) ∧ S.cell ⟨w, 10, none⟩ = some (.int .i64 o.char) ∧ S.cell ⟨w, 13, none⟩ = some (.string o.key)) ∧
    (S.loadN ⟨w, 0, none⟩ 2 = some [.int .i64 o.id.1, .int .i64 o.id.2] ∧ S.loadN ⟨w, 5, none⟩ 2 = some [.int .i64 o.block.1, .int .i64 o.block.2] ∧ S.loadN ⟨w, 7, none⟩ 2 = some [.int .i64 o.at_.1, .int .i64 o.at_.2] ∧ S.loadN ⟨w, 11, none⟩ 2 = some [.int .i64 o.parent.1, .int .i64 o.parent.2]) ∧
    S.loadN ⟨w, 0, none⟩ 14 = some (opC o d) := by
  simp only [St.cell_def, St.loadN_def, h.2]
  simp [opC]
/-- an operation that may be -/
def mayH (o : OpA) : Prop := mayP o.id ∧ 1 ≤ o.time ∧ o.time ≤ 1099511627776 ∧ isV o.deps ∧ getV o.deps o.id.1 = o.id.2 - 1
def may1 (o : OpA) : Prop := (o.at_ = (0, 0) → o.side = 1) ∧ (o.at_ ≠ (0, 0) → hasP o.deps o.at_) ∧ (o.side = 0 ∨ o.side = 1) ∧ hasP o.deps o.block ∧ 0 ≤ o.char ∧ o.char ≤ 1114111 ∧ (o.char < 55296 ∨ 57343 < o.char) ∧ o.parent = (0, 0) ∧ o.key = ⟨#[]⟩
def may2 (o : OpA) : Prop := hasP o.deps o.block ∧ hasP o.deps o.at_ ∧ o.side = 0 ∧ o.char = 0 ∧ o.parent = (0, 0) ∧ o.key = ⟨#[]⟩
def may3 (o : OpA) : Prop := (o.block = o.id ∨ hasP o.deps o.block) ∧ (o.parent = (0, -1) ∨ o.parent = (0, -2) ∨ hasP o.deps o.parent) ∧ o.parent ≠ o.block ∧ keyP o.key ∧ o.at_ = (0, 0) ∧ o.side = 0 ∧ o.char = 0
instance (o : OpA) : Decidable (may1 o) := inferInstanceAs (Decidable (_ ∧ _))
instance (o : OpA) : Decidable (may2 o) := inferInstanceAs (Decidable (_ ∧ _))
instance (o : OpA) : Decidable (may3 o) := inferInstanceAs (Decidable (_ ∧ _))
instance (o : OpA) : Decidable (mayH o) := inferInstanceAs (Decidable (_ ∧ _))
def mayO (o : OpA) : Prop := mayH o ∧ ((o.kind = 1 ∧ may1 o) ∨ (o.kind = 2 ∧ may2 o) ∨ (o.kind = 3 ∧ may3 o))
instance (o : OpA) : Decidable (mayO o) := inferInstanceAs (Decidable (_ ∧ _))

theorem F.ops_Check_c1_J {S : St} {w : Nat} {o : OpA} {dv : Value} {d : Dot} (hw : opB S w o dv) (hd : SlT dotE S dv o.deps) (hL : o.deps.length < 9223372036854775808) : J PR F.ops_Check_c1 [dotV d, ptrV w] S fun v S' => v = .bool (decide (hasP o.deps d)) ∧ S = S' := by
  refine J.back (J_by PR.mixed F.ops_Check_c1.ok (by simp) ?_)
  simp (disch := omega) only [go_sem, simprocAttr]
  refine wfresh_of fun x hx => ?_
  have he := (St.Ext.refl S).put hx (.cells true 2 [.int .i64 d.1, .int .i64 d.2])
  have hc := (hw.ext he).c
  simp (disch := omega) only [go_sem, simprocAttr, hc]
  refine wJ_of (F.vector_Has_J (hd.ext dotE he) hL) ?_; rintro _ _ ⟨rfl, rfl⟩
  simp (disch := omega) only [go_sem, simprocAttr]
  exact he
theorem F.ops_Check_c1_call {S : St} {w : Nat} {o : OpA} {dv : Value} {d : Dot} {k : KV} (hw : opB S w o dv) (hd : SlT dotE S dv o.deps) (hL : o.deps.length < 9223372036854775808) (hk : k.run (.bool (decide (hasP o.deps d))) S) :
    @wcallv PR (.func (.func F.ops_Check_c1) #[] #[ptrV w]) [dotV d] S k :=
  ⟨F.ops_Check_c1.cl, (F.ops_Check_c1_J hw hd hL).mono fun v S' ⟨h1, h2⟩ => by subst h1 h2; exact hk⟩
theorem F.api_Root_J {S : St} : J PR F.api_Root [] S fun v S' => v = dotV (0, -1) ∧ S = S' := by
  refine J.back (J_by PR.mixed F.api_Root.ok (by simp) ?_)
  simp (disch := omega) only [go_sem, simprocAttr]
  refine wfresh_of fun x hx => ?_
  simp (disch := omega) only [go_sem, simprocAttr]
  exact (St.Ext.refl S).put hx _
theorem F.api_Trash_J {S : St} : J PR F.api_Trash [] S fun v S' => v = dotV (0, -2) ∧ S = S' := by
  refine J.back (J_by PR.mixed F.api_Trash.ok (by simp) ?_)
  simp (disch := omega) only [go_sem, simprocAttr]
  refine wfresh_of fun x hx => ?_
  simp (disch := omega) only [go_sem, simprocAttr]
  exact (St.Ext.refl S).put hx _
theorem wE_boxO {fr : Fr} {S : St} {x : Operand} {k : KV} {o : OpA} {dv : Value} (hx : ev fr x = opV o dv) (hk : ∀ w S1, S.Ext S1 → opB S1 w o dv → S.n ≤ w → k.run (ptrV w) S1) :
    @wfresh S.n ⟨fun b => k.run (.pointer (some ⟨b, 0, none⟩)) (S.put b (.cells true (ev fr x).cells.toList.length (ev fr x).cells.toList))⟩ := by
  refine wfresh_of fun b hb => ?_
  rw [hx]
  exact hk b _ ((St.Ext.refl S).put hb _) opB.put hb
theorem F.ops_Check_J {S : St} {o : OpA} {dv : Value} (hd : SlT dotE S dv o.deps) (hL : o.deps.length < 9223372036854775808) : J PR F.ops_Check [opV o dv] S fun v S' => v = .bool (decide (mayO o)) ∧ S = S' := by
  refine J.back (J_by PR.mixed F.ops_Check.ok (by simp) ?_)
  simp (disch := omega) only [go_sem, simprocAttr]
  refine wE_boxO (o := o) (dv := dv) rfl fun w S1 he hwb hw => ?_
  have hd1 := hd.ext dotE he
  have hc := hwb.c
  simp (disch := omega) only [go_sem, simprocAttr, hc]
  refine wJ_of F.dots_May_P ?_; rintro _ _ ⟨rfl, rfl⟩
  have yes : mayO o → Value.bool true = Value.bool (decide (mayO o)) := fun h => by rw [decide_eq_true h]
  have nk : ¬ mayO o → Value.bool false = Value.bool (decide (mayO o)) := fun h => by rw [decide_eq_false h]
  by_cases m1 : mayP o.id
  rotate_left
  · simp (disch := omega) only [go_sem, simprocAttr, hc, m1]
    exact ⟨nk fun h => m1 h.1.1, he⟩
  by_cases m2 : o.time < 1
  · simp (disch := omega) only [go_sem, simprocAttr, hc, m1, m2]
    exact ⟨nk fun h => by have := h.1.2.1; omega, he⟩
  by_cases m3 : 1099511627776 < o.time
  · simp (disch := omega) only [go_sem, simprocAttr, hc, m1, m2, m3]
    exact ⟨nk fun h => by have := h.1.2.2.1; omega, he⟩
  simp (disch := omega) only [go_sem, simprocAttr, hc, m1, m2, m3]
  refine wJ_of (F.vector_May_J hd1 hL) ?_; rintro _ _ ⟨rfl, rfl⟩
  by_cases m4 : isV o.deps
  rotate_left
  · simp (disch := omega) only [go_sem, simprocAttr, hc, m4]
    exact ⟨nk fun h => m4 h.1.2.2.2.1, he⟩
  simp (disch := omega) only [go_sem, simprocAttr, hc, m4]
  refine wJ_of (F.vector_Get_J hd1 hL) ?_; rintro _ _ ⟨rfl, rfl⟩
  have e1 : IntKind.i64.wrap (o.id.2 - 1) = o.id.2 - 1 := by have := m1.2.2; exact wrap64 (by omega) (by omega)
  by_cases m5 : getV o.deps o.id.1 = o.id.2 - 1
  rotate_left
  · simp (disch := omega) only [go_sem, simprocAttr, hc, m4, m5, e1]
    exact ⟨nk fun h => m5 h.1.2.2.2.2, he⟩
  have hmh : mayH o := ⟨m1, by omega, by omega, m4, m5⟩
  simp (disch := omega) only [go_sem, simprocAttr, hc, m4, m5, e1]
  refine wfresh_of fun y hy => ?_
  have he2 := (St.Ext.refl S1).put hy (.cells true 2 [.int .i64 0, .int .i64 0])
  have he12 := he.trans he2
  have hwb2 := hwb.ext he2
  have hd2 := hd1.ext dotE he2
  have hn2 : (S1.put y (.cells true 2 [.int .i64 0, .int .i64 0])).loadN ⟨y, 0, none⟩ 2 = some [.int .i64 0, .int .i64 0] := by simp (disch := omega) only [go_sem, simprocAttr]
  have hc2 := hwb2.c
  have eqD : ∀ a : Dot, eqV [.i .i64, .i .i64] true (dotV a) (.agg #[.int .i64 0, .int .i64 0]) = some (decide (a = (0, 0))) := fun a => eqV_dot a (0, 0)
  simp (disch := omega) only [go_sem, simprocAttr]
  generalize S1.put y (.cells true 2 [.int .i64 0, .int .i64 0]) = S2 at *
  by_cases k1 : o.kind = 1
  · have K : mayO o → may1 o := fun h => by
      rcases h.2 with h | h | h
      · exact h.2
      · exact absurd h.1 (by omega)
      · exact absurd h.1 (by omega)
    by_cases a0 : o.at_ = (0, 0)
    · have ea := (eqD o.at_).trans (congrArg some (decide_eq_true a0))
      by_cases s1 : o.side = 1
      rotate_left
      · simp (disch := omega) only [go_sem, simprocAttr, hc2, hn2, k1, ea, s1]
        exact ⟨nk fun h => s1 ((K h).1 a0), he12⟩
      simp (disch := omega) only [go_sem, simprocAttr, hc2, hn2, k1, ea, s1]
      refine F.ops_Check_c1_call hwb2 hd2 hL ?_
      by_cases b1 : hasP o.deps o.block
      rotate_left
      · simp (disch := omega) only [go_sem, simprocAttr, hc2, hn2, k1, ea, s1, b1]
        exact ⟨nk fun h => b1 (K h).2.2.2.1, he12⟩
      by_cases b2 : 0 ≤ o.char
      rotate_left
      · simp (disch := omega) only [go_sem, simprocAttr, hc2, hn2, k1, ea, s1, b1, b2]
        exact ⟨nk fun h => b2 (K h).2.2.2.2.1, he12⟩
      by_cases b3 : o.char ≤ 1114111
      rotate_left
      · simp (disch := omega) only [go_sem, simprocAttr, hc2, hn2, k1, ea, s1, b1, b2, b3]
        exact ⟨nk fun h => b3 (K h).2.2.2.2.2.1, he12⟩
      have esh : o.char.fdiv (2 ^ min 11 64) = o.char / 2048 := by rw [show ((2 : Int) ^ min 11 64) = 2048 from by decide]; exact Int.fdiv_eq_ediv_of_nonneg _ (by decide)
      by_cases b4 : o.char.fdiv (2 ^ min 11 64) = 27
      · simp (disch := omega) only [go_sem, simprocAttr, hc2, hn2, k1, ea, s1, b1, b2, b3, b4]
        rw [esh] at b4
        exact ⟨nk fun h => by have := (K h).2.2.2.2.2.2.1; omega, he12⟩
      have b4' := b4
      rw [esh] at b4'
      by_cases p1 : o.parent = (0, 0)
      rotate_left
      · have ep1 := (eqD o.parent).trans (congrArg some (decide_eq_false p1))
        simp (disch := omega) only [go_sem, simprocAttr, hc2, hn2, k1, ea, s1, b1, b2, b3, b4, ep1]
        exact ⟨nk fun h => p1 (K h).2.2.2.2.2.2.2.1, he12⟩
      have ep1 := (eqD o.parent).trans (congrArg some (decide_eq_true p1))
      have ek : (o.key == ⟨#[]⟩) = decide (o.key = ⟨#[]⟩) := ba_beq _ _
      by_cases y1 : o.key = ⟨#[]⟩
      rotate_left
      · rw [decide_eq_false y1] at ek
        simp (disch := omega) only [go_sem, simprocAttr, hc2, hn2, k1, ea, s1, b1, b2, b3, b4, ep1, ek]
        exact ⟨nk fun h => y1 (K h).2.2.2.2.2.2.2.2, he12⟩
      rw [decide_eq_true y1] at ek
      simp (disch := omega) only [go_sem, simprocAttr, hc2, hn2, k1, ea, s1, b1, b2, b3, b4, ep1, ek]
      exact ⟨yes ⟨hmh, .inl ⟨k1, fun _ => s1, fun h => absurd a0 h, .inr s1, b1, b2, b3, by omega, p1, y1⟩⟩, he12⟩
    · have ea := (eqD o.at_).trans (congrArg some (decide_eq_false a0))
      simp (disch := omega) only [go_sem, simprocAttr, hc2, hn2, k1, ea]
      refine F.ops_Check_c1_call hwb2 hd2 hL ?_
      by_cases a1 : hasP o.deps o.at_
      rotate_left
      · simp (disch := omega) only [go_sem, simprocAttr, hc2, hn2, k1, ea, a1]
        exact ⟨nk fun h => a1 ((K h).2.1 a0), he12⟩
      by_cases s0 : o.side = 0
      · have s0' : ¬ o.side = 1 := by omega
        simp (disch := omega) only [go_sem, simprocAttr, hc2, hn2, k1, ea, a1, s0]
        refine F.ops_Check_c1_call hwb2 hd2 hL ?_
        by_cases b1 : hasP o.deps o.block
        rotate_left
        · simp (disch := omega) only [go_sem, simprocAttr, hc2, hn2, k1, ea, a1, s0, b1]
          exact ⟨nk fun h => b1 (K h).2.2.2.1, he12⟩
        by_cases b2 : 0 ≤ o.char
        rotate_left
        · simp (disch := omega) only [go_sem, simprocAttr, hc2, hn2, k1, ea, a1, s0, b1, b2]
          exact ⟨nk fun h => b2 (K h).2.2.2.2.1, he12⟩
        by_cases b3 : o.char ≤ 1114111
        rotate_left
        · simp (disch := omega) only [go_sem, simprocAttr, hc2, hn2, k1, ea, a1, s0, b1, b2, b3]
          exact ⟨nk fun h => b3 (K h).2.2.2.2.2.1, he12⟩
        have esh : o.char.fdiv (2 ^ min 11 64) = o.char / 2048 := by rw [show ((2 : Int) ^ min 11 64) = 2048 from by decide]; exact Int.fdiv_eq_ediv_of_nonneg _ (by decide)
        by_cases b4 : o.char.fdiv (2 ^ min 11 64) = 27
        · simp (disch := omega) only [go_sem, simprocAttr, hc2, hn2, k1, ea, a1, s0, b1, b2, b3, b4]
          rw [esh] at b4
          exact ⟨nk fun h => by have := (K h).2.2.2.2.2.2.1; omega, he12⟩
        have b4' := b4
        rw [esh] at b4'
        by_cases p1 : o.parent = (0, 0)
        rotate_left
        · have ep1 := (eqD o.parent).trans (congrArg some (decide_eq_false p1))
          simp (disch := omega) only [go_sem, simprocAttr, hc2, hn2, k1, ea, a1, s0, b1, b2, b3, b4, ep1]
          exact ⟨nk fun h => p1 (K h).2.2.2.2.2.2.2.1, he12⟩
        have ep1 := (eqD o.parent).trans (congrArg some (decide_eq_true p1))
        have ek : (o.key == ⟨#[]⟩) = decide (o.key = ⟨#[]⟩) := ba_beq _ _
        by_cases y1 : o.key = ⟨#[]⟩
        rotate_left
        · rw [decide_eq_false y1] at ek
          simp (disch := omega) only [go_sem, simprocAttr, hc2, hn2, k1, ea, a1, s0, b1, b2, b3, b4, ep1, ek]
          exact ⟨nk fun h => y1 (K h).2.2.2.2.2.2.2.2, he12⟩
        rw [decide_eq_true y1] at ek
        simp (disch := omega) only [go_sem, simprocAttr, hc2, hn2, k1, ea, a1, s0, b1, b2, b3, b4, ep1, ek]
        exact ⟨yes ⟨hmh, .inl ⟨k1, fun h => absurd h a0, fun _ => a1, .inl s0, b1, b2, b3, by omega, p1, y1⟩⟩, he12⟩
      · by_cases s1 : o.side = 1
        rotate_left
        · simp (disch := omega) only [go_sem, simprocAttr, hc2, hn2, k1, ea, a1, s0, s1]
          exact ⟨nk fun h => ((K h).2.2.1).elim s0 s1, he12⟩
        simp (disch := omega) only [go_sem, simprocAttr, hc2, hn2, k1, ea, a1, s0, s1]
        refine F.ops_Check_c1_call hwb2 hd2 hL ?_
        by_cases b1 : hasP o.deps o.block
        rotate_left
        · simp (disch := omega) only [go_sem, simprocAttr, hc2, hn2, k1, ea, a1, s0, s1, b1]
          exact ⟨nk fun h => b1 (K h).2.2.2.1, he12⟩
        by_cases b2 : 0 ≤ o.char
        rotate_left
        · simp (disch := omega) only [go_sem, simprocAttr, hc2, hn2, k1, ea, a1, s0, s1, b1, b2]
          exact ⟨nk fun h => b2 (K h).2.2.2.2.1, he12⟩
        by_cases b3 : o.char ≤ 1114111
        rotate_left
        · simp (disch := omega) only [go_sem, simprocAttr, hc2, hn2, k1, ea, a1, s0, s1, b1, b2, b3]
          exact ⟨nk fun h => b3 (K h).2.2.2.2.2.1, he12⟩
        have esh : o.char.fdiv (2 ^ min 11 64) = o.char / 2048 := by rw [show ((2 : Int) ^ min 11 64) = 2048 from by decide]; exact Int.fdiv_eq_ediv_of_nonneg _ (by decide)
        by_cases b4 : o.char.fdiv (2 ^ min 11 64) = 27
        · simp (disch := omega) only [go_sem, simprocAttr, hc2, hn2, k1, ea, a1, s0, s1, b1, b2, b3, b4]
          rw [esh] at b4
          exact ⟨nk fun h => by have := (K h).2.2.2.2.2.2.1; omega, he12⟩
        have b4' := b4
        rw [esh] at b4'
        by_cases p1 : o.parent = (0, 0)
        rotate_left
        · have ep1 := (eqD o.parent).trans (congrArg some (decide_eq_false p1))
          simp (disch := omega) only [go_sem, simprocAttr, hc2, hn2, k1, ea, a1, s0, s1, b1, b2, b3, b4, ep1]
          exact ⟨nk fun h => p1 (K h).2.2.2.2.2.2.2.1, he12⟩
        have ep1 := (eqD o.parent).trans (congrArg some (decide_eq_true p1))
        have ek : (o.key == ⟨#[]⟩) = decide (o.key = ⟨#[]⟩) := ba_beq _ _
        by_cases y1 : o.key = ⟨#[]⟩
        rotate_left
        · rw [decide_eq_false y1] at ek
          simp (disch := omega) only [go_sem, simprocAttr, hc2, hn2, k1, ea, a1, s0, s1, b1, b2, b3, b4, ep1, ek]
          exact ⟨nk fun h => y1 (K h).2.2.2.2.2.2.2.2, he12⟩
        rw [decide_eq_true y1] at ek
        simp (disch := omega) only [go_sem, simprocAttr, hc2, hn2, k1, ea, a1, s0, s1, b1, b2, b3, b4, ep1, ek]
        exact ⟨yes ⟨hmh, .inl ⟨k1, fun h => absurd h a0, fun _ => a1, .inr s1, b1, b2, b3, by omega, p1, y1⟩⟩, he12⟩
  by_cases k2 : o.kind = 2
  · have K : mayO o → may2 o := fun h => by
      rcases h.2 with h | h | h
      · exact absurd h.1 (by omega)
      · exact h.2
      · exact absurd h.1 (by omega)
    simp (disch := omega) only [go_sem, simprocAttr, hc2, hn2, k2]
    refine F.ops_Check_c1_call hwb2 hd2 hL ?_
    by_cases b1 : hasP o.deps o.block
    rotate_left
    · simp (disch := omega) only [go_sem, simprocAttr, hc2, hn2, k2, b1]
      exact ⟨nk fun h => b1 (K h).1, he12⟩
    simp (disch := omega) only [go_sem, simprocAttr, hc2, hn2, k2, b1]
    refine F.ops_Check_c1_call hwb2 hd2 hL ?_
    by_cases a1 : hasP o.deps o.at_
    rotate_left
    · simp (disch := omega) only [go_sem, simprocAttr, hc2, hn2, k2, b1, a1]
      exact ⟨nk fun h => a1 (K h).2.1, he12⟩
    by_cases s0 : o.side = 0
    rotate_left
    · simp (disch := omega) only [go_sem, simprocAttr, hc2, hn2, k2, b1, a1, s0]
      exact ⟨nk fun h => s0 (K h).2.2.1, he12⟩
    by_cases c0 : o.char = 0
    rotate_left
    · simp (disch := omega) only [go_sem, simprocAttr, hc2, hn2, k2, b1, a1, s0, c0]
      exact ⟨nk fun h => c0 (K h).2.2.2.1, he12⟩
    by_cases p1 : o.parent = (0, 0)
    rotate_left
    · have ep1 := (eqD o.parent).trans (congrArg some (decide_eq_false p1))
      simp (disch := omega) only [go_sem, simprocAttr, hc2, hn2, k2, b1, a1, s0, c0, ep1]
      exact ⟨nk fun h => p1 (K h).2.2.2.2.1, he12⟩
    have ep1 := (eqD o.parent).trans (congrArg some (decide_eq_true p1))
    have ek : (o.key == ⟨#[]⟩) = decide (o.key = ⟨#[]⟩) := ba_beq _ _
    by_cases y1 : o.key = ⟨#[]⟩
    rotate_left
    · rw [decide_eq_false y1] at ek
      simp (disch := omega) only [go_sem, simprocAttr, hc2, hn2, k2, b1, a1, s0, c0, ep1, ek]
      exact ⟨nk fun h => y1 (K h).2.2.2.2.2, he12⟩
    rw [decide_eq_true y1] at ek
    simp (disch := omega) only [go_sem, simprocAttr, hc2, hn2, k2, b1, a1, s0, c0, ep1, ek]
    exact ⟨yes ⟨hmh, .inr (.inl ⟨k2, b1, a1, s0, c0, p1, y1⟩)⟩, he12⟩
  by_cases k3 : o.kind = 3
  · have K : mayO o → may3 o := fun h => by
      rcases h.2 with h | h | h
      · exact absurd h.1 (by omega)
      · exact absurd h.1 (by omega)
      · exact h.2
    by_cases b0 : o.block = o.id
    · have eb := (eqV_dot o.block o.id).trans (congrArg some (decide_eq_true b0))
      simp (disch := omega) only [go_sem, simprocAttr, hc2, hn2, k3, eb]
      refine wJ_of F.api_Root_J ?_; rintro _ _ ⟨rfl, rfl⟩
      by_cases r1 : o.parent = (0, -1)
      · have er1 := (eqV_dot o.parent (0, -1)).trans (congrArg some (decide_eq_true r1))
        by_cases q1 : o.parent = o.block
        · have eq1 := (eqV_dot o.parent o.block).trans (congrArg some (decide_eq_true q1))
          simp (disch := omega) only [go_sem, simprocAttr, hc2, hn2, k3, eb, er1, eq1]
          exact ⟨nk fun h => (K h).2.2.1 q1, he12⟩
        have eq1 := (eqV_dot o.parent o.block).trans (congrArg some (decide_eq_false q1))
        simp (disch := omega) only [go_sem, simprocAttr, hc2, hn2, k3, eb, er1, eq1]
        refine wJ_of F.keys_May_J ?_; rintro _ _ ⟨rfl, rfl⟩
        by_cases y1 : keyP o.key
        rotate_left
        · simp (disch := omega) only [go_sem, simprocAttr, hc2, hn2, k3, eb, er1, eq1, y1]
          exact ⟨nk fun h => y1 (K h).2.2.2.1, he12⟩
        by_cases a0 : o.at_ = (0, 0)
        rotate_left
        · have ea0 := (eqD o.at_).trans (congrArg some (decide_eq_false a0))
          simp (disch := omega) only [go_sem, simprocAttr, hc2, hn2, k3, eb, er1, eq1, y1, ea0]
          exact ⟨nk fun h => a0 (K h).2.2.2.2.1, he12⟩
        have ea0 := (eqD o.at_).trans (congrArg some (decide_eq_true a0))
        by_cases s0 : o.side = 0
        rotate_left
        · simp (disch := omega) only [go_sem, simprocAttr, hc2, hn2, k3, eb, er1, eq1, y1, ea0, s0]
          exact ⟨nk fun h => s0 (K h).2.2.2.2.2.1, he12⟩
        by_cases c0 : o.char = 0
        rotate_left
        · simp (disch := omega) only [go_sem, simprocAttr, hc2, hn2, k3, eb, er1, eq1, y1, ea0, s0, c0]
          exact ⟨nk fun h => c0 (K h).2.2.2.2.2.2, he12⟩
        simp (disch := omega) only [go_sem, simprocAttr, hc2, hn2, k3, eb, er1, eq1, y1, ea0, s0, c0]
        exact ⟨yes ⟨hmh, .inr (.inr ⟨k3, .inl b0, .inl r1, q1, y1, a0, s0, c0⟩)⟩, he12⟩
      · have er1 := (eqV_dot o.parent (0, -1)).trans (congrArg some (decide_eq_false r1))
        simp (disch := omega) only [go_sem, simprocAttr, hc2, hn2, k3, eb, er1]
        refine wJ_of F.api_Trash_J ?_; rintro _ _ ⟨rfl, rfl⟩
        by_cases r2 : o.parent = (0, -2)
        · have er2 := (eqV_dot o.parent (0, -2)).trans (congrArg some (decide_eq_true r2))
          by_cases q1 : o.parent = o.block
          · have eq1 := (eqV_dot o.parent o.block).trans (congrArg some (decide_eq_true q1))
            simp (disch := omega) only [go_sem, simprocAttr, hc2, hn2, k3, eb, er1, er2, eq1]
            exact ⟨nk fun h => (K h).2.2.1 q1, he12⟩
          have eq1 := (eqV_dot o.parent o.block).trans (congrArg some (decide_eq_false q1))
          simp (disch := omega) only [go_sem, simprocAttr, hc2, hn2, k3, eb, er1, er2, eq1]
          refine wJ_of F.keys_May_J ?_; rintro _ _ ⟨rfl, rfl⟩
          by_cases y1 : keyP o.key
          rotate_left
          · simp (disch := omega) only [go_sem, simprocAttr, hc2, hn2, k3, eb, er1, er2, eq1, y1]
            exact ⟨nk fun h => y1 (K h).2.2.2.1, he12⟩
          by_cases a0 : o.at_ = (0, 0)
          rotate_left
          · have ea0 := (eqD o.at_).trans (congrArg some (decide_eq_false a0))
            simp (disch := omega) only [go_sem, simprocAttr, hc2, hn2, k3, eb, er1, er2, eq1, y1, ea0]
            exact ⟨nk fun h => a0 (K h).2.2.2.2.1, he12⟩
          have ea0 := (eqD o.at_).trans (congrArg some (decide_eq_true a0))
          by_cases s0 : o.side = 0
          rotate_left
          · simp (disch := omega) only [go_sem, simprocAttr, hc2, hn2, k3, eb, er1, er2, eq1, y1, ea0, s0]
            exact ⟨nk fun h => s0 (K h).2.2.2.2.2.1, he12⟩
          by_cases c0 : o.char = 0
          rotate_left
          · simp (disch := omega) only [go_sem, simprocAttr, hc2, hn2, k3, eb, er1, er2, eq1, y1, ea0, s0, c0]
            exact ⟨nk fun h => c0 (K h).2.2.2.2.2.2, he12⟩
          simp (disch := omega) only [go_sem, simprocAttr, hc2, hn2, k3, eb, er1, er2, eq1, y1, ea0, s0, c0]
          exact ⟨yes ⟨hmh, .inr (.inr ⟨k3, .inl b0, .inr (.inl r2), q1, y1, a0, s0, c0⟩)⟩, he12⟩
        · have er2 := (eqV_dot o.parent (0, -2)).trans (congrArg some (decide_eq_false r2))
          simp (disch := omega) only [go_sem, simprocAttr, hc2, hn2, k3, eb, er1, er2]
          refine F.ops_Check_c1_call hwb2 hd2 hL ?_
          by_cases r3 : hasP o.deps o.parent
          rotate_left
          · simp (disch := omega) only [go_sem, simprocAttr, hc2, hn2, k3, eb, er1, er2, r3]
            exact ⟨nk fun h => ((K h).2.1).elim r1 fun h => h.elim r2 r3, he12⟩
          by_cases q1 : o.parent = o.block
          · have eq1 := (eqV_dot o.parent o.block).trans (congrArg some (decide_eq_true q1))
            simp (disch := omega) only [go_sem, simprocAttr, hc2, hn2, k3, eb, er1, er2, r3, eq1]
            exact ⟨nk fun h => (K h).2.2.1 q1, he12⟩
          have eq1 := (eqV_dot o.parent o.block).trans (congrArg some (decide_eq_false q1))
          simp (disch := omega) only [go_sem, simprocAttr, hc2, hn2, k3, eb, er1, er2, r3, eq1]
          refine wJ_of F.keys_May_J ?_; rintro _ _ ⟨rfl, rfl⟩
          by_cases y1 : keyP o.key
          rotate_left
          · simp (disch := omega) only [go_sem, simprocAttr, hc2, hn2, k3, eb, er1, er2, r3, eq1, y1]
            exact ⟨nk fun h => y1 (K h).2.2.2.1, he12⟩
          by_cases a0 : o.at_ = (0, 0)
          rotate_left
          · have ea0 := (eqD o.at_).trans (congrArg some (decide_eq_false a0))
            simp (disch := omega) only [go_sem, simprocAttr, hc2, hn2, k3, eb, er1, er2, r3, eq1, y1, ea0]
            exact ⟨nk fun h => a0 (K h).2.2.2.2.1, he12⟩
          have ea0 := (eqD o.at_).trans (congrArg some (decide_eq_true a0))
          by_cases s0 : o.side = 0
          rotate_left
          · simp (disch := omega) only [go_sem, simprocAttr, hc2, hn2, k3, eb, er1, er2, r3, eq1, y1, ea0, s0]
            exact ⟨nk fun h => s0 (K h).2.2.2.2.2.1, he12⟩
          by_cases c0 : o.char = 0
          rotate_left
          · simp (disch := omega) only [go_sem, simprocAttr, hc2, hn2, k3, eb, er1, er2, r3, eq1, y1, ea0, s0, c0]
            exact ⟨nk fun h => c0 (K h).2.2.2.2.2.2, he12⟩
          simp (disch := omega) only [go_sem, simprocAttr, hc2, hn2, k3, eb, er1, er2, r3, eq1, y1, ea0, s0, c0]
          exact ⟨yes ⟨hmh, .inr (.inr ⟨k3, .inl b0, .inr (.inr r3), q1, y1, a0, s0, c0⟩)⟩, he12⟩
    · have eb := (eqV_dot o.block o.id).trans (congrArg some (decide_eq_false b0))
      simp (disch := omega) only [go_sem, simprocAttr, hc2, hn2, k3, eb]
      refine F.ops_Check_c1_call hwb2 hd2 hL ?_
      by_cases b1 : hasP o.deps o.block
      rotate_left
      · simp (disch := omega) only [go_sem, simprocAttr, hc2, hn2, k3, eb, b1]
        exact ⟨nk fun h => ((K h).1).elim b0 b1, he12⟩
      simp (disch := omega) only [go_sem, simprocAttr, hc2, hn2, k3, eb, b1]
      refine wJ_of F.api_Root_J ?_; rintro _ _ ⟨rfl, rfl⟩
      by_cases r1 : o.parent = (0, -1)
      · have er1 := (eqV_dot o.parent (0, -1)).trans (congrArg some (decide_eq_true r1))
        by_cases q1 : o.parent = o.block
        · have eq1 := (eqV_dot o.parent o.block).trans (congrArg some (decide_eq_true q1))
          simp (disch := omega) only [go_sem, simprocAttr, hc2, hn2, k3, eb, b1, er1, eq1]
          exact ⟨nk fun h => (K h).2.2.1 q1, he12⟩
        have eq1 := (eqV_dot o.parent o.block).trans (congrArg some (decide_eq_false q1))
        simp (disch := omega) only [go_sem, simprocAttr, hc2, hn2, k3, eb, b1, er1, eq1]
        refine wJ_of F.keys_May_J ?_; rintro _ _ ⟨rfl, rfl⟩
        by_cases y1 : keyP o.key
        rotate_left
        · simp (disch := omega) only [go_sem, simprocAttr, hc2, hn2, k3, eb, b1, er1, eq1, y1]
          exact ⟨nk fun h => y1 (K h).2.2.2.1, he12⟩
        by_cases a0 : o.at_ = (0, 0)
        rotate_left
        · have ea0 := (eqD o.at_).trans (congrArg some (decide_eq_false a0))
          simp (disch := omega) only [go_sem, simprocAttr, hc2, hn2, k3, eb, b1, er1, eq1, y1, ea0]
          exact ⟨nk fun h => a0 (K h).2.2.2.2.1, he12⟩
        have ea0 := (eqD o.at_).trans (congrArg some (decide_eq_true a0))
        by_cases s0 : o.side = 0
        rotate_left
        · simp (disch := omega) only [go_sem, simprocAttr, hc2, hn2, k3, eb, b1, er1, eq1, y1, ea0, s0]
          exact ⟨nk fun h => s0 (K h).2.2.2.2.2.1, he12⟩
        by_cases c0 : o.char = 0
        rotate_left
        · simp (disch := omega) only [go_sem, simprocAttr, hc2, hn2, k3, eb, b1, er1, eq1, y1, ea0, s0, c0]
          exact ⟨nk fun h => c0 (K h).2.2.2.2.2.2, he12⟩
        simp (disch := omega) only [go_sem, simprocAttr, hc2, hn2, k3, eb, b1, er1, eq1, y1, ea0, s0, c0]
        exact ⟨yes ⟨hmh, .inr (.inr ⟨k3, .inr b1, .inl r1, q1, y1, a0, s0, c0⟩)⟩, he12⟩
      · have er1 := (eqV_dot o.parent (0, -1)).trans (congrArg some (decide_eq_false r1))
        simp (disch := omega) only [go_sem, simprocAttr, hc2, hn2, k3, eb, b1, er1]
        refine wJ_of F.api_Trash_J ?_; rintro _ _ ⟨rfl, rfl⟩
        by_cases r2 : o.parent = (0, -2)
        · have er2 := (eqV_dot o.parent (0, -2)).trans (congrArg some (decide_eq_true r2))
          by_cases q1 : o.parent = o.block
          · have eq1 := (eqV_dot o.parent o.block).trans (congrArg some (decide_eq_true q1))
            simp (disch := omega) only [go_sem, simprocAttr, hc2, hn2, k3, eb, b1, er1, er2, eq1]
            exact ⟨nk fun h => (K h).2.2.1 q1, he12⟩
          have eq1 := (eqV_dot o.parent o.block).trans (congrArg some (decide_eq_false q1))
          simp (disch := omega) only [go_sem, simprocAttr, hc2, hn2, k3, eb, b1, er1, er2, eq1]
          refine wJ_of F.keys_May_J ?_; rintro _ _ ⟨rfl, rfl⟩
          by_cases y1 : keyP o.key
          rotate_left
          · simp (disch := omega) only [go_sem, simprocAttr, hc2, hn2, k3, eb, b1, er1, er2, eq1, y1]
            exact ⟨nk fun h => y1 (K h).2.2.2.1, he12⟩
          by_cases a0 : o.at_ = (0, 0)
          rotate_left
          · have ea0 := (eqD o.at_).trans (congrArg some (decide_eq_false a0))
            simp (disch := omega) only [go_sem, simprocAttr, hc2, hn2, k3, eb, b1, er1, er2, eq1, y1, ea0]
            exact ⟨nk fun h => a0 (K h).2.2.2.2.1, he12⟩
          have ea0 := (eqD o.at_).trans (congrArg some (decide_eq_true a0))
          by_cases s0 : o.side = 0
          rotate_left
          · simp (disch := omega) only [go_sem, simprocAttr, hc2, hn2, k3, eb, b1, er1, er2, eq1, y1, ea0, s0]
            exact ⟨nk fun h => s0 (K h).2.2.2.2.2.1, he12⟩
          by_cases c0 : o.char = 0
          rotate_left
          · simp (disch := omega) only [go_sem, simprocAttr, hc2, hn2, k3, eb, b1, er1, er2, eq1, y1, ea0, s0, c0]
            exact ⟨nk fun h => c0 (K h).2.2.2.2.2.2, he12⟩
          simp (disch := omega) only [go_sem, simprocAttr, hc2, hn2, k3, eb, b1, er1, er2, eq1, y1, ea0, s0, c0]
          exact ⟨yes ⟨hmh, .inr (.inr ⟨k3, .inr b1, .inr (.inl r2), q1, y1, a0, s0, c0⟩)⟩, he12⟩
        · have er2 := (eqV_dot o.parent (0, -2)).trans (congrArg some (decide_eq_false r2))
          simp (disch := omega) only [go_sem, simprocAttr, hc2, hn2, k3, eb, b1, er1, er2]
          refine F.ops_Check_c1_call hwb2 hd2 hL ?_
          by_cases r3 : hasP o.deps o.parent
          rotate_left
          · simp (disch := omega) only [go_sem, simprocAttr, hc2, hn2, k3, eb, b1, er1, er2, r3]
            exact ⟨nk fun h => ((K h).2.1).elim r1 fun h => h.elim r2 r3, he12⟩
          by_cases q1 : o.parent = o.block
          · have eq1 := (eqV_dot o.parent o.block).trans (congrArg some (decide_eq_true q1))
            simp (disch := omega) only [go_sem, simprocAttr, hc2, hn2, k3, eb, b1, er1, er2, r3, eq1]
            exact ⟨nk fun h => (K h).2.2.1 q1, he12⟩
          have eq1 := (eqV_dot o.parent o.block).trans (congrArg some (decide_eq_false q1))
          simp (disch := omega) only [go_sem, simprocAttr, hc2, hn2, k3, eb, b1, er1, er2, r3, eq1]
          refine wJ_of F.keys_May_J ?_; rintro _ _ ⟨rfl, rfl⟩
          by_cases y1 : keyP o.key
          rotate_left
          · simp (disch := omega) only [go_sem, simprocAttr, hc2, hn2, k3, eb, b1, er1, er2, r3, eq1, y1]
            exact ⟨nk fun h => y1 (K h).2.2.2.1, he12⟩
          by_cases a0 : o.at_ = (0, 0)
          rotate_left
          · have ea0 := (eqD o.at_).trans (congrArg some (decide_eq_false a0))
            simp (disch := omega) only [go_sem, simprocAttr, hc2, hn2, k3, eb, b1, er1, er2, r3, eq1, y1, ea0]
            exact ⟨nk fun h => a0 (K h).2.2.2.2.1, he12⟩
          have ea0 := (eqD o.at_).trans (congrArg some (decide_eq_true a0))
          by_cases s0 : o.side = 0
          rotate_left
          · simp (disch := omega) only [go_sem, simprocAttr, hc2, hn2, k3, eb, b1, er1, er2, r3, eq1, y1, ea0, s0]
            exact ⟨nk fun h => s0 (K h).2.2.2.2.2.1, he12⟩
          by_cases c0 : o.char = 0
          rotate_left
          · simp (disch := omega) only [go_sem, simprocAttr, hc2, hn2, k3, eb, b1, er1, er2, r3, eq1, y1, ea0, s0, c0]
            exact ⟨nk fun h => c0 (K h).2.2.2.2.2.2, he12⟩
          simp (disch := omega) only [go_sem, simprocAttr, hc2, hn2, k3, eb, b1, er1, er2, r3, eq1, y1, ea0, s0, c0]
          exact ⟨yes ⟨hmh, .inr (.inr ⟨k3, .inr b1, .inr (.inr r3), q1, y1, a0, s0, c0⟩)⟩, he12⟩
  simp (disch := omega) only [go_sem, simprocAttr, hc2, k1, k2, k3]
  exact ⟨nk fun h => by rcases h.2 with h | h | h <;> exact absurd h.1 (by omega), he12⟩
end Go.Osj

/- osierref07.Check. -/
set_option linter.unusedSimpArgs false
set_option maxHeartbeats 4000000
namespace Go.Osj
theorem F.osierref07_Check_J {S : St} {o : OpA} {dv : Value} (hd : SlT dotE S dv o.deps) (hL : o.deps.length < 9223372036854775808) : J PR F.osierref07_Check [opV o dv] S fun v S' => v = .bool (decide (mayO o)) ∧ S = S' := by
  refine J.back (J_by PR.mixed F.osierref07_Check.ok (by simp) ?_)
  simp (disch := omega) only [go_sem, simprocAttr]
  refine wE_boxO (o := o) (dv := dv) rfl fun w S1 he hwb hw => ?_
  have hd1 := hd.ext dotE he
  have hc := hwb.c
  simp (disch := omega) only [go_sem, simprocAttr, hc]
  refine wJ_of F.osierref03_May_P ?_; rintro _ _ ⟨rfl, rfl⟩
  simp (disch := omega) only [go_sem, simprocAttr, hc]
  refine wJ_of (F.osierref04_May_J hd1 hL) ?_; rintro _ _ ⟨rfl, rfl⟩
  have yes : mayO o → Value.bool true = Value.bool (decide (mayO o)) := fun h => by rw [decide_eq_true h]
  have nk : ¬ mayO o → Value.bool false = Value.bool (decide (mayO o)) := fun h => by rw [decide_eq_false h]
  by_cases m1 : mayP o.id
  rotate_left
  · simp (disch := omega) only [go_sem, simprocAttr, hc, m1]
    exact ⟨nk fun h => m1 h.1.1, he⟩
  by_cases m4 : isV o.deps
  rotate_left
  · simp (disch := omega) only [go_sem, simprocAttr, hc, m1, m4]
    exact ⟨nk fun h => m4 h.1.2.2.2.1, he⟩
  by_cases m2 : o.time < 1
  · simp (disch := omega) only [go_sem, simprocAttr, hc, m1, m2, m4]
    exact ⟨nk fun h => by have := h.1.2.1; omega, he⟩
  by_cases m3 : 1099511627776 < o.time
  · simp (disch := omega) only [go_sem, simprocAttr, hc, m1, m2, m3, m4]
    exact ⟨nk fun h => by have := h.1.2.2.1; omega, he⟩
  simp (disch := omega) only [go_sem, simprocAttr, hc, m1, m2, m3, m4]
  refine wJ_of (F.osierref04_Get_J hd1 hL) ?_; rintro _ _ ⟨rfl, rfl⟩
  have e1 : IntKind.i64.wrap (o.id.2 - 1) = o.id.2 - 1 := by have := m1.2.2; exact wrap64 (by omega) (by omega)
  by_cases m5 : getV o.deps o.id.1 = o.id.2 - 1
  rotate_left
  · simp (disch := omega) only [go_sem, simprocAttr, hc, m4, m5, e1]
    exact ⟨nk fun h => m5 h.1.2.2.2.2, he⟩
  have hmh : mayH o := ⟨m1, by omega, by omega, m4, m5⟩
  simp (disch := omega) only [go_sem, simprocAttr, hc, m4, m5, e1]
  refine wJ_of (F.osierref04_Has_J (d := o.block) hd1 hL) ?_; rintro _ _ ⟨rfl, rfl⟩
  simp (disch := omega) only [go_sem, simprocAttr, hc]
  refine wJ_of (F.osierref04_Has_J (d := o.at_) hd1 hL) ?_; rintro _ _ ⟨rfl, rfl⟩
  simp (disch := omega) only [go_sem, simprocAttr, hc]
  refine wJ_of (F.osierref04_Has_J (d := o.parent) hd1 hL) ?_; rintro _ _ ⟨rfl, rfl⟩
  simp (disch := omega) only [go_sem, simprocAttr, hc]
  refine wJ_of F.osierref06_May_J ?_; rintro _ _ ⟨rfl, rfl⟩
  simp (disch := omega) only [go_sem, simprocAttr, hc]
  refine wfresh_of fun y hy => ?_
  simp (disch := omega) only [go_sem, simprocAttr]
  refine wfresh_of fun z hz => ?_
  simp (disch := omega) only [go_sem, simprocAttr]
  refine wfresh_of fun u hu => ?_
  simp (disch := omega) only [go_sem, simprocAttr]
  have hzy : z ≠ y := by have := St.lt_put_self S1 y (.cells true 2 [.int .i64 0, .int .i64 0]); omega
  have huz : u ≠ z := by have := St.lt_put_self (S1.put y (.cells true 2 [.int .i64 0, .int .i64 0])) z (.cells true 2 [.int .i64 0, .int .i64 (-1)]); omega
  have huy : u ≠ y := by have := St.lt_put_self S1 y (.cells true 2 [.int .i64 0, .int .i64 0]); have := St.put_n (S1.put y (.cells true 2 [.int .i64 0, .int .i64 0])) z (.cells true 2 [.int .i64 0, .int .i64 (-1)]); omega
  have he2 := (((St.Ext.refl S1).put hy (.cells true 2 [.int .i64 0, .int .i64 0])).put hz (.cells true 2 [.int .i64 0, .int .i64 (-1)])).put hu (.cells true 2 [.int .i64 0, .int .i64 (-2)])
  have he12 := he.trans he2
  have hwb2 := hwb.ext he2
  have hn : (((S1.put y (.cells true 2 [.int .i64 0, .int .i64 0])).put z (.cells true 2 [.int .i64 0, .int .i64 (-1)])).put u (.cells true 2 [.int .i64 0, .int .i64 (-2)])).loadN ⟨y, 0, none⟩ 2 = some [.int .i64 0, .int .i64 0] ∧
      (((S1.put y (.cells true 2 [.int .i64 0, .int .i64 0])).put z (.cells true 2 [.int .i64 0, .int .i64 (-1)])).put u (.cells true 2 [.int .i64 0, .int .i64 (-2)])).loadN ⟨z, 0, none⟩ 2 = some [.int .i64 0, .int .i64 (-1)] ∧
      (((S1.put y (.cells true 2 [.int .i64 0, .int .i64 0])).put z (.cells true 2 [.int .i64 0, .int .i64 (-1)])).put u (.cells true 2 [.int .i64 0, .int .i64 (-2)])).loadN ⟨u, 0, none⟩ 2 = some [.int .i64 0, .int .i64 (-2)] := by
    simp only [St.loadN_def, St.put_obj, if_neg hzy.symm, if_neg huy.symm, if_neg huz.symm, if_true]
    simp
  have hc2 := hwb2.c
  have eqD : ∀ a : Dot, eqV [.i .i64, .i .i64] true (dotV a) (.agg #[.int .i64 0, .int .i64 0]) = some (decide (a = (0, 0))) := fun a => eqV_dot a (0, 0)
  have eqR : ∀ a : Dot, eqV [.i .i64, .i .i64] true (dotV a) (.agg #[.int .i64 0, .int .i64 (-1)]) = some (decide (a = (0, -1))) := fun a => eqV_dot a (0, -1)
  have eqT : ∀ a : Dot, eqV [.i .i64, .i .i64] true (dotV a) (.agg #[.int .i64 0, .int .i64 (-2)]) = some (decide (a = (0, -2))) := fun a => eqV_dot a (0, -2)
  generalize ((S1.put y (.cells true 2 [.int .i64 0, .int .i64 0])).put z (.cells true 2 [.int .i64 0, .int .i64 (-1)])).put u (.cells true 2 [.int .i64 0, .int .i64 (-2)]) = S2 at *
  by_cases k1 : o.kind = 1
  · have K : mayO o → may1 o := fun h => by
      rcases h.2 with h | h | h
      · exact h.2
      · exact absurd h.1 (by omega)
      · exact absurd h.1 (by omega)
    by_cases a0 : o.at_ = (0, 0)
    · have ea := (eqD o.at_).trans (congrArg some (decide_eq_true a0))
      by_cases s1 : o.side = 1
      rotate_left
      · simp (disch := omega) only [go_sem, simprocAttr, hc2, hn, k1, ea, s1]
        exact ⟨nk fun h => s1 ((K h).1 a0), he12⟩
      by_cases b2 : 0 ≤ o.char
      rotate_left
      · by_cases b1 : hasP o.deps o.block
        rotate_left
        · simp (disch := omega) only [go_sem, simprocAttr, hc2, hn, k1, ea, s1, b2, b1]
          exact ⟨nk fun h => b2 (K h).2.2.2.2.1, he12⟩
        simp (disch := omega) only [go_sem, simprocAttr, hc2, hn, k1, ea, s1, b2, b1]
        exact ⟨nk fun h => b2 (K h).2.2.2.2.1, he12⟩
      by_cases b3 : o.char ≤ 1114111
      rotate_left
      · by_cases b1 : hasP o.deps o.block
        rotate_left
        · simp (disch := omega) only [go_sem, simprocAttr, hc2, hn, k1, ea, s1, b2, b3, b1]
          exact ⟨nk fun h => b3 (K h).2.2.2.2.2.1, he12⟩
        simp (disch := omega) only [go_sem, simprocAttr, hc2, hn, k1, ea, s1, b2, b3, b1]
        exact ⟨nk fun h => b3 (K h).2.2.2.2.2.1, he12⟩
      by_cases b4 : o.char < 55296
      · by_cases b1 : hasP o.deps o.block
        rotate_left
        · simp (disch := omega) only [go_sem, simprocAttr, hc2, hn, k1, ea, s1, b2, b3, b4, b1]
          exact ⟨nk fun h => b1 (K h).2.2.2.1, he12⟩
        by_cases p1 : o.parent = (0, 0)
        rotate_left
        · have ep1 := (eqD o.parent).trans (congrArg some (decide_eq_false p1))
          simp (disch := omega) only [go_sem, simprocAttr, hc2, hn, k1, ea, s1, b2, b3, b4, b1, ep1]
          exact ⟨nk fun h => p1 (K h).2.2.2.2.2.2.2.1, he12⟩
        have ep1 := (eqD o.parent).trans (congrArg some (decide_eq_true p1))
        have ek : (o.key == ⟨#[]⟩) = decide (o.key = ⟨#[]⟩) := ba_beq _ _
        by_cases y1 : o.key = ⟨#[]⟩
        rotate_left
        · rw [decide_eq_false y1] at ek
          simp (disch := omega) only [go_sem, simprocAttr, hc2, hn, k1, ea, s1, b2, b3, b4, b1, ep1, ek]
          exact ⟨nk fun h => y1 (K h).2.2.2.2.2.2.2.2, he12⟩
        rw [decide_eq_true y1] at ek
        simp (disch := omega) only [go_sem, simprocAttr, hc2, hn, k1, ea, s1, b2, b3, b4, b1, ep1, ek]
        exact ⟨yes ⟨hmh, .inl ⟨k1, fun _ => s1, fun h => absurd a0 h, .inr s1, b1, b2, b3, .inl b4, p1, y1⟩⟩, he12⟩
      · by_cases b5 : 57343 < o.char
        rotate_left
        · by_cases b1 : hasP o.deps o.block
          rotate_left
          · simp (disch := omega) only [go_sem, simprocAttr, hc2, hn, k1, ea, s1, b2, b3, b4, b5, b1]
            exact ⟨nk fun h => by have := (K h).2.2.2.2.2.2.1; omega, he12⟩
          simp (disch := omega) only [go_sem, simprocAttr, hc2, hn, k1, ea, s1, b2, b3, b4, b5, b1]
          exact ⟨nk fun h => by have := (K h).2.2.2.2.2.2.1; omega, he12⟩
        by_cases b1 : hasP o.deps o.block
        rotate_left
        · simp (disch := omega) only [go_sem, simprocAttr, hc2, hn, k1, ea, s1, b2, b3, b4, b5, b1]
          exact ⟨nk fun h => b1 (K h).2.2.2.1, he12⟩
        by_cases p1 : o.parent = (0, 0)
        rotate_left
        · have ep1 := (eqD o.parent).trans (congrArg some (decide_eq_false p1))
          simp (disch := omega) only [go_sem, simprocAttr, hc2, hn, k1, ea, s1, b2, b3, b4, b5, b1, ep1]
          exact ⟨nk fun h => p1 (K h).2.2.2.2.2.2.2.1, he12⟩
        have ep1 := (eqD o.parent).trans (congrArg some (decide_eq_true p1))
        have ek : (o.key == ⟨#[]⟩) = decide (o.key = ⟨#[]⟩) := ba_beq _ _
        by_cases y1 : o.key = ⟨#[]⟩
        rotate_left
        · rw [decide_eq_false y1] at ek
          simp (disch := omega) only [go_sem, simprocAttr, hc2, hn, k1, ea, s1, b2, b3, b4, b5, b1, ep1, ek]
          exact ⟨nk fun h => y1 (K h).2.2.2.2.2.2.2.2, he12⟩
        rw [decide_eq_true y1] at ek
        simp (disch := omega) only [go_sem, simprocAttr, hc2, hn, k1, ea, s1, b2, b3, b4, b5, b1, ep1, ek]
        exact ⟨yes ⟨hmh, .inl ⟨k1, fun _ => s1, fun h => absurd a0 h, .inr s1, b1, b2, b3, .inr b5, p1, y1⟩⟩, he12⟩
    · have ea := (eqD o.at_).trans (congrArg some (decide_eq_false a0))
      by_cases b2 : 0 ≤ o.char
      rotate_left
      · by_cases b1 : hasP o.deps o.block
        rotate_left
        · simp (disch := omega) only [go_sem, simprocAttr, hc2, hn, k1, ea, b2, b1]
          exact ⟨nk fun h => b2 (K h).2.2.2.2.1, he12⟩
        by_cases a1 : hasP o.deps o.at_
        rotate_left
        · simp (disch := omega) only [go_sem, simprocAttr, hc2, hn, k1, ea, b2, b1, a1]
          exact ⟨nk fun h => b2 (K h).2.2.2.2.1, he12⟩
        by_cases s0 : o.side = 0
        · simp (disch := omega) only [go_sem, simprocAttr, hc2, hn, k1, ea, b2, b1, a1, s0]
          exact ⟨nk fun h => b2 (K h).2.2.2.2.1, he12⟩
        by_cases s1 : o.side = 1
        · simp (disch := omega) only [go_sem, simprocAttr, hc2, hn, k1, ea, b2, b1, a1, s0, s1]
          exact ⟨nk fun h => b2 (K h).2.2.2.2.1, he12⟩
        simp (disch := omega) only [go_sem, simprocAttr, hc2, hn, k1, ea, b2, b1, a1, s0, s1]
        exact ⟨nk fun h => b2 (K h).2.2.2.2.1, he12⟩
      by_cases b3 : o.char ≤ 1114111
      rotate_left
      · by_cases b1 : hasP o.deps o.block
        rotate_left
        · simp (disch := omega) only [go_sem, simprocAttr, hc2, hn, k1, ea, b2, b3, b1]
          exact ⟨nk fun h => b3 (K h).2.2.2.2.2.1, he12⟩
        by_cases a1 : hasP o.deps o.at_
        rotate_left
        · simp (disch := omega) only [go_sem, simprocAttr, hc2, hn, k1, ea, b2, b3, b1, a1]
          exact ⟨nk fun h => b3 (K h).2.2.2.2.2.1, he12⟩
        by_cases s0 : o.side = 0
        · simp (disch := omega) only [go_sem, simprocAttr, hc2, hn, k1, ea, b2, b3, b1, a1, s0]
          exact ⟨nk fun h => b3 (K h).2.2.2.2.2.1, he12⟩
        by_cases s1 : o.side = 1
        · simp (disch := omega) only [go_sem, simprocAttr, hc2, hn, k1, ea, b2, b3, b1, a1, s0, s1]
          exact ⟨nk fun h => b3 (K h).2.2.2.2.2.1, he12⟩
        simp (disch := omega) only [go_sem, simprocAttr, hc2, hn, k1, ea, b2, b3, b1, a1, s0, s1]
        exact ⟨nk fun h => b3 (K h).2.2.2.2.2.1, he12⟩
      by_cases b4 : o.char < 55296
      · by_cases b1 : hasP o.deps o.block
        rotate_left
        · simp (disch := omega) only [go_sem, simprocAttr, hc2, hn, k1, ea, b2, b3, b4, b1]
          exact ⟨nk fun h => b1 (K h).2.2.2.1, he12⟩
        by_cases a1 : hasP o.deps o.at_
        rotate_left
        · simp (disch := omega) only [go_sem, simprocAttr, hc2, hn, k1, ea, b2, b3, b4, b1, a1]
          exact ⟨nk fun h => a1 ((K h).2.1 a0), he12⟩
        by_cases s0 : o.side = 0
        · by_cases p1 : o.parent = (0, 0)
          rotate_left
          · have ep1 := (eqD o.parent).trans (congrArg some (decide_eq_false p1))
            simp (disch := omega) only [go_sem, simprocAttr, hc2, hn, k1, ea, b2, b3, b4, b1, a1, s0, ep1]
            exact ⟨nk fun h => p1 (K h).2.2.2.2.2.2.2.1, he12⟩
          have ep1 := (eqD o.parent).trans (congrArg some (decide_eq_true p1))
          have ek : (o.key == ⟨#[]⟩) = decide (o.key = ⟨#[]⟩) := ba_beq _ _
          by_cases y1 : o.key = ⟨#[]⟩
          rotate_left
          · rw [decide_eq_false y1] at ek
            simp (disch := omega) only [go_sem, simprocAttr, hc2, hn, k1, ea, b2, b3, b4, b1, a1, s0, ep1, ek]
            exact ⟨nk fun h => y1 (K h).2.2.2.2.2.2.2.2, he12⟩
          rw [decide_eq_true y1] at ek
          simp (disch := omega) only [go_sem, simprocAttr, hc2, hn, k1, ea, b2, b3, b4, b1, a1, s0, ep1, ek]
          exact ⟨yes ⟨hmh, .inl ⟨k1, fun h => absurd h a0, fun _ => a1, .inl s0, b1, b2, b3, .inl b4, p1, y1⟩⟩, he12⟩
        · by_cases s1 : o.side = 1
          rotate_left
          · simp (disch := omega) only [go_sem, simprocAttr, hc2, hn, k1, ea, b2, b3, b4, b1, a1, s0, s1]
            exact ⟨nk fun h => ((K h).2.2.1).elim s0 s1, he12⟩
          by_cases p1 : o.parent = (0, 0)
          rotate_left
          · have ep1 := (eqD o.parent).trans (congrArg some (decide_eq_false p1))
            simp (disch := omega) only [go_sem, simprocAttr, hc2, hn, k1, ea, b2, b3, b4, b1, a1, s0, s1, ep1]
            exact ⟨nk fun h => p1 (K h).2.2.2.2.2.2.2.1, he12⟩
          have ep1 := (eqD o.parent).trans (congrArg some (decide_eq_true p1))
          have ek : (o.key == ⟨#[]⟩) = decide (o.key = ⟨#[]⟩) := ba_beq _ _
          by_cases y1 : o.key = ⟨#[]⟩
          rotate_left
          · rw [decide_eq_false y1] at ek
            simp (disch := omega) only [go_sem, simprocAttr, hc2, hn, k1, ea, b2, b3, b4, b1, a1, s0, s1, ep1, ek]
            exact ⟨nk fun h => y1 (K h).2.2.2.2.2.2.2.2, he12⟩
          rw [decide_eq_true y1] at ek
          simp (disch := omega) only [go_sem, simprocAttr, hc2, hn, k1, ea, b2, b3, b4, b1, a1, s0, s1, ep1, ek]
          exact ⟨yes ⟨hmh, .inl ⟨k1, fun h => absurd h a0, fun _ => a1, .inr s1, b1, b2, b3, .inl b4, p1, y1⟩⟩, he12⟩
      · by_cases b5 : 57343 < o.char
        rotate_left
        · by_cases b1 : hasP o.deps o.block
          rotate_left
          · simp (disch := omega) only [go_sem, simprocAttr, hc2, hn, k1, ea, b2, b3, b4, b5, b1]
            exact ⟨nk fun h => by have := (K h).2.2.2.2.2.2.1; omega, he12⟩
          by_cases a1 : hasP o.deps o.at_
          rotate_left
          · simp (disch := omega) only [go_sem, simprocAttr, hc2, hn, k1, ea, b2, b3, b4, b5, b1, a1]
            exact ⟨nk fun h => by have := (K h).2.2.2.2.2.2.1; omega, he12⟩
          by_cases s0 : o.side = 0
          · simp (disch := omega) only [go_sem, simprocAttr, hc2, hn, k1, ea, b2, b3, b4, b5, b1, a1, s0]
            exact ⟨nk fun h => by have := (K h).2.2.2.2.2.2.1; omega, he12⟩
          by_cases s1 : o.side = 1
          · simp (disch := omega) only [go_sem, simprocAttr, hc2, hn, k1, ea, b2, b3, b4, b5, b1, a1, s0, s1]
            exact ⟨nk fun h => by have := (K h).2.2.2.2.2.2.1; omega, he12⟩
          simp (disch := omega) only [go_sem, simprocAttr, hc2, hn, k1, ea, b2, b3, b4, b5, b1, a1, s0, s1]
          exact ⟨nk fun h => by have := (K h).2.2.2.2.2.2.1; omega, he12⟩
        by_cases b1 : hasP o.deps o.block
        rotate_left
        · simp (disch := omega) only [go_sem, simprocAttr, hc2, hn, k1, ea, b2, b3, b4, b5, b1]
          exact ⟨nk fun h => b1 (K h).2.2.2.1, he12⟩
        by_cases a1 : hasP o.deps o.at_
        rotate_left
        · simp (disch := omega) only [go_sem, simprocAttr, hc2, hn, k1, ea, b2, b3, b4, b5, b1, a1]
          exact ⟨nk fun h => a1 ((K h).2.1 a0), he12⟩
        by_cases s0 : o.side = 0
        · by_cases p1 : o.parent = (0, 0)
          rotate_left
          · have ep1 := (eqD o.parent).trans (congrArg some (decide_eq_false p1))
            simp (disch := omega) only [go_sem, simprocAttr, hc2, hn, k1, ea, b2, b3, b4, b5, b1, a1, s0, ep1]
            exact ⟨nk fun h => p1 (K h).2.2.2.2.2.2.2.1, he12⟩
          have ep1 := (eqD o.parent).trans (congrArg some (decide_eq_true p1))
          have ek : (o.key == ⟨#[]⟩) = decide (o.key = ⟨#[]⟩) := ba_beq _ _
          by_cases y1 : o.key = ⟨#[]⟩
          rotate_left
          · rw [decide_eq_false y1] at ek
            simp (disch := omega) only [go_sem, simprocAttr, hc2, hn, k1, ea, b2, b3, b4, b5, b1, a1, s0, ep1, ek]
            exact ⟨nk fun h => y1 (K h).2.2.2.2.2.2.2.2, he12⟩
          rw [decide_eq_true y1] at ek
          simp (disch := omega) only [go_sem, simprocAttr, hc2, hn, k1, ea, b2, b3, b4, b5, b1, a1, s0, ep1, ek]
          exact ⟨yes ⟨hmh, .inl ⟨k1, fun h => absurd h a0, fun _ => a1, .inl s0, b1, b2, b3, .inr b5, p1, y1⟩⟩, he12⟩
        · by_cases s1 : o.side = 1
          rotate_left
          · simp (disch := omega) only [go_sem, simprocAttr, hc2, hn, k1, ea, b2, b3, b4, b5, b1, a1, s0, s1]
            exact ⟨nk fun h => ((K h).2.2.1).elim s0 s1, he12⟩
          by_cases p1 : o.parent = (0, 0)
          rotate_left
          · have ep1 := (eqD o.parent).trans (congrArg some (decide_eq_false p1))
            simp (disch := omega) only [go_sem, simprocAttr, hc2, hn, k1, ea, b2, b3, b4, b5, b1, a1, s0, s1, ep1]
            exact ⟨nk fun h => p1 (K h).2.2.2.2.2.2.2.1, he12⟩
          have ep1 := (eqD o.parent).trans (congrArg some (decide_eq_true p1))
          have ek : (o.key == ⟨#[]⟩) = decide (o.key = ⟨#[]⟩) := ba_beq _ _
          by_cases y1 : o.key = ⟨#[]⟩
          rotate_left
          · rw [decide_eq_false y1] at ek
            simp (disch := omega) only [go_sem, simprocAttr, hc2, hn, k1, ea, b2, b3, b4, b5, b1, a1, s0, s1, ep1, ek]
            exact ⟨nk fun h => y1 (K h).2.2.2.2.2.2.2.2, he12⟩
          rw [decide_eq_true y1] at ek
          simp (disch := omega) only [go_sem, simprocAttr, hc2, hn, k1, ea, b2, b3, b4, b5, b1, a1, s0, s1, ep1, ek]
          exact ⟨yes ⟨hmh, .inl ⟨k1, fun h => absurd h a0, fun _ => a1, .inr s1, b1, b2, b3, .inr b5, p1, y1⟩⟩, he12⟩
  by_cases k2 : o.kind = 2
  · have K : mayO o → may2 o := fun h => by
      rcases h.2 with h | h | h
      · exact absurd h.1 (by omega)
      · exact h.2
      · exact absurd h.1 (by omega)
    by_cases b1 : hasP o.deps o.block
    rotate_left
    · simp (disch := omega) only [go_sem, simprocAttr, hc2, hn, k2, b1]
      exact ⟨nk fun h => b1 (K h).1, he12⟩
    by_cases a1 : hasP o.deps o.at_
    rotate_left
    · simp (disch := omega) only [go_sem, simprocAttr, hc2, hn, k2, b1, a1]
      exact ⟨nk fun h => a1 (K h).2.1, he12⟩
    by_cases s0 : o.side = 0
    rotate_left
    · simp (disch := omega) only [go_sem, simprocAttr, hc2, hn, k2, b1, a1, s0]
      exact ⟨nk fun h => s0 (K h).2.2.1, he12⟩
    by_cases c0 : o.char = 0
    rotate_left
    · simp (disch := omega) only [go_sem, simprocAttr, hc2, hn, k2, b1, a1, s0, c0]
      exact ⟨nk fun h => c0 (K h).2.2.2.1, he12⟩
    by_cases p1 : o.parent = (0, 0)
    rotate_left
    · have ep1 := (eqD o.parent).trans (congrArg some (decide_eq_false p1))
      simp (disch := omega) only [go_sem, simprocAttr, hc2, hn, k2, b1, a1, s0, c0, ep1]
      exact ⟨nk fun h => p1 (K h).2.2.2.2.1, he12⟩
    have ep1 := (eqD o.parent).trans (congrArg some (decide_eq_true p1))
    have ek : (o.key == ⟨#[]⟩) = decide (o.key = ⟨#[]⟩) := ba_beq _ _
    by_cases y1 : o.key = ⟨#[]⟩
    rotate_left
    · rw [decide_eq_false y1] at ek
      simp (disch := omega) only [go_sem, simprocAttr, hc2, hn, k2, b1, a1, s0, c0, ep1, ek]
      exact ⟨nk fun h => y1 (K h).2.2.2.2.2, he12⟩
    rw [decide_eq_true y1] at ek
    simp (disch := omega) only [go_sem, simprocAttr, hc2, hn, k2, b1, a1, s0, c0, ep1, ek]
    exact ⟨yes ⟨hmh, .inr (.inl ⟨k2, b1, a1, s0, c0, p1, y1⟩)⟩, he12⟩
  by_cases k3 : o.kind = 3
  · have K : mayO o → may3 o := fun h => by
      rcases h.2 with h | h | h
      · exact absurd h.1 (by omega)
      · exact absurd h.1 (by omega)
      · exact h.2
    by_cases b0 : o.block = o.id
    · have eb := (eqV_dot o.block o.id).trans (congrArg some (decide_eq_true b0))
      by_cases r1 : o.parent = (0, -1)
      · have er1 := (eqR o.parent).trans (congrArg some (decide_eq_true r1))
        by_cases q1 : o.parent = o.block
        · have eq1 := (eqV_dot o.parent o.block).trans (congrArg some (decide_eq_true q1))
          simp (disch := omega) only [go_sem, simprocAttr, hc2, hn, k3, eb, er1, eq1]
          exact ⟨nk fun h => (K h).2.2.1 q1, he12⟩
        have eq1 := (eqV_dot o.parent o.block).trans (congrArg some (decide_eq_false q1))
        by_cases y1 : keyP o.key
        rotate_left
        · simp (disch := omega) only [go_sem, simprocAttr, hc2, hn, k3, eb, er1, eq1, y1]
          exact ⟨nk fun h => y1 (K h).2.2.2.1, he12⟩
        by_cases a0 : o.at_ = (0, 0)
        rotate_left
        · have ea0 := (eqD o.at_).trans (congrArg some (decide_eq_false a0))
          simp (disch := omega) only [go_sem, simprocAttr, hc2, hn, k3, eb, er1, eq1, y1, ea0]
          exact ⟨nk fun h => a0 (K h).2.2.2.2.1, he12⟩
        have ea0 := (eqD o.at_).trans (congrArg some (decide_eq_true a0))
        by_cases s0 : o.side = 0
        rotate_left
        · simp (disch := omega) only [go_sem, simprocAttr, hc2, hn, k3, eb, er1, eq1, y1, ea0, s0]
          exact ⟨nk fun h => s0 (K h).2.2.2.2.2.1, he12⟩
        by_cases c0 : o.char = 0
        rotate_left
        · simp (disch := omega) only [go_sem, simprocAttr, hc2, hn, k3, eb, er1, eq1, y1, ea0, s0, c0]
          exact ⟨nk fun h => c0 (K h).2.2.2.2.2.2, he12⟩
        simp (disch := omega) only [go_sem, simprocAttr, hc2, hn, k3, eb, er1, eq1, y1, ea0, s0, c0]
        exact ⟨yes ⟨hmh, .inr (.inr ⟨k3, .inl b0, .inl r1, q1, y1, a0, s0, c0⟩)⟩, he12⟩
      · have er1 := (eqR o.parent).trans (congrArg some (decide_eq_false r1))
        by_cases r2 : o.parent = (0, -2)
        · have er2 := (eqT o.parent).trans (congrArg some (decide_eq_true r2))
          by_cases q1 : o.parent = o.block
          · have eq1 := (eqV_dot o.parent o.block).trans (congrArg some (decide_eq_true q1))
            simp (disch := omega) only [go_sem, simprocAttr, hc2, hn, k3, eb, er1, er2, eq1]
            exact ⟨nk fun h => (K h).2.2.1 q1, he12⟩
          have eq1 := (eqV_dot o.parent o.block).trans (congrArg some (decide_eq_false q1))
          by_cases y1 : keyP o.key
          rotate_left
          · simp (disch := omega) only [go_sem, simprocAttr, hc2, hn, k3, eb, er1, er2, eq1, y1]
            exact ⟨nk fun h => y1 (K h).2.2.2.1, he12⟩
          by_cases a0 : o.at_ = (0, 0)
          rotate_left
          · have ea0 := (eqD o.at_).trans (congrArg some (decide_eq_false a0))
            simp (disch := omega) only [go_sem, simprocAttr, hc2, hn, k3, eb, er1, er2, eq1, y1, ea0]
            exact ⟨nk fun h => a0 (K h).2.2.2.2.1, he12⟩
          have ea0 := (eqD o.at_).trans (congrArg some (decide_eq_true a0))
          by_cases s0 : o.side = 0
          rotate_left
          · simp (disch := omega) only [go_sem, simprocAttr, hc2, hn, k3, eb, er1, er2, eq1, y1, ea0, s0]
            exact ⟨nk fun h => s0 (K h).2.2.2.2.2.1, he12⟩
          by_cases c0 : o.char = 0
          rotate_left
          · simp (disch := omega) only [go_sem, simprocAttr, hc2, hn, k3, eb, er1, er2, eq1, y1, ea0, s0, c0]
            exact ⟨nk fun h => c0 (K h).2.2.2.2.2.2, he12⟩
          simp (disch := omega) only [go_sem, simprocAttr, hc2, hn, k3, eb, er1, er2, eq1, y1, ea0, s0, c0]
          exact ⟨yes ⟨hmh, .inr (.inr ⟨k3, .inl b0, .inr (.inl r2), q1, y1, a0, s0, c0⟩)⟩, he12⟩
        · have er2 := (eqT o.parent).trans (congrArg some (decide_eq_false r2))
          by_cases r3 : hasP o.deps o.parent
          rotate_left
          · simp (disch := omega) only [go_sem, simprocAttr, hc2, hn, k3, eb, er1, er2, r3]
            exact ⟨nk fun h => ((K h).2.1).elim r1 fun h => h.elim r2 r3, he12⟩
          by_cases q1 : o.parent = o.block
          · have eq1 := (eqV_dot o.parent o.block).trans (congrArg some (decide_eq_true q1))
            simp (disch := omega) only [go_sem, simprocAttr, hc2, hn, k3, eb, er1, er2, r3, eq1]
            exact ⟨nk fun h => (K h).2.2.1 q1, he12⟩
          have eq1 := (eqV_dot o.parent o.block).trans (congrArg some (decide_eq_false q1))
          by_cases y1 : keyP o.key
          rotate_left
          · simp (disch := omega) only [go_sem, simprocAttr, hc2, hn, k3, eb, er1, er2, r3, eq1, y1]
            exact ⟨nk fun h => y1 (K h).2.2.2.1, he12⟩
          by_cases a0 : o.at_ = (0, 0)
          rotate_left
          · have ea0 := (eqD o.at_).trans (congrArg some (decide_eq_false a0))
            simp (disch := omega) only [go_sem, simprocAttr, hc2, hn, k3, eb, er1, er2, r3, eq1, y1, ea0]
            exact ⟨nk fun h => a0 (K h).2.2.2.2.1, he12⟩
          have ea0 := (eqD o.at_).trans (congrArg some (decide_eq_true a0))
          by_cases s0 : o.side = 0
          rotate_left
          · simp (disch := omega) only [go_sem, simprocAttr, hc2, hn, k3, eb, er1, er2, r3, eq1, y1, ea0, s0]
            exact ⟨nk fun h => s0 (K h).2.2.2.2.2.1, he12⟩
          by_cases c0 : o.char = 0
          rotate_left
          · simp (disch := omega) only [go_sem, simprocAttr, hc2, hn, k3, eb, er1, er2, r3, eq1, y1, ea0, s0, c0]
            exact ⟨nk fun h => c0 (K h).2.2.2.2.2.2, he12⟩
          simp (disch := omega) only [go_sem, simprocAttr, hc2, hn, k3, eb, er1, er2, r3, eq1, y1, ea0, s0, c0]
          exact ⟨yes ⟨hmh, .inr (.inr ⟨k3, .inl b0, .inr (.inr r3), q1, y1, a0, s0, c0⟩)⟩, he12⟩
    · have eb := (eqV_dot o.block o.id).trans (congrArg some (decide_eq_false b0))
      by_cases b1 : hasP o.deps o.block
      rotate_left
      · simp (disch := omega) only [go_sem, simprocAttr, hc2, hn, k3, eb, b1]
        exact ⟨nk fun h => ((K h).1).elim b0 b1, he12⟩
      by_cases r1 : o.parent = (0, -1)
      · have er1 := (eqR o.parent).trans (congrArg some (decide_eq_true r1))
        by_cases q1 : o.parent = o.block
        · have eq1 := (eqV_dot o.parent o.block).trans (congrArg some (decide_eq_true q1))
          simp (disch := omega) only [go_sem, simprocAttr, hc2, hn, k3, eb, b1, er1, eq1]
          exact ⟨nk fun h => (K h).2.2.1 q1, he12⟩
        have eq1 := (eqV_dot o.parent o.block).trans (congrArg some (decide_eq_false q1))
        by_cases y1 : keyP o.key
        rotate_left
        · simp (disch := omega) only [go_sem, simprocAttr, hc2, hn, k3, eb, b1, er1, eq1, y1]
          exact ⟨nk fun h => y1 (K h).2.2.2.1, he12⟩
        by_cases a0 : o.at_ = (0, 0)
        rotate_left
        · have ea0 := (eqD o.at_).trans (congrArg some (decide_eq_false a0))
          simp (disch := omega) only [go_sem, simprocAttr, hc2, hn, k3, eb, b1, er1, eq1, y1, ea0]
          exact ⟨nk fun h => a0 (K h).2.2.2.2.1, he12⟩
        have ea0 := (eqD o.at_).trans (congrArg some (decide_eq_true a0))
        by_cases s0 : o.side = 0
        rotate_left
        · simp (disch := omega) only [go_sem, simprocAttr, hc2, hn, k3, eb, b1, er1, eq1, y1, ea0, s0]
          exact ⟨nk fun h => s0 (K h).2.2.2.2.2.1, he12⟩
        by_cases c0 : o.char = 0
        rotate_left
        · simp (disch := omega) only [go_sem, simprocAttr, hc2, hn, k3, eb, b1, er1, eq1, y1, ea0, s0, c0]
          exact ⟨nk fun h => c0 (K h).2.2.2.2.2.2, he12⟩
        simp (disch := omega) only [go_sem, simprocAttr, hc2, hn, k3, eb, b1, er1, eq1, y1, ea0, s0, c0]
        exact ⟨yes ⟨hmh, .inr (.inr ⟨k3, .inr b1, .inl r1, q1, y1, a0, s0, c0⟩)⟩, he12⟩
      · have er1 := (eqR o.parent).trans (congrArg some (decide_eq_false r1))
        by_cases r2 : o.parent = (0, -2)
        · have er2 := (eqT o.parent).trans (congrArg some (decide_eq_true r2))
          by_cases q1 : o.parent = o.block
          · have eq1 := (eqV_dot o.parent o.block).trans (congrArg some (decide_eq_true q1))
            simp (disch := omega) only [go_sem, simprocAttr, hc2, hn, k3, eb, b1, er1, er2, eq1]
            exact ⟨nk fun h => (K h).2.2.1 q1, he12⟩
          have eq1 := (eqV_dot o.parent o.block).trans (congrArg some (decide_eq_false q1))
          by_cases y1 : keyP o.key
          rotate_left
          · simp (disch := omega) only [go_sem, simprocAttr, hc2, hn, k3, eb, b1, er1, er2, eq1, y1]
            exact ⟨nk fun h => y1 (K h).2.2.2.1, he12⟩
          by_cases a0 : o.at_ = (0, 0)
          rotate_left
          · have ea0 := (eqD o.at_).trans (congrArg some (decide_eq_false a0))
            simp (disch := omega) only [go_sem, simprocAttr, hc2, hn, k3, eb, b1, er1, er2, eq1, y1, ea0]
            exact ⟨nk fun h => a0 (K h).2.2.2.2.1, he12⟩
          have ea0 := (eqD o.at_).trans (congrArg some (decide_eq_true a0))
          by_cases s0 : o.side = 0
          rotate_left
          · simp (disch := omega) only [go_sem, simprocAttr, hc2, hn, k3, eb, b1, er1, er2, eq1, y1, ea0, s0]
            exact ⟨nk fun h => s0 (K h).2.2.2.2.2.1, he12⟩
          by_cases c0 : o.char = 0
          rotate_left
          · simp (disch := omega) only [go_sem, simprocAttr, hc2, hn, k3, eb, b1, er1, er2, eq1, y1, ea0, s0, c0]
            exact ⟨nk fun h => c0 (K h).2.2.2.2.2.2, he12⟩
          simp (disch := omega) only [go_sem, simprocAttr, hc2, hn, k3, eb, b1, er1, er2, eq1, y1, ea0, s0, c0]
          exact ⟨yes ⟨hmh, .inr (.inr ⟨k3, .inr b1, .inr (.inl r2), q1, y1, a0, s0, c0⟩)⟩, he12⟩
        · have er2 := (eqT o.parent).trans (congrArg some (decide_eq_false r2))
          by_cases r3 : hasP o.deps o.parent
          rotate_left
          · simp (disch := omega) only [go_sem, simprocAttr, hc2, hn, k3, eb, b1, er1, er2, r3]
            exact ⟨nk fun h => ((K h).2.1).elim r1 fun h => h.elim r2 r3, he12⟩
          by_cases q1 : o.parent = o.block
          · have eq1 := (eqV_dot o.parent o.block).trans (congrArg some (decide_eq_true q1))
            simp (disch := omega) only [go_sem, simprocAttr, hc2, hn, k3, eb, b1, er1, er2, r3, eq1]
            exact ⟨nk fun h => (K h).2.2.1 q1, he12⟩
          have eq1 := (eqV_dot o.parent o.block).trans (congrArg some (decide_eq_false q1))
          by_cases y1 : keyP o.key
          rotate_left
          · simp (disch := omega) only [go_sem, simprocAttr, hc2, hn, k3, eb, b1, er1, er2, r3, eq1, y1]
            exact ⟨nk fun h => y1 (K h).2.2.2.1, he12⟩
          by_cases a0 : o.at_ = (0, 0)
          rotate_left
          · have ea0 := (eqD o.at_).trans (congrArg some (decide_eq_false a0))
            simp (disch := omega) only [go_sem, simprocAttr, hc2, hn, k3, eb, b1, er1, er2, r3, eq1, y1, ea0]
            exact ⟨nk fun h => a0 (K h).2.2.2.2.1, he12⟩
          have ea0 := (eqD o.at_).trans (congrArg some (decide_eq_true a0))
          by_cases s0 : o.side = 0
          rotate_left
          · simp (disch := omega) only [go_sem, simprocAttr, hc2, hn, k3, eb, b1, er1, er2, r3, eq1, y1, ea0, s0]
            exact ⟨nk fun h => s0 (K h).2.2.2.2.2.1, he12⟩
          by_cases c0 : o.char = 0
          rotate_left
          · simp (disch := omega) only [go_sem, simprocAttr, hc2, hn, k3, eb, b1, er1, er2, r3, eq1, y1, ea0, s0, c0]
            exact ⟨nk fun h => c0 (K h).2.2.2.2.2.2, he12⟩
          simp (disch := omega) only [go_sem, simprocAttr, hc2, hn, k3, eb, b1, er1, er2, r3, eq1, y1, ea0, s0, c0]
          exact ⟨yes ⟨hmh, .inr (.inr ⟨k3, .inr b1, .inr (.inr r3), q1, y1, a0, s0, c0⟩)⟩, he12⟩
  simp (disch := omega) only [go_sem, simprocAttr, hc2, k1, k2, k3]
  exact ⟨nk fun h => by rcases h.2 with h | h | h <;> exact absurd h.1 (by omega), he12⟩
end Go.Osj
