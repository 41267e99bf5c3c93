/- Contracts carried over from the layers below. -/
import Derived.Test.YtdabompehgancaaVV
import Derived.Test.YtdabompehgancaaY
set_option linter.unusedVariables false
/- keys.May, and strings.Trim at an ASCII cutset. -/
set_option linter.unusedSimpArgs false
namespace Go.Osj
abbrev bl (s : ByteArray) : List UInt8 := s.data.toList
theorem bl_size (s : ByteArray) : s.size = (bl s).length := by
  show s.data.size = s.data.toList.length
  rw [Array.length_toList]
theorem bl_get (s : ByteArray) (i : Nat) : s[i]? = (bl s)[i]? := by
  by_cases h : i < s.size
  · rw [getElem?_pos s i h, List.getElem?_eq_getElem (by rw [← bl_size]; exact h)]
    rfl
  · rw [getElem?_neg s i h, List.getElem?_eq_none (by rw [← bl_size]; omega)]
theorem bl_ext (s : ByteArray) (l h : Nat) : bl (s.extract l h) = ((bl s).drop l).take (h - l) := by
  simp [bl, ByteArray.data_extract, Array.toList_extract, List.extract_eq_take_drop]
/-- the cells of a set of bytes -/
def setC (f : Nat → Bool) : List Value := (List.range 256).map fun c => .bool (f c)
theorem setC_len (f : Nat → Bool) : (setC f).length = 256 := by simp [setC]
theorem setC_size (f : Nat → Bool) : (setC f).toArray.size = 256 := by simp [setC]
theorem setC_one (f : Nat → Bool) : oneC (setC f) = true := by simp [oneC, setC, Value.oneCell']
theorem setC_get (f : Nat → Bool) {c : Nat} (h : c < 256) : (setC f)[c]? = some (.bool (f c)) := by simp [setC, h]
theorem setC_all (f : Nat → Bool) {p : Value → Bool} (hp : ∀ b, p (.bool b) = true) : (setC f).all p = true := by simp [setC, hp]
theorem setC_drop (f : Nat → Bool) : (setC f).drop 256 = [] := List.drop_of_length_le (by rw [setC_len]; omega)
theorem setC_take (f : Nat → Bool) : (setC f).take 256 = setC f := List.take_of_length_le (by rw [setC_len]; omega)
theorem setC_toList (f : Nat → Bool) : (setC f).toArray.toList = setC f := rfl
theorem wrote_full (cs news : List Value) (h : cs.length = news.length) : wrote cs 0 news = news := by
  unfold wrote
  rw [List.drop_of_length_le (by omega)]
  simp
theorem setC_wrote (f g : Nat → Bool) : wrote (setC f) 0 (setC g) = setC g := wrote_full _ _ (by simp [setC])
theorem setC_set (f : Nat → Bool) {c : Nat} (h : c < 256) : wrote (setC f) c [.bool true] = setC fun d => d == c || f d := by
  unfold wrote
  apply List.ext_getElem?
  intro i
  by_cases hi : i < 256
  · rw [setC_get _ hi]
    by_cases h1 : i < c
    · rw [List.append_assoc, List.getElem?_append_left (by simp [setC_len]; omega), List.getElem?_take, if_pos h1, setC_get _ hi]
      have : (i == c) = false := by simp; omega
      rw [this, Bool.false_or]
    · by_cases h2 : i = c
      · subst h2
        rw [List.append_assoc, List.getElem?_append_right (by simp [setC_len]; omega)]
        simp [setC_len, Nat.min_eq_left (Nat.le_of_lt hi)]
      · rw [List.getElem?_append_right (by simp [setC_len]; omega)]
        have e : (List.take c (setC f) ++ [Value.bool true]).length = c + 1 := by simp [setC_len]; omega
        rw [e, List.getElem?_drop]
        have e2 : c + [Value.bool true].length + (i - (c + 1)) = i := by simp; omega
        rw [e2, setC_get _ hi]
        have : (i == c) = false := by simp; omega
        rw [this, Bool.false_or]
  · rw [List.getElem?_eq_none (by simp [setC_len]; omega), List.getElem?_eq_none (by simp [setC_len]; omega)]
def inL (l : List UInt8) (c : Nat) : Bool := l.any fun b => b.toNat == c
theorem bnd_none {fr : Fr} {y d : Nat} : bnd fr y d none = some d := rfl
theorem bnd_some {fr : Fr} {y d : Nat} {x : Operand} : bnd fr y d (some x) = (match ev fr x with | .int _ n => if 0 ≤ n ∧ n ≤ y then some n.toNat else none | _ => none) := rfl
/-- a key that may be -/
def keyP (s : ByteArray) : Prop := (0 < s.size ∧ s.size ≤ 200) ∧ (bl s).getLast? ≠ some 97 ∧ ∀ b ∈ bl s, 97 ≤ b.toNat ∧ b.toNat ≤ 122
instance (s : ByteArray) : Decidable (keyP s) := inferInstanceAs (Decidable (_ ∧ _ ∧ _))
def lowS : ByteArray := ⟨#[97, 98, 99, 100, 101, 102, 103, 104, 105, 106, 107, 108, 109, 110, 111, 112, 113, 114, 115, 116, 117, 118, 119, 120, 121, 122]⟩
theorem lowS_in (b : UInt8) : inL (bl lowS) b.toNat = true ↔ 97 ≤ b.toNat ∧ b.toNat ≤ 122 := by
  have h := b.toNat_lt
  have : ∀ n : Fin 256, inL (bl lowS) n.1 = true ↔ 97 ≤ n.1 ∧ n.1 ≤ 122 := by decide +kernel
  exact this ⟨b.toNat, h⟩
theorem last_at {s : ByteArray} (h : 0 < s.size) : ∃ b, s[s.size - 1]? = some b ∧ (bl s).getLast? = some b := by
  have hlx : s.size - 1 < (bl s).length := by rw [← bl_size]; omega
  refine ⟨(bl s)[s.size - 1], by rw [bl_get, List.getElem?_eq_getElem hlx], ?_⟩
  rw [List.getLast?_eq_getElem?, ← bl_size, List.getElem?_eq_getElem hlx]
theorem F.osierref06_May_J {S : St} {s : ByteArray} : J PR F.osierref06_May [.string s] S fun v S' => v = .bool (decide (keyP s)) ∧ S = S' := by
  refine J_by PR.mixed F.osierref06_May.ok (by simp) ?_
  simp (disch := omega) only [go_sem, ↓reduceIte, Nat.reduceEqDiff, Nat.reduceAdd, Nat.reduceMul, Nat.reduceSub, Nat.reduceLT, Nat.reduceLeDiff, Nat.reduceBEq, reduceCtorEq, Int.reduceLT, Int.reduceEq, Int.reduceLE, Int.reduceAdd, Int.reduceSub, Int.reduceToNat, Int.reduceNeg]
  by_cases h0 : s.size = 0
  · have hk : ¬ keyP s := fun h => by have := h.1; omega
    simp (disch := omega) only [go_sem, ↓reduceIte, Nat.reduceEqDiff, Nat.reduceAdd, Nat.reduceMul, Nat.reduceSub, Nat.reduceLT, Nat.reduceLeDiff, Nat.reduceBEq, reduceCtorEq, Int.reduceLT, Int.reduceEq, Int.reduceLE, Int.reduceAdd, Int.reduceSub, Int.reduceToNat, Int.reduceNeg, h0]
    simp [hk]
  have i1 : ¬ ((s.size : Int) = 0) := by omega
  by_cases h2 : 200 < s.size
  · have hk : ¬ keyP s := fun h => by have := h.1; omega
    have i2 : (200 : Int) < (s.size : Int) := by omega
    simp (disch := omega) only [go_sem, ↓reduceIte, Nat.reduceEqDiff, Nat.reduceAdd, Nat.reduceMul, Nat.reduceSub, Nat.reduceLT, Nat.reduceLeDiff, Nat.reduceBEq, reduceCtorEq, Int.reduceLT, Int.reduceEq, Int.reduceLE, Int.reduceAdd, Int.reduceSub, Int.reduceToNat, Int.reduceNeg, i1, i2]
    simp [hk]
  have i2 : ¬ ((200 : Int) < (s.size : Int)) := by omega
  obtain ⟨b, hb, hl⟩ := last_at (s := s) (by omega)
  have e1 : IntKind.i64.wrap ((s.size : Int) - 1) = ((s.size - 1 : Nat) : Int) := by rw [wrap64 (by omega) (by omega)]; omega
  have e2 : (s.size : Int) - 1 = ((s.size - 1 : Nat) : Int) := by omega
  have c0 : (0 : Int) ≤ ((s.size - 1 : Nat) : Int) := by omega
  simp (disch := omega) only [go_sem, ↓reduceIte, Nat.reduceEqDiff, Nat.reduceAdd, Nat.reduceMul, Nat.reduceSub, Nat.reduceLT, Nat.reduceLeDiff, Nat.reduceBEq, reduceCtorEq, Int.reduceLT, Int.reduceEq, Int.reduceLE, Int.reduceAdd, Int.reduceSub, Int.reduceToNat, Int.reduceNeg, i1, i2, hb, e1, e2, c0]
  refine wcond_dec (fun hx => ?_) (fun hx => ?_)
  · have hk : ¬ keyP s := fun h => by
      apply h.2.1
      rw [hl]
      congr 1
      apply UInt8.toNat_inj.1
      show b.toNat = 97
      omega
    simp (disch := omega) only [go_sem, ↓reduceIte, Nat.reduceEqDiff, Nat.reduceAdd, Nat.reduceMul, Nat.reduceSub, Nat.reduceLT, Nat.reduceLeDiff, Nat.reduceBEq, reduceCtorEq, Int.reduceLT, Int.reduceEq, Int.reduceLE, Int.reduceAdd, Int.reduceSub, Int.reduceToNat, Int.reduceNeg]
    simp [hk]
  simp (disch := omega) only [go_sem, ↓reduceIte, Nat.reduceEqDiff, Nat.reduceAdd, Nat.reduceMul, Nat.reduceSub, Nat.reduceLT, Nat.reduceLeDiff, Nat.reduceBEq, reduceCtorEq, Int.reduceLT, Int.reduceEq, Int.reduceLE, Int.reduceAdd, Int.reduceSub, Int.reduceToNat, Int.reduceNeg]
  refine wC_loop (fun n fr S' => ∃ i : Nat, n = s.size - i ∧ i ≤ s.size ∧ fr 0 = .string s ∧ fr 3 = .int .i64 (i : Nat) ∧ S = S' ∧ ∀ b ∈ (bl s).take i, 97 ≤ b.toNat ∧ b.toNat ≤ 122) s.size ⟨0, by simp (disch := omega) only [go_sem, ↓reduceIte, Nat.reduceEqDiff, Nat.reduceAdd, Nat.reduceMul, Nat.reduceSub, Nat.reduceLT, Nat.reduceLeDiff, Nat.reduceBEq, reduceCtorEq, Int.reduceLT, Int.reduceEq, Int.reduceLE, Int.reduceAdd, Int.reduceSub, Int.reduceToNat, Int.reduceNeg]; simp⟩ ?_
  rintro n fr S' ⟨i, rfl, hi, g0, g3, rfl, ha⟩
  simp (disch := omega) only [go_sem, ↓reduceIte, Nat.reduceEqDiff, Nat.reduceAdd, Nat.reduceMul, Nat.reduceSub, Nat.reduceLT, Nat.reduceLeDiff, Nat.reduceBEq, reduceCtorEq, Int.reduceLT, Int.reduceEq, Int.reduceLE, Int.reduceAdd, Int.reduceSub, Int.reduceToNat, Int.reduceNeg, F.osierref06_May.l0, g0, g3]
  refine wcond_dec (fun hlt => ?_) (fun hge => ?_)
  · have hlx : i < (bl s).length := by rw [← bl_size]; omega
    have hg : s[i]? = some (bl s)[i] := by rw [bl_get, List.getElem?_eq_getElem hlx]
    have c0 : (0 : Int) ≤ (i : Int) := by omega
    by_cases hr : 97 ≤ (bl s)[i].toNat ∧ (bl s)[i].toNat ≤ 122
    · have j1 : ¬ (((bl s)[i].toNat : Int) < 97) := by omega
      have j2 : ¬ ((122 : Int) < ((bl s)[i].toNat : Int)) := by omega
      simp (disch := omega) only [go_sem, ↓reduceIte, Nat.reduceEqDiff, Nat.reduceAdd, Nat.reduceMul, Nat.reduceSub, Nat.reduceLT, Nat.reduceLeDiff, Nat.reduceBEq, reduceCtorEq, Int.reduceLT, Int.reduceEq, Int.reduceLE, Int.reduceAdd, Int.reduceSub, Int.reduceToNat, Int.reduceNeg, g0, g3, hg, c0, j1, j2]
      refine ⟨s.size - (i + 1), by omega, i + 1, rfl, by omega, rfl, ?_⟩
      rw [take_snoc (List.getElem?_eq_getElem hlx)]
      intro b hb
      rcases List.mem_append.1 hb with hb | hb
      · exact ha b hb
      · simp only [List.mem_singleton] at hb; subst hb; exact hr
    · have hk : ¬ keyP s := fun h => hr (h.2.2 _ (List.getElem_mem hlx))
      by_cases h97 : (bl s)[i].toNat < 97
      · have j1 : (((bl s)[i].toNat : Int) < 97) := by omega
        simp (disch := omega) only [go_sem, ↓reduceIte, Nat.reduceEqDiff, Nat.reduceAdd, Nat.reduceMul, Nat.reduceSub, Nat.reduceLT, Nat.reduceLeDiff, Nat.reduceBEq, reduceCtorEq, Int.reduceLT, Int.reduceEq, Int.reduceLE, Int.reduceAdd, Int.reduceSub, Int.reduceToNat, Int.reduceNeg, g0, g3, hg, c0, j1]
        simp [hk]
      · have j1 : ¬ (((bl s)[i].toNat : Int) < 97) := by omega
        have j2 : ((122 : Int) < ((bl s)[i].toNat : Int)) := by omega
        simp (disch := omega) only [go_sem, ↓reduceIte, Nat.reduceEqDiff, Nat.reduceAdd, Nat.reduceMul, Nat.reduceSub, Nat.reduceLT, Nat.reduceLeDiff, Nat.reduceBEq, reduceCtorEq, Int.reduceLT, Int.reduceEq, Int.reduceLE, Int.reduceAdd, Int.reduceSub, Int.reduceToNat, Int.reduceNeg, g0, g3, hg, c0, j1, j2]
        simp [hk]
  · rw [List.take_of_length_le (by rw [← bl_size]; omega)] at ha
    have hk : keyP s := by
      refine ⟨by omega, ?_, ha⟩
      rw [hl]
      intro h
      injection h with h
      subst h
      exact hx rfl
    simp (disch := omega) only [go_sem, ↓reduceIte, Nat.reduceEqDiff, Nat.reduceAdd, Nat.reduceMul, Nat.reduceSub, Nat.reduceLT, Nat.reduceLeDiff, Nat.reduceBEq, reduceCtorEq, Int.reduceLT, Int.reduceEq, Int.reduceLE, Int.reduceAdd, Int.reduceSub, Int.reduceToNat, Int.reduceNeg]
    simp [hk]
end Go.Osj

/- Operations: whether one may be. -/
set_option linter.unusedSimpArgs false
namespace Go.Osj
structure OpA where
  id : Dot
  time : Int
  deps : List Dot
  kind : Int
  block : Dot
  at_ : Dot
  side : Int
  char : Int
  parent : Dot
  key : ByteArray
def opC (o : OpA) (d : Value) : List Value := [.int .i64 o.id.1, .int .i64 o.id.2, .int .i64 o.time, d, .int .i64 o.kind, .int .i64 o.block.1, .int .i64 o.block.2, .int .i64 o.at_.1, .int .i64 o.at_.2, .int .i64 o.side, .int .i64 o.char, .int .i64 o.parent.1, .int .i64 o.parent.2, .string o.key]
abbrev opV (o : OpA) (d : Value) : Value := .agg (opC o d).toArray
theorem opC_len (o : OpA) (d : Value) : (opC o d).length = 14 := rfl
theorem opC_toList (o : OpA) (d : Value) : (opC o d).toArray.toList = opC o d := rfl
theorem opC_take (o : OpA) (d : Value) : (opC o d).take 14 = opC o d := rfl
def opB (S : St) (w : Nat) (o : OpA) (d : Value) : Prop := w < S.n ∧ S.obj w = some (.cells true 14 (opC o d))
theorem opB.ext {S S' : St} {w : Nat} {o : OpA} {d : Value} (h : opB S w o d) (he : S.Ext S') : opB S' w o d := ⟨Nat.lt_of_lt_of_le h.1 he.n, (he.obj w h.1).trans h.2⟩
theorem opB.put {S : St} {w : Nat} {o : OpA} {d : Value} : opB (S.put w (.cells true 14 (opC o d))) w o d := ⟨St.lt_put_self _ _ _, St.put_same _ _ _⟩
theorem opB.c {S : St} {w : Nat} {o : OpA} {d : Value} (h : opB S w o d) :
    (S.cell ⟨w, 0, none⟩ = some (.int .i64 o.id.1) ∧ S.cell ⟨w, 1, none⟩ = some (.int .i64 o.id.2) ∧ S.cell ⟨w, 2, none⟩ = some (.int .i64 o.time) ∧ S.cell ⟨w, 3, none⟩ = some d ∧ S.cell ⟨w, 4, none⟩ = some (.int .i64 o.kind) ∧ S.cell ⟨w, 9, none⟩ = some (.int .i64 o.side) ∧ S.cell ⟨w, 10, none⟩ = some (.int .i64 o.char) ∧ S.cell ⟨w, 13, none⟩ = some (.string o.key)) ∧
    (S.loadN ⟨w, 0, none⟩ 2 = some [.int .i64 o.id.1, .int .i64 o.id.2] ∧ S.loadN ⟨w, 5, none⟩ 2 = some [.int .i64 o.block.1, .int .i64 o.block.2] ∧ S.loadN ⟨w, 7, none⟩ 2 = some [.int .i64 o.at_.1, .int .i64 o.at_.2] ∧ S.loadN ⟨w, 11, none⟩ 2 = some [.int .i64 o.parent.1, .int .i64 o.parent.2]) ∧
    S.loadN ⟨w, 0, none⟩ 14 = some (opC o d) := by
  simp only [St.cell_def, St.loadN_def, h.2]
  simp [opC]
/-- an operation that may be -/
def mayH (o : OpA) : Prop := mayP o.id ∧ 1 ≤ o.time ∧ o.time ≤ 1099511627776 ∧ isV o.deps ∧ getV o.deps o.id.1 = o.id.2 - 1
def may1 (o : OpA) : Prop := (o.at_ = (0, 0) → o.side = 1) ∧ (o.at_ ≠ (0, 0) → hasP o.deps o.at_) ∧ (o.side = 0 ∨ o.side = 1) ∧ hasP o.deps o.block ∧ 0 ≤ o.char ∧ o.char ≤ 1114111 ∧ (o.char < 55296 ∨ 57343 < o.char) ∧ o.parent = (0, 0) ∧ o.key = ⟨#[]⟩
def may2 (o : OpA) : Prop := hasP o.deps o.block ∧ hasP o.deps o.at_ ∧ o.side = 0 ∧ o.char = 0 ∧ o.parent = (0, 0) ∧ o.key = ⟨#[]⟩
def may3 (o : OpA) : Prop := (o.block = o.id ∨ hasP o.deps o.block) ∧ (o.parent = (0, -1) ∨ o.parent = (0, -2) ∨ hasP o.deps o.parent) ∧ o.parent ≠ o.block ∧ keyP o.key ∧ o.at_ = (0, 0) ∧ o.side = 0 ∧ o.char = 0
instance (o : OpA) : Decidable (may1 o) := inferInstanceAs (Decidable (_ ∧ _))
instance (o : OpA) : Decidable (may2 o) := inferInstanceAs (Decidable (_ ∧ _))
instance (o : OpA) : Decidable (may3 o) := inferInstanceAs (Decidable (_ ∧ _))
instance (o : OpA) : Decidable (mayH o) := inferInstanceAs (Decidable (_ ∧ _))
def mayO (o : OpA) : Prop := mayH o ∧ ((o.kind = 1 ∧ may1 o) ∨ (o.kind = 2 ∧ may2 o) ∨ (o.kind = 3 ∧ may3 o))
instance (o : OpA) : Decidable (mayO o) := inferInstanceAs (Decidable (_ ∧ _))

theorem wE_boxO {fr : Fr} {S : St} {x : Operand} {k : KV} {o : OpA} {dv : Value} (hx : ev fr x = opV o dv) (hk : ∀ w S1, S.Ext S1 → opB S1 w o dv → S.n ≤ w → k.run (ptrV w) S1) :
    @wfresh S.n ⟨fun b => k.run (.pointer (some ⟨b, 0, none⟩)) (S.put b (.cells true (ev fr x).cells.toList.length (ev fr x).cells.toList))⟩ := by
  refine wfresh_of fun b hb => ?_
  rw [hx]
  exact hk b _ ((St.Ext.refl S).put hb _) opB.put hb
end Go.Osj

/- osierref07.Check. -/
set_option linter.unusedSimpArgs false
set_option maxHeartbeats 4000000
namespace Go.Osj
theorem F.osierref07_Check_J {S : St} {o : OpA} {dv : Value} (hd : SlT dotE S dv o.deps) (hL : o.deps.length < 9223372036854775808) : J PR F.osierref07_Check [opV o dv] S fun v S' => v = .bool (decide (mayO o)) ∧ S = S' := by
  refine J.back (J_by PR.mixed F.osierref07_Check.ok (by simp) ?_)
  simp (disch := omega) only [go_sem, ↓reduceIte, Nat.reduceEqDiff, Nat.reduceAdd, Nat.reduceMul, Nat.reduceSub, Nat.reduceLT, Nat.reduceLeDiff, Nat.reduceBEq, reduceCtorEq, Int.reduceLT, Int.reduceEq, Int.reduceLE, Int.reduceAdd, Int.reduceSub, Int.reduceToNat, Int.reduceNeg]
  refine wE_boxO (o := o) (dv := dv) rfl fun w S1 he hwb hw => ?_
  have hd1 := hd.ext dotE he
  have hc := hwb.c
  simp (disch := omega) only [go_sem, ↓reduceIte, Nat.reduceEqDiff, Nat.reduceAdd, Nat.reduceMul, Nat.reduceSub, Nat.reduceLT, Nat.reduceLeDiff, Nat.reduceBEq, reduceCtorEq, Int.reduceLT, Int.reduceEq, Int.reduceLE, Int.reduceAdd, Int.reduceSub, Int.reduceToNat, Int.reduceNeg, hc]
  refine wJ_of F.osierref03_May_P ?_; rintro _ _ ⟨rfl, rfl⟩
  simp (disch := omega) only [go_sem, ↓reduceIte, Nat.reduceEqDiff, Nat.reduceAdd, Nat.reduceMul, Nat.reduceSub, Nat.reduceLT, Nat.reduceLeDiff, Nat.reduceBEq, reduceCtorEq, Int.reduceLT, Int.reduceEq, Int.reduceLE, Int.reduceAdd, Int.reduceSub, Int.reduceToNat, Int.reduceNeg, hc]
  refine wJ_of (F.osierref04_May_J hd1 hL) ?_; rintro _ _ ⟨rfl, rfl⟩
  have yes : mayO o → Value.bool true = Value.bool (decide (mayO o)) := fun h => by rw [decide_eq_true h]
  have nk : ¬ mayO o → Value.bool false = Value.bool (decide (mayO o)) := fun h => by rw [decide_eq_false h]
  by_cases m1 : mayP o.id
  rotate_left
  · simp (disch := omega) only [go_sem, ↓reduceIte, Nat.reduceEqDiff, Nat.reduceAdd, Nat.reduceMul, Nat.reduceSub, Nat.reduceLT, Nat.reduceLeDiff, Nat.reduceBEq, reduceCtorEq, Int.reduceLT, Int.reduceEq, Int.reduceLE, Int.reduceAdd, Int.reduceSub, Int.reduceToNat, Int.reduceNeg, hc, m1]
    exact ⟨nk fun h => m1 h.1.1, he⟩
  by_cases m4 : isV o.deps
  rotate_left
  · simp (disch := omega) only [go_sem, ↓reduceIte, Nat.reduceEqDiff, Nat.reduceAdd, Nat.reduceMul, Nat.reduceSub, Nat.reduceLT, Nat.reduceLeDiff, Nat.reduceBEq, reduceCtorEq, Int.reduceLT, Int.reduceEq, Int.reduceLE, Int.reduceAdd, Int.reduceSub, Int.reduceToNat, Int.reduceNeg, hc, m1, m4]
    exact ⟨nk fun h => m4 h.1.2.2.2.1, he⟩
  by_cases m2 : o.time < 1
  · simp (disch := omega) only [go_sem, ↓reduceIte, Nat.reduceEqDiff, Nat.reduceAdd, Nat.reduceMul, Nat.reduceSub, Nat.reduceLT, Nat.reduceLeDiff, Nat.reduceBEq, reduceCtorEq, Int.reduceLT, Int.reduceEq, Int.reduceLE, Int.reduceAdd, Int.reduceSub, Int.reduceToNat, Int.reduceNeg, hc, m1, m2, m4]
    exact ⟨nk fun h => by have := h.1.2.1; omega, he⟩
  by_cases m3 : 1099511627776 < o.time
  · simp (disch := omega) only [go_sem, ↓reduceIte, Nat.reduceEqDiff, Nat.reduceAdd, Nat.reduceMul, Nat.reduceSub, Nat.reduceLT, Nat.reduceLeDiff, Nat.reduceBEq, reduceCtorEq, Int.reduceLT, Int.reduceEq, Int.reduceLE, Int.reduceAdd, Int.reduceSub, Int.reduceToNat, Int.reduceNeg, hc, m1, m2, m3, m4]
    exact ⟨nk fun h => by have := h.1.2.2.1; omega, he⟩
  simp (disch := omega) only [go_sem, ↓reduceIte, Nat.reduceEqDiff, Nat.reduceAdd, Nat.reduceMul, Nat.reduceSub, Nat.reduceLT, Nat.reduceLeDiff, Nat.reduceBEq, reduceCtorEq, Int.reduceLT, Int.reduceEq, Int.reduceLE, Int.reduceAdd, Int.reduceSub, Int.reduceToNat, Int.reduceNeg, hc, m1, m2, m3, m4]
  refine wJ_of (F.osierref04_Get_J hd1 hL) ?_; rintro _ _ ⟨rfl, rfl⟩
  have e1 : IntKind.i64.wrap (o.id.2 - 1) = o.id.2 - 1 := by have := m1.2.2; exact wrap64 (by omega) (by omega)
  by_cases m5 : getV o.deps o.id.1 = o.id.2 - 1
  rotate_left
  · simp (disch := omega) only [go_sem, ↓reduceIte, Nat.reduceEqDiff, Nat.reduceAdd, Nat.reduceMul, Nat.reduceSub, Nat.reduceLT, Nat.reduceLeDiff, Nat.reduceBEq, reduceCtorEq, Int.reduceLT, Int.reduceEq, Int.reduceLE, Int.reduceAdd, Int.reduceSub, Int.reduceToNat, Int.reduceNeg, hc, m4, m5, e1]
    exact ⟨nk fun h => m5 h.1.2.2.2.2, he⟩
  have hmh : mayH o := ⟨m1, by omega, by omega, m4, m5⟩
  simp (disch := omega) only [go_sem, ↓reduceIte, Nat.reduceEqDiff, Nat.reduceAdd, Nat.reduceMul, Nat.reduceSub, Nat.reduceLT, Nat.reduceLeDiff, Nat.reduceBEq, reduceCtorEq, Int.reduceLT, Int.reduceEq, Int.reduceLE, Int.reduceAdd, Int.reduceSub, Int.reduceToNat, Int.reduceNeg, hc, m4, m5, e1]
  refine wJ_of (F.osierref04_Has_J (d := o.block) hd1 hL) ?_; rintro _ _ ⟨rfl, rfl⟩
  simp (disch := omega) only [go_sem, ↓reduceIte, Nat.reduceEqDiff, Nat.reduceAdd, Nat.reduceMul, Nat.reduceSub, Nat.reduceLT, Nat.reduceLeDiff, Nat.reduceBEq, reduceCtorEq, Int.reduceLT, Int.reduceEq, Int.reduceLE, Int.reduceAdd, Int.reduceSub, Int.reduceToNat, Int.reduceNeg, hc]
  refine wJ_of (F.osierref04_Has_J (d := o.at_) hd1 hL) ?_; rintro _ _ ⟨rfl, rfl⟩
  simp (disch := omega) only [go_sem, ↓reduceIte, Nat.reduceEqDiff, Nat.reduceAdd, Nat.reduceMul, Nat.reduceSub, Nat.reduceLT, Nat.reduceLeDiff, Nat.reduceBEq, reduceCtorEq, Int.reduceLT, Int.reduceEq, Int.reduceLE, Int.reduceAdd, Int.reduceSub, Int.reduceToNat, Int.reduceNeg, hc]
  refine wJ_of (F.osierref04_Has_J (d := o.parent) hd1 hL) ?_; rintro _ _ ⟨rfl, rfl⟩
  simp (disch := omega) only [go_sem, ↓reduceIte, Nat.reduceEqDiff, Nat.reduceAdd, Nat.reduceMul, Nat.reduceSub, Nat.reduceLT, Nat.reduceLeDiff, Nat.reduceBEq, reduceCtorEq, Int.reduceLT, Int.reduceEq, Int.reduceLE, Int.reduceAdd, Int.reduceSub, Int.reduceToNat, Int.reduceNeg, hc]
  refine wJ_of F.osierref06_May_J ?_; rintro _ _ ⟨rfl, rfl⟩
  simp (disch := omega) only [go_sem, ↓reduceIte, Nat.reduceEqDiff, Nat.reduceAdd, Nat.reduceMul, Nat.reduceSub, Nat.reduceLT, Nat.reduceLeDiff, Nat.reduceBEq, reduceCtorEq, Int.reduceLT, Int.reduceEq, Int.reduceLE, Int.reduceAdd, Int.reduceSub, Int.reduceToNat, Int.reduceNeg, hc]
  refine wfresh_of fun y hy => ?_
  simp (disch := omega) only [go_sem, ↓reduceIte, Nat.reduceEqDiff, Nat.reduceAdd, Nat.reduceMul, Nat.reduceSub, Nat.reduceLT, Nat.reduceLeDiff, Nat.reduceBEq, reduceCtorEq, Int.reduceLT, Int.reduceEq, Int.reduceLE, Int.reduceAdd, Int.reduceSub, Int.reduceToNat, Int.reduceNeg]
  refine wfresh_of fun z hz => ?_
  simp (disch := omega) only [go_sem, ↓reduceIte, Nat.reduceEqDiff, Nat.reduceAdd, Nat.reduceMul, Nat.reduceSub, Nat.reduceLT, Nat.reduceLeDiff, Nat.reduceBEq, reduceCtorEq, Int.reduceLT, Int.reduceEq, Int.reduceLE, Int.reduceAdd, Int.reduceSub, Int.reduceToNat, Int.reduceNeg]
  refine wfresh_of fun u hu => ?_
  simp (disch := omega) only [go_sem, ↓reduceIte, Nat.reduceEqDiff, Nat.reduceAdd, Nat.reduceMul, Nat.reduceSub, Nat.reduceLT, Nat.reduceLeDiff, Nat.reduceBEq, reduceCtorEq, Int.reduceLT, Int.reduceEq, Int.reduceLE, Int.reduceAdd, Int.reduceSub, Int.reduceToNat, Int.reduceNeg]
  have hzy : z ≠ y := by have := St.lt_put_self S1 y (.cells true 2 [.int .i64 0, .int .i64 0]); omega
  have huz : u ≠ z := by have := St.lt_put_self (S1.put y (.cells true 2 [.int .i64 0, .int .i64 0])) z (.cells true 2 [.int .i64 0, .int .i64 (-1)]); omega
  have huy : u ≠ y := by have := St.lt_put_self S1 y (.cells true 2 [.int .i64 0, .int .i64 0]); have := St.put_n (S1.put y (.cells true 2 [.int .i64 0, .int .i64 0])) z (.cells true 2 [.int .i64 0, .int .i64 (-1)]); omega
  have he2 := (((St.Ext.refl S1).put hy (.cells true 2 [.int .i64 0, .int .i64 0])).put hz (.cells true 2 [.int .i64 0, .int .i64 (-1)])).put hu (.cells true 2 [.int .i64 0, .int .i64 (-2)])
  have he12 := he.trans he2
  have hwb2 := hwb.ext he2
  have hn : (((S1.put y (.cells true 2 [.int .i64 0, .int .i64 0])).put z (.cells true 2 [.int .i64 0, .int .i64 (-1)])).put u (.cells true 2 [.int .i64 0, .int .i64 (-2)])).loadN ⟨y, 0, none⟩ 2 = some [.int .i64 0, .int .i64 0] ∧
      (((S1.put y (.cells true 2 [.int .i64 0, .int .i64 0])).put z (.cells true 2 [.int .i64 0, .int .i64 (-1)])).put u (.cells true 2 [.int .i64 0, .int .i64 (-2)])).loadN ⟨z, 0, none⟩ 2 = some [.int .i64 0, .int .i64 (-1)] ∧
      (((S1.put y (.cells true 2 [.int .i64 0, .int .i64 0])).put z (.cells true 2 [.int .i64 0, .int .i64 (-1)])).put u (.cells true 2 [.int .i64 0, .int .i64 (-2)])).loadN ⟨u, 0, none⟩ 2 = some [.int .i64 0, .int .i64 (-2)] := by
    simp only [St.loadN_def, St.put_obj, if_neg hzy.symm, if_neg huy.symm, if_neg huz.symm, if_true]
    simp
  have hc2 := hwb2.c
  have eqD : ∀ a : Dot, eqV [.i .i64, .i .i64] true (dotV a) (.agg #[.int .i64 0, .int .i64 0]) = some (decide (a = (0, 0))) := fun a => eqV_dot a (0, 0)
  have eqR : ∀ a : Dot, eqV [.i .i64, .i .i64] true (dotV a) (.agg #[.int .i64 0, .int .i64 (-1)]) = some (decide (a = (0, -1))) := fun a => eqV_dot a (0, -1)
  have eqT : ∀ a : Dot, eqV [.i .i64, .i .i64] true (dotV a) (.agg #[.int .i64 0, .int .i64 (-2)]) = some (decide (a = (0, -2))) := fun a => eqV_dot a (0, -2)
  generalize ((S1.put y (.cells true 2 [.int .i64 0, .int .i64 0])).put z (.cells true 2 [.int .i64 0, .int .i64 (-1)])).put u (.cells true 2 [.int .i64 0, .int .i64 (-2)]) = S2 at *
  by_cases k1 : o.kind = 1
  · have K : mayO o → may1 o := fun h => by
      rcases h.2 with h | h | h
      · exact h.2
      · exact absurd h.1 (by omega)
      · exact absurd h.1 (by omega)
    by_cases a0 : o.at_ = (0, 0)
    · have ea := (eqD o.at_).trans (congrArg some (decide_eq_true a0))
      by_cases s1 : o.side = 1
      rotate_left
      · simp (disch := omega) only [go_sem, ↓reduceIte, Nat.reduceEqDiff, Nat.reduceAdd, Nat.reduceMul, Nat.reduceSub, Nat.reduceLT, Nat.reduceLeDiff, Nat.reduceBEq, reduceCtorEq, Int.reduceLT, Int.reduceEq, Int.reduceLE, Int.reduceAdd, Int.reduceSub, Int.reduceToNat, Int.reduceNeg, hc2, hn, k1, ea, s1]
        exact ⟨nk fun h => s1 ((K h).1 a0), he12⟩
      by_cases b2 : 0 ≤ o.char
      rotate_left
      · by_cases b1 : hasP o.deps o.block
        rotate_left
        · simp (disch := omega) only [go_sem, ↓reduceIte, Nat.reduceEqDiff, Nat.reduceAdd, Nat.reduceMul, Nat.reduceSub, Nat.reduceLT, Nat.reduceLeDiff, Nat.reduceBEq, reduceCtorEq, Int.reduceLT, Int.reduceEq, Int.reduceLE, Int.reduceAdd, Int.reduceSub, Int.reduceToNat, Int.reduceNeg, hc2, hn, k1, ea, s1, b2, b1]
          exact ⟨nk fun h => b2 (K h).2.2.2.2.1, he12⟩
        simp (disch := omega) only [go_sem, ↓reduceIte, Nat.reduceEqDiff, Nat.reduceAdd, Nat.reduceMul, Nat.reduceSub, Nat.reduceLT, Nat.reduceLeDiff, Nat.reduceBEq, reduceCtorEq, Int.reduceLT, Int.reduceEq, Int.reduceLE, Int.reduceAdd, Int.reduceSub, Int.reduceToNat, Int.reduceNeg, hc2, hn, k1, ea, s1, b2, b1]
        exact ⟨nk fun h => b2 (K h).2.2.2.2.1, he12⟩
      by_cases b3 : o.char ≤ 1114111
      rotate_left
      · by_cases b1 : hasP o.deps o.block
        rotate_left
        · simp (disch := omega) only [go_sem, ↓reduceIte, Nat.reduceEqDiff, Nat.reduceAdd, Nat.reduceMul, Nat.reduceSub, Nat.reduceLT, Nat.reduceLeDiff, Nat.reduceBEq, reduceCtorEq, Int.reduceLT, Int.reduceEq, Int.reduceLE, Int.reduceAdd, Int.reduceSub, Int.reduceToNat, Int.reduceNeg, hc2, hn, k1, ea, s1, b2, b3, b1]
          exact ⟨nk fun h => b3 (K h).2.2.2.2.2.1, he12⟩
        simp (disch := omega) only [go_sem, ↓reduceIte, Nat.reduceEqDiff, Nat.reduceAdd, Nat.reduceMul, Nat.reduceSub, Nat.reduceLT, Nat.reduceLeDiff, Nat.reduceBEq, reduceCtorEq, Int.reduceLT, Int.reduceEq, Int.reduceLE, Int.reduceAdd, Int.reduceSub, Int.reduceToNat, Int.reduceNeg, hc2, hn, k1, ea, s1, b2, b3, b1]
        exact ⟨nk fun h => b3 (K h).2.2.2.2.2.1, he12⟩
      by_cases b4 : o.char < 55296
      · by_cases b1 : hasP o.deps o.block
        rotate_left
        · simp (disch := omega) only [go_sem, ↓reduceIte, Nat.reduceEqDiff, Nat.reduceAdd, Nat.reduceMul, Nat.reduceSub, Nat.reduceLT, Nat.reduceLeDiff, Nat.reduceBEq, reduceCtorEq, Int.reduceLT, Int.reduceEq, Int.reduceLE, Int.reduceAdd, Int.reduceSub, Int.reduceToNat, Int.reduceNeg, hc2, hn, k1, ea, s1, b2, b3, b4, b1]
          exact ⟨nk fun h => b1 (K h).2.2.2.1, he12⟩
        by_cases p1 : o.parent = (0, 0)
        rotate_left
        · have ep1 := (eqD o.parent).trans (congrArg some (decide_eq_false p1))
          simp (disch := omega) only [go_sem, ↓reduceIte, Nat.reduceEqDiff, Nat.reduceAdd, Nat.reduceMul, Nat.reduceSub, Nat.reduceLT, Nat.reduceLeDiff, Nat.reduceBEq, reduceCtorEq, Int.reduceLT, Int.reduceEq, Int.reduceLE, Int.reduceAdd, Int.reduceSub, Int.reduceToNat, Int.reduceNeg, hc2, hn, k1, ea, s1, b2, b3, b4, b1, ep1]
          exact ⟨nk fun h => p1 (K h).2.2.2.2.2.2.2.1, he12⟩
        have ep1 := (eqD o.parent).trans (congrArg some (decide_eq_true p1))
        have ek : (o.key == ⟨#[]⟩) = decide (o.key = ⟨#[]⟩) := ba_beq _ _
        by_cases y1 : o.key = ⟨#[]⟩
        rotate_left
        · rw [decide_eq_false y1] at ek
          simp (disch := omega) only [go_sem, ↓reduceIte, Nat.reduceEqDiff, Nat.reduceAdd, Nat.reduceMul, Nat.reduceSub, Nat.reduceLT, Nat.reduceLeDiff, Nat.reduceBEq, reduceCtorEq, Int.reduceLT, Int.reduceEq, Int.reduceLE, Int.reduceAdd, Int.reduceSub, Int.reduceToNat, Int.reduceNeg, hc2, hn, k1, ea, s1, b2, b3, b4, b1, ep1, ek]
          exact ⟨nk fun h => y1 (K h).2.2.2.2.2.2.2.2, he12⟩
        rw [decide_eq_true y1] at ek
        simp (disch := omega) only [go_sem, ↓reduceIte, Nat.reduceEqDiff, Nat.reduceAdd, Nat.reduceMul, Nat.reduceSub, Nat.reduceLT, Nat.reduceLeDiff, Nat.reduceBEq, reduceCtorEq, Int.reduceLT, Int.reduceEq, Int.reduceLE, Int.reduceAdd, Int.reduceSub, Int.reduceToNat, Int.reduceNeg, hc2, hn, k1, ea, s1, b2, b3, b4, b1, ep1, ek]
        exact ⟨yes ⟨hmh, .inl ⟨k1, fun _ => s1, fun h => absurd a0 h, .inr s1, b1, b2, b3, .inl b4, p1, y1⟩⟩, he12⟩
      · by_cases b5 : 57343 < o.char
        rotate_left
        · by_cases b1 : hasP o.deps o.block
          rotate_left
          · simp (disch := omega) only [go_sem, ↓reduceIte, Nat.reduceEqDiff, Nat.reduceAdd, Nat.reduceMul, Nat.reduceSub, Nat.reduceLT, Nat.reduceLeDiff, Nat.reduceBEq, reduceCtorEq, Int.reduceLT, Int.reduceEq, Int.reduceLE, Int.reduceAdd, Int.reduceSub, Int.reduceToNat, Int.reduceNeg, hc2, hn, k1, ea, s1, b2, b3, b4, b5, b1]
            exact ⟨nk fun h => by have := (K h).2.2.2.2.2.2.1; omega, he12⟩
          simp (disch := omega) only [go_sem, ↓reduceIte, Nat.reduceEqDiff, Nat.reduceAdd, Nat.reduceMul, Nat.reduceSub, Nat.reduceLT, Nat.reduceLeDiff, Nat.reduceBEq, reduceCtorEq, Int.reduceLT, Int.reduceEq, Int.reduceLE, Int.reduceAdd, Int.reduceSub, Int.reduceToNat, Int.reduceNeg, hc2, hn, k1, ea, s1, b2, b3, b4, b5, b1]
          exact ⟨nk fun h => by have := (K h).2.2.2.2.2.2.1; omega, he12⟩
        by_cases b1 : hasP o.deps o.block
        rotate_left
        · simp (disch := omega) only [go_sem, ↓reduceIte, Nat.reduceEqDiff, Nat.reduceAdd, Nat.reduceMul, Nat.reduceSub, Nat.reduceLT, Nat.reduceLeDiff, Nat.reduceBEq, reduceCtorEq, Int.reduceLT, Int.reduceEq, Int.reduceLE, Int.reduceAdd, Int.reduceSub, Int.reduceToNat, Int.reduceNeg, hc2, hn, k1, ea, s1, b2, b3, b4, b5, b1]
          exact ⟨nk fun h => b1 (K h).2.2.2.1, he12⟩
        by_cases p1 : o.parent = (0, 0)
        rotate_left
        · have ep1 := (eqD o.parent).trans (congrArg some (decide_eq_false p1))
          simp (disch := omega) only [go_sem, ↓reduceIte, Nat.reduceEqDiff, Nat.reduceAdd, Nat.reduceMul, Nat.reduceSub, Nat.reduceLT, Nat.reduceLeDiff, Nat.reduceBEq, reduceCtorEq, Int.reduceLT, Int.reduceEq, Int.reduceLE, Int.reduceAdd, Int.reduceSub, Int.reduceToNat, Int.reduceNeg, hc2, hn, k1, ea, s1, b2, b3, b4, b5, b1, ep1]
          exact ⟨nk fun h => p1 (K h).2.2.2.2.2.2.2.1, he12⟩
        have ep1 := (eqD o.parent).trans (congrArg some (decide_eq_true p1))
        have ek : (o.key == ⟨#[]⟩) = decide (o.key = ⟨#[]⟩) := ba_beq _ _
        by_cases y1 : o.key = ⟨#[]⟩
        rotate_left
        · rw [decide_eq_false y1] at ek
          simp (disch := omega) only [go_sem, ↓reduceIte, Nat.reduceEqDiff, Nat.reduceAdd, Nat.reduceMul, Nat.reduceSub, Nat.reduceLT, Nat.reduceLeDiff, Nat.reduceBEq, reduceCtorEq, Int.reduceLT, Int.reduceEq, Int.reduceLE, Int.reduceAdd, Int.reduceSub, Int.reduceToNat, Int.reduceNeg, hc2, hn, k1, ea, s1, b2, b3, b4, b5, b1, ep1, ek]
          exact ⟨nk fun h => y1 (K h).2.2.2.2.2.2.2.2, he12⟩
        rw [decide_eq_true y1] at ek
        simp (disch := omega) only [go_sem, ↓reduceIte, Nat.reduceEqDiff, Nat.reduceAdd, Nat.reduceMul, Nat.reduceSub, Nat.reduceLT, Nat.reduceLeDiff, Nat.reduceBEq, reduceCtorEq, Int.reduceLT, Int.reduceEq, Int.reduceLE, Int.reduceAdd, Int.reduceSub, Int.reduceToNat, Int.reduceNeg, hc2, hn, k1, ea, s1, b2, b3, b4, b5, b1, ep1, ek]
        exact ⟨yes ⟨hmh, .inl ⟨k1, fun _ => s1, fun h => absurd a0 h, .inr s1, b1, b2, b3, .inr b5, p1, y1⟩⟩, he12⟩
    · have ea := (eqD o.at_).trans (congrArg some (decide_eq_false a0))
      by_cases b2 : 0 ≤ o.char
      rotate_left
      · by_cases b1 : hasP o.deps o.block
        rotate_left
        · simp (disch := omega) only [go_sem, ↓reduceIte, Nat.reduceEqDiff, Nat.reduceAdd, Nat.reduceMul, Nat.reduceSub, Nat.reduceLT, Nat.reduceLeDiff, Nat.reduceBEq, reduceCtorEq, Int.reduceLT, Int.reduceEq, Int.reduceLE, Int.reduceAdd, Int.reduceSub, Int.reduceToNat, Int.reduceNeg, hc2, hn, k1, ea, b2, b1]
          exact ⟨nk fun h => b2 (K h).2.2.2.2.1, he12⟩
        by_cases a1 : hasP o.deps o.at_
        rotate_left
        · simp (disch := omega) only [go_sem, ↓reduceIte, Nat.reduceEqDiff, Nat.reduceAdd, Nat.reduceMul, Nat.reduceSub, Nat.reduceLT, Nat.reduceLeDiff, Nat.reduceBEq, reduceCtorEq, Int.reduceLT, Int.reduceEq, Int.reduceLE, Int.reduceAdd, Int.reduceSub, Int.reduceToNat, Int.reduceNeg, hc2, hn, k1, ea, b2, b1, a1]
          exact ⟨nk fun h => b2 (K h).2.2.2.2.1, he12⟩
        by_cases s0 : o.side = 0
        · simp (disch := omega) only [go_sem, ↓reduceIte, Nat.reduceEqDiff, Nat.reduceAdd, Nat.reduceMul, Nat.reduceSub, Nat.reduceLT, Nat.reduceLeDiff, Nat.reduceBEq, reduceCtorEq, Int.reduceLT, Int.reduceEq, Int.reduceLE, Int.reduceAdd, Int.reduceSub, Int.reduceToNat, Int.reduceNeg, hc2, hn, k1, ea, b2, b1, a1, s0]
          exact ⟨nk fun h => b2 (K h).2.2.2.2.1, he12⟩
        by_cases s1 : o.side = 1
        · simp (disch := omega) only [go_sem, ↓reduceIte, Nat.reduceEqDiff, Nat.reduceAdd, Nat.reduceMul, Nat.reduceSub, Nat.reduceLT, Nat.reduceLeDiff, Nat.reduceBEq, reduceCtorEq, Int.reduceLT, Int.reduceEq, Int.reduceLE, Int.reduceAdd, Int.reduceSub, Int.reduceToNat, Int.reduceNeg, hc2, hn, k1, ea, b2, b1, a1, s0, s1]
          exact ⟨nk fun h => b2 (K h).2.2.2.2.1, he12⟩
        simp (disch := omega) only [go_sem, ↓reduceIte, Nat.reduceEqDiff, Nat.reduceAdd, Nat.reduceMul, Nat.reduceSub, Nat.reduceLT, Nat.reduceLeDiff, Nat.reduceBEq, reduceCtorEq, Int.reduceLT, Int.reduceEq, Int.reduceLE, Int.reduceAdd, Int.reduceSub, Int.reduceToNat, Int.reduceNeg, hc2, hn, k1, ea, b2, b1, a1, s0, s1]
        exact ⟨nk fun h => b2 (K h).2.2.2.2.1, he12⟩
      by_cases b3 : o.char ≤ 1114111
      rotate_left
      · by_cases b1 : hasP o.deps o.block
        rotate_left
        · simp (disch := omega) only [go_sem, ↓reduceIte, Nat.reduceEqDiff, Nat.reduceAdd, Nat.reduceMul, Nat.reduceSub, Nat.reduceLT, Nat.reduceLeDiff, Nat.reduceBEq, reduceCtorEq, Int.reduceLT, Int.reduceEq, Int.reduceLE, Int.reduceAdd, Int.reduceSub, Int.reduceToNat, Int.reduceNeg, hc2, hn, k1, ea, b2, b3, b1]
          exact ⟨nk fun h => b3 (K h).2.2.2.2.2.1, he12⟩
        by_cases a1 : hasP o.deps o.at_
        rotate_left
        · simp (disch := omega) only [go_sem, ↓reduceIte, Nat.reduceEqDiff, Nat.reduceAdd, Nat.reduceMul, Nat.reduceSub, Nat.reduceLT, Nat.reduceLeDiff, Nat.reduceBEq, reduceCtorEq, Int.reduceLT, Int.reduceEq, Int.reduceLE, Int.reduceAdd, Int.reduceSub, Int.reduceToNat, Int.reduceNeg, hc2, hn, k1, ea, b2, b3, b1, a1]
          exact ⟨nk fun h => b3 (K h).2.2.2.2.2.1, he12⟩
        by_cases s0 : o.side = 0
        · simp (disch := omega) only [go_sem, ↓reduceIte, Nat.reduceEqDiff, Nat.reduceAdd, Nat.reduceMul, Nat.reduceSub, Nat.reduceLT, Nat.reduceLeDiff, Nat.reduceBEq, reduceCtorEq, Int.reduceLT, Int.reduceEq, Int.reduceLE, Int.reduceAdd, Int.reduceSub, Int.reduceToNat, Int.reduceNeg, hc2, hn, k1, ea, b2, b3, b1, a1, s0]
          exact ⟨nk fun h => b3 (K h).2.2.2.2.2.1, he12⟩
        by_cases s1 : o.side = 1
        · simp (disch := omega) only [go_sem, ↓reduceIte, Nat.reduceEqDiff, Nat.reduceAdd, Nat.reduceMul, Nat.reduceSub, Nat.reduceLT, Nat.reduceLeDiff, Nat.reduceBEq, reduceCtorEq, Int.reduceLT, Int.reduceEq, Int.reduceLE, Int.reduceAdd, Int.reduceSub, Int.reduceToNat, Int.reduceNeg, hc2, hn, k1, ea, b2, b3, b1, a1, s0, s1]
          exact ⟨nk fun h => b3 (K h).2.2.2.2.2.1, he12⟩
        simp (disch := omega) only [go_sem, ↓reduceIte, Nat.reduceEqDiff, Nat.reduceAdd, Nat.reduceMul, Nat.reduceSub, Nat.reduceLT, Nat.reduceLeDiff, Nat.reduceBEq, reduceCtorEq, Int.reduceLT, Int.reduceEq, Int.reduceLE, Int.reduceAdd, Int.reduceSub, Int.reduceToNat, Int.reduceNeg, hc2, hn, k1, ea, b2, b3, b1, a1, s0, s1]
        exact ⟨nk fun h => b3 (K h).2.2.2.2.2.1, he12⟩
      by_cases b4 : o.char < 55296
      · by_cases b1 : hasP o.deps o.block
        rotate_left
        · simp (disch := omega) only [go_sem, ↓reduceIte, Nat.reduceEqDiff, Nat.reduceAdd, Nat.reduceMul, Nat.reduceSub, Nat.reduceLT, Nat.reduceLeDiff, Nat.reduceBEq, reduceCtorEq, Int.reduceLT, Int.reduceEq, Int.reduceLE, Int.reduceAdd, Int.reduceSub, Int.reduceToNat, Int.reduceNeg, hc2, hn, k1, ea, b2, b3, b4, b1]
          exact ⟨nk fun h => b1 (K h).2.2.2.1, he12⟩
        by_cases a1 : hasP o.deps o.at_
        rotate_left
        · simp (disch := omega) only [go_sem, ↓reduceIte, Nat.reduceEqDiff, Nat.reduceAdd, Nat.reduceMul, Nat.reduceSub, Nat.reduceLT, Nat.reduceLeDiff, Nat.reduceBEq, reduceCtorEq, Int.reduceLT, Int.reduceEq, Int.reduceLE, Int.reduceAdd, Int.reduceSub, Int.reduceToNat, Int.reduceNeg, hc2, hn, k1, ea, b2, b3, b4, b1, a1]
          exact ⟨nk fun h => a1 ((K h).2.1 a0), he12⟩
        by_cases s0 : o.side = 0
        · by_cases p1 : o.parent = (0, 0)
          rotate_left
          · have ep1 := (eqD o.parent).trans (congrArg some (decide_eq_false p1))
            simp (disch := omega) only [go_sem, ↓reduceIte, Nat.reduceEqDiff, Nat.reduceAdd, Nat.reduceMul, Nat.reduceSub, Nat.reduceLT, Nat.reduceLeDiff, Nat.reduceBEq, reduceCtorEq, Int.reduceLT, Int.reduceEq, Int.reduceLE, Int.reduceAdd, Int.reduceSub, Int.reduceToNat, Int.reduceNeg, hc2, hn, k1, ea, b2, b3, b4, b1, a1, s0, ep1]
            exact ⟨nk fun h => p1 (K h).2.2.2.2.2.2.2.1, he12⟩
          have ep1 := (eqD o.parent).trans (congrArg some (decide_eq_true p1))
          have ek : (o.key == ⟨#[]⟩) = decide (o.key = ⟨#[]⟩) := ba_beq _ _
          by_cases y1 : o.key = ⟨#[]⟩
          rotate_left
          · rw [decide_eq_false y1] at ek
            simp (disch := omega) only [go_sem, ↓reduceIte, Nat.reduceEqDiff, Nat.reduceAdd, Nat.reduceMul, Nat.reduceSub, Nat.reduceLT, Nat.reduceLeDiff, Nat.reduceBEq, reduceCtorEq, Int.reduceLT, Int.reduceEq, Int.reduceLE, Int.reduceAdd, Int.reduceSub, Int.reduceToNat, Int.reduceNeg, hc2, hn, k1, ea, b2, b3, b4, b1, a1, s0, ep1, ek]
            exact ⟨nk fun h => y1 (K h).2.2.2.2.2.2.2.2, he12⟩
          rw [decide_eq_true y1] at ek
          simp (disch := omega) only [go_sem, ↓reduceIte, Nat.reduceEqDiff, Nat.reduceAdd, Nat.reduceMul, Nat.reduceSub, Nat.reduceLT, Nat.reduceLeDiff, Nat.reduceBEq, reduceCtorEq, Int.reduceLT, Int.reduceEq, Int.reduceLE, Int.reduceAdd, Int.reduceSub, Int.reduceToNat, Int.reduceNeg, hc2, hn, k1, ea, b2, b3, b4, b1, a1, s0, ep1, ek]
          exact ⟨yes ⟨hmh, .inl ⟨k1, fun h => absurd h a0, fun _ => a1, .inl s0, b1, b2, b3, .inl b4, p1, y1⟩⟩, he12⟩
        · by_cases s1 : o.side = 1
          rotate_left
          · simp (disch := omega) only [go_sem, ↓reduceIte, Nat.reduceEqDiff, Nat.reduceAdd, Nat.reduceMul, Nat.reduceSub, Nat.reduceLT, Nat.reduceLeDiff, Nat.reduceBEq, reduceCtorEq, Int.reduceLT, Int.reduceEq, Int.reduceLE, Int.reduceAdd, Int.reduceSub, Int.reduceToNat, Int.reduceNeg, hc2, hn, k1, ea, b2, b3, b4, b1, a1, s0, s1]
            exact ⟨nk fun h => ((K h).2.2.1).elim s0 s1, he12⟩
          by_cases p1 : o.parent = (0, 0)
          rotate_left
          · have ep1 := (eqD o.parent).trans (congrArg some (decide_eq_false p1))
            simp (disch := omega) only [go_sem, ↓reduceIte, Nat.reduceEqDiff, Nat.reduceAdd, Nat.reduceMul, Nat.reduceSub, Nat.reduceLT, Nat.reduceLeDiff, Nat.reduceBEq, reduceCtorEq, Int.reduceLT, Int.reduceEq, Int.reduceLE, Int.reduceAdd, Int.reduceSub, Int.reduceToNat, Int.reduceNeg, hc2, hn, k1, ea, b2, b3, b4, b1, a1, s0, s1, ep1]
            exact ⟨nk fun h => p1 (K h).2.2.2.2.2.2.2.1, he12⟩
          have ep1 := (eqD o.parent).trans (congrArg some (decide_eq_true p1))
          have ek : (o.key == ⟨#[]⟩) = decide (o.key = ⟨#[]⟩) := ba_beq _ _
          by_cases y1 : o.key = ⟨#[]⟩
          rotate_left
          · rw [decide_eq_false y1] at ek
            simp (disch := omega) only [go_sem, ↓reduceIte, Nat.reduceEqDiff, Nat.reduceAdd, Nat.reduceMul, Nat.reduceSub, Nat.reduceLT, Nat.reduceLeDiff, Nat.reduceBEq, reduceCtorEq, Int.reduceLT, Int.reduceEq, Int.reduceLE, Int.reduceAdd, Int.reduceSub, Int.reduceToNat, Int.reduceNeg, hc2, hn, k1, ea, b2, b3, b4, b1, a1, s0, s1, ep1, ek]
            exact ⟨nk fun h => y1 (K h).2.2.2.2.2.2.2.2, he12⟩
          rw [decide_eq_true y1] at ek
          simp (disch := omega) only [go_sem, ↓reduceIte, Nat.reduceEqDiff, Nat.reduceAdd, Nat.reduceMul, Nat.reduceSub, Nat.reduceLT, Nat.reduceLeDiff, Nat.reduceBEq, reduceCtorEq, Int.reduceLT, Int.reduceEq, Int.reduceLE, Int.reduceAdd, Int.reduceSub, Int.reduceToNat, Int.reduceNeg, hc2, hn, k1, ea, b2, b3, b4, b1, a1, s0, s1, ep1, ek]
          exact ⟨yes ⟨hmh, .inl ⟨k1, fun h => absurd h a0, fun _ => a1, .inr s1, b1, b2, b3, .inl b4, p1, y1⟩⟩, he12⟩
      · by_cases b5 : 57343 < o.char
        rotate_left
        · by_cases b1 : hasP o.deps o.block
          rotate_left
          · simp (disch := omega) only [go_sem, ↓reduceIte, Nat.reduceEqDiff, Nat.reduceAdd, Nat.reduceMul, Nat.reduceSub, Nat.reduceLT, Nat.reduceLeDiff, Nat.reduceBEq, reduceCtorEq, Int.reduceLT, Int.reduceEq, Int.reduceLE, Int.reduceAdd, Int.reduceSub, Int.reduceToNat, Int.reduceNeg, hc2, hn, k1, ea, b2, b3, b4, b5, b1]
            exact ⟨nk fun h => by have := (K h).2.2.2.2.2.2.1; omega, he12⟩
          by_cases a1 : hasP o.deps o.at_
          rotate_left
          · simp (disch := omega) only [go_sem, ↓reduceIte, Nat.reduceEqDiff, Nat.reduceAdd, Nat.reduceMul, Nat.reduceSub, Nat.reduceLT, Nat.reduceLeDiff, Nat.reduceBEq, reduceCtorEq, Int.reduceLT, Int.reduceEq, Int.reduceLE, Int.reduceAdd, Int.reduceSub, Int.reduceToNat, Int.reduceNeg, hc2, hn, k1, ea, b2, b3, b4, b5, b1, a1]
            exact ⟨nk fun h => by have := (K h).2.2.2.2.2.2.1; omega, he12⟩
          by_cases s0 : o.side = 0
          · simp (disch := omega) only [go_sem, ↓reduceIte, Nat.reduceEqDiff, Nat.reduceAdd, Nat.reduceMul, Nat.reduceSub, Nat.reduceLT, Nat.reduceLeDiff, Nat.reduceBEq, reduceCtorEq, Int.reduceLT, Int.reduceEq, Int.reduceLE, Int.reduceAdd, Int.reduceSub, Int.reduceToNat, Int.reduceNeg, hc2, hn, k1, ea, b2, b3, b4, b5, b1, a1, s0]
            exact ⟨nk fun h => by have := (K h).2.2.2.2.2.2.1; omega, he12⟩
          by_cases s1 : o.side = 1
          · simp (disch := omega) only [go_sem, ↓reduceIte, Nat.reduceEqDiff, Nat.reduceAdd, Nat.reduceMul, Nat.reduceSub, Nat.reduceLT, Nat.reduceLeDiff, Nat.reduceBEq, reduceCtorEq, Int.reduceLT, Int.reduceEq, Int.reduceLE, Int.reduceAdd, Int.reduceSub, Int.reduceToNat, Int.reduceNeg, hc2, hn, k1, ea, b2, b3, b4, b5, b1, a1, s0, s1]
            exact ⟨nk fun h => by have := (K h).2.2.2.2.2.2.1; omega, he12⟩
          simp (disch := omega) only [go_sem, ↓reduceIte, Nat.reduceEqDiff, Nat.reduceAdd, Nat.reduceMul, Nat.reduceSub, Nat.reduceLT, Nat.reduceLeDiff, Nat.reduceBEq, reduceCtorEq, Int.reduceLT, Int.reduceEq, Int.reduceLE, Int.reduceAdd, Int.reduceSub, Int.reduceToNat, Int.reduceNeg, hc2, hn, k1, ea, b2, b3, b4, b5, b1, a1, s0, s1]
          exact ⟨nk fun h => by have := (K h).2.2.2.2.2.2.1; omega, he12⟩
        by_cases b1 : hasP o.deps o.block
        rotate_left
        · simp (disch := omega) only [go_sem, ↓reduceIte, Nat.reduceEqDiff, Nat.reduceAdd, Nat.reduceMul, Nat.reduceSub, Nat.reduceLT, Nat.reduceLeDiff, Nat.reduceBEq, reduceCtorEq, Int.reduceLT, Int.reduceEq, Int.reduceLE, Int.reduceAdd, Int.reduceSub, Int.reduceToNat, Int.reduceNeg, hc2, hn, k1, ea, b2, b3, b4, b5, b1]
          exact ⟨nk fun h => b1 (K h).2.2.2.1, he12⟩
        by_cases a1 : hasP o.deps o.at_
        rotate_left
        · simp (disch := omega) only [go_sem, ↓reduceIte, Nat.reduceEqDiff, Nat.reduceAdd, Nat.reduceMul, Nat.reduceSub, Nat.reduceLT, Nat.reduceLeDiff, Nat.reduceBEq, reduceCtorEq, Int.reduceLT, Int.reduceEq, Int.reduceLE, Int.reduceAdd, Int.reduceSub, Int.reduceToNat, Int.reduceNeg, hc2, hn, k1, ea, b2, b3, b4, b5, b1, a1]
          exact ⟨nk fun h => a1 ((K h).2.1 a0), he12⟩
        by_cases s0 : o.side = 0
        · by_cases p1 : o.parent = (0, 0)
          rotate_left
          · have ep1 := (eqD o.parent).trans (congrArg some (decide_eq_false p1))
            simp (disch := omega) only [go_sem, ↓reduceIte, Nat.reduceEqDiff, Nat.reduceAdd, Nat.reduceMul, Nat.reduceSub, Nat.reduceLT, Nat.reduceLeDiff, Nat.reduceBEq, reduceCtorEq, Int.reduceLT, Int.reduceEq, Int.reduceLE, Int.reduceAdd, Int.reduceSub, Int.reduceToNat, Int.reduceNeg, hc2, hn, k1, ea, b2, b3, b4, b5, b1, a1, s0, ep1]
            exact ⟨nk fun h => p1 (K h).2.2.2.2.2.2.2.1, he12⟩
          have ep1 := (eqD o.parent).trans (congrArg some (decide_eq_true p1))
          have ek : (o.key == ⟨#[]⟩) = decide (o.key = ⟨#[]⟩) := ba_beq _ _
          by_cases y1 : o.key = ⟨#[]⟩
          rotate_left
          · rw [decide_eq_false y1] at ek
            simp (disch := omega) only [go_sem, ↓reduceIte, Nat.reduceEqDiff, Nat.reduceAdd, Nat.reduceMul, Nat.reduceSub, Nat.reduceLT, Nat.reduceLeDiff, Nat.reduceBEq, reduceCtorEq, Int.reduceLT, Int.reduceEq, Int.reduceLE, Int.reduceAdd, Int.reduceSub, Int.reduceToNat, Int.reduceNeg, hc2, hn, k1, ea, b2, b3, b4, b5, b1, a1, s0, ep1, ek]
            exact ⟨nk fun h => y1 (K h).2.2.2.2.2.2.2.2, he12⟩
          rw [decide_eq_true y1] at ek
          simp (disch := omega) only [go_sem, ↓reduceIte, Nat.reduceEqDiff, Nat.reduceAdd, Nat.reduceMul, Nat.reduceSub, Nat.reduceLT, Nat.reduceLeDiff, Nat.reduceBEq, reduceCtorEq, Int.reduceLT, Int.reduceEq, Int.reduceLE, Int.reduceAdd, Int.reduceSub, Int.reduceToNat, Int.reduceNeg, hc2, hn, k1, ea, b2, b3, b4, b5, b1, a1, s0, ep1, ek]
          exact ⟨yes ⟨hmh, .inl ⟨k1, fun h => absurd h a0, fun _ => a1, .inl s0, b1, b2, b3, .inr b5, p1, y1⟩⟩, he12⟩
        · by_cases s1 : o.side = 1
          rotate_left
          · simp (disch := omega) only [go_sem, ↓reduceIte, Nat.reduceEqDiff, Nat.reduceAdd, Nat.reduceMul, Nat.reduceSub, Nat.reduceLT, Nat.reduceLeDiff, Nat.reduceBEq, reduceCtorEq, Int.reduceLT, Int.reduceEq, Int.reduceLE, Int.reduceAdd, Int.reduceSub, Int.reduceToNat, Int.reduceNeg, hc2, hn, k1, ea, b2, b3, b4, b5, b1, a1, s0, s1]
            exact ⟨nk fun h => ((K h).2.2.1).elim s0 s1, he12⟩
          by_cases p1 : o.parent = (0, 0)
          rotate_left
          · have ep1 := (eqD o.parent).trans (congrArg some (decide_eq_false p1))
            simp (disch := omega) only [go_sem, ↓reduceIte, Nat.reduceEqDiff, Nat.reduceAdd, Nat.reduceMul, Nat.reduceSub, Nat.reduceLT, Nat.reduceLeDiff, Nat.reduceBEq, reduceCtorEq, Int.reduceLT, Int.reduceEq, Int.reduceLE, Int.reduceAdd, Int.reduceSub, Int.reduceToNat, Int.reduceNeg, hc2, hn, k1, ea, b2, b3, b4, b5, b1, a1, s0, s1, ep1]
            exact ⟨nk fun h => p1 (K h).2.2.2.2.2.2.2.1, he12⟩
          have ep1 := (eqD o.parent).trans (congrArg some (decide_eq_true p1))
          have ek : (o.key == ⟨#[]⟩) = decide (o.key = ⟨#[]⟩) := ba_beq _ _
          by_cases y1 : o.key = ⟨#[]⟩
          rotate_left
          · rw [decide_eq_false y1] at ek
            simp (disch := omega) only [go_sem, ↓reduceIte, Nat.reduceEqDiff, Nat.reduceAdd, Nat.reduceMul, Nat.reduceSub, Nat.reduceLT, Nat.reduceLeDiff, Nat.reduceBEq, reduceCtorEq, Int.reduceLT, Int.reduceEq, Int.reduceLE, Int.reduceAdd, Int.reduceSub, Int.reduceToNat, Int.reduceNeg, hc2, hn, k1, ea, b2, b3, b4, b5, b1, a1, s0, s1, ep1, ek]
            exact ⟨nk fun h => y1 (K h).2.2.2.2.2.2.2.2, he12⟩
          rw [decide_eq_true y1] at ek
          simp (disch := omega) only [go_sem, ↓reduceIte, Nat.reduceEqDiff, Nat.reduceAdd, Nat.reduceMul, Nat.reduceSub, Nat.reduceLT, Nat.reduceLeDiff, Nat.reduceBEq, reduceCtorEq, Int.reduceLT, Int.reduceEq, Int.reduceLE, Int.reduceAdd, Int.reduceSub, Int.reduceToNat, Int.reduceNeg, hc2, hn, k1, ea, b2, b3, b4, b5, b1, a1, s0, s1, ep1, ek]
          exact ⟨yes ⟨hmh, .inl ⟨k1, fun h => absurd h a0, fun _ => a1, .inr s1, b1, b2, b3, .inr b5, p1, y1⟩⟩, he12⟩
  by_cases k2 : o.kind = 2
  · have K : mayO o → may2 o := fun h => by
      rcases h.2 with h | h | h
      · exact absurd h.1 (by omega)
      · exact h.2
      · exact absurd h.1 (by omega)
    by_cases b1 : hasP o.deps o.block
    rotate_left
    · simp (disch := omega) only [go_sem, ↓reduceIte, Nat.reduceEqDiff, Nat.reduceAdd, Nat.reduceMul, Nat.reduceSub, Nat.reduceLT, Nat.reduceLeDiff, Nat.reduceBEq, reduceCtorEq, Int.reduceLT, Int.reduceEq, Int.reduceLE, Int.reduceAdd, Int.reduceSub, Int.reduceToNat, Int.reduceNeg, hc2, hn, k2, b1]
      exact ⟨nk fun h => b1 (K h).1, he12⟩
    by_cases a1 : hasP o.deps o.at_
    rotate_left
    · simp (disch := omega) only [go_sem, ↓reduceIte, Nat.reduceEqDiff, Nat.reduceAdd, Nat.reduceMul, Nat.reduceSub, Nat.reduceLT, Nat.reduceLeDiff, Nat.reduceBEq, reduceCtorEq, Int.reduceLT, Int.reduceEq, Int.reduceLE, Int.reduceAdd, Int.reduceSub, Int.reduceToNat, Int.reduceNeg, hc2, hn, k2, b1, a1]
      exact ⟨nk fun h => a1 (K h).2.1, he12⟩
    by_cases s0 : o.side = 0
    rotate_left
    · simp (disch := omega) only [go_sem, ↓reduceIte, Nat.reduceEqDiff, Nat.reduceAdd, Nat.reduceMul, Nat.reduceSub, Nat.reduceLT, Nat.reduceLeDiff, Nat.reduceBEq, reduceCtorEq, Int.reduceLT, Int.reduceEq, Int.reduceLE, Int.reduceAdd, Int.reduceSub, Int.reduceToNat, Int.reduceNeg, hc2, hn, k2, b1, a1, s0]
      exact ⟨nk fun h => s0 (K h).2.2.1, he12⟩
    by_cases c0 : o.char = 0
    rotate_left
    · simp (disch := omega) only [go_sem, ↓reduceIte, Nat.reduceEqDiff, Nat.reduceAdd, Nat.reduceMul, Nat.reduceSub, Nat.reduceLT, Nat.reduceLeDiff, Nat.reduceBEq, reduceCtorEq, Int.reduceLT, Int.reduceEq, Int.reduceLE, Int.reduceAdd, Int.reduceSub, Int.reduceToNat, Int.reduceNeg, hc2, hn, k2, b1, a1, s0, c0]
      exact ⟨nk fun h => c0 (K h).2.2.2.1, he12⟩
    by_cases p1 : o.parent = (0, 0)
    rotate_left
    · have ep1 := (eqD o.parent).trans (congrArg some (decide_eq_false p1))
      simp (disch := omega) only [go_sem, ↓reduceIte, Nat.reduceEqDiff, Nat.reduceAdd, Nat.reduceMul, Nat.reduceSub, Nat.reduceLT, Nat.reduceLeDiff, Nat.reduceBEq, reduceCtorEq, Int.reduceLT, Int.reduceEq, Int.reduceLE, Int.reduceAdd, Int.reduceSub, Int.reduceToNat, Int.reduceNeg, hc2, hn, k2, b1, a1, s0, c0, ep1]
      exact ⟨nk fun h => p1 (K h).2.2.2.2.1, he12⟩
    have ep1 := (eqD o.parent).trans (congrArg some (decide_eq_true p1))
    have ek : (o.key == ⟨#[]⟩) = decide (o.key = ⟨#[]⟩) := ba_beq _ _
    by_cases y1 : o.key = ⟨#[]⟩
    rotate_left
    · rw [decide_eq_false y1] at ek
      simp (disch := omega) only [go_sem, ↓reduceIte, Nat.reduceEqDiff, Nat.reduceAdd, Nat.reduceMul, Nat.reduceSub, Nat.reduceLT, Nat.reduceLeDiff, Nat.reduceBEq, reduceCtorEq, Int.reduceLT, Int.reduceEq, Int.reduceLE, Int.reduceAdd, Int.reduceSub, Int.reduceToNat, Int.reduceNeg, hc2, hn, k2, b1, a1, s0, c0, ep1, ek]
      exact ⟨nk fun h => y1 (K h).2.2.2.2.2, he12⟩
    rw [decide_eq_true y1] at ek
    simp (disch := omega) only [go_sem, ↓reduceIte, Nat.reduceEqDiff, Nat.reduceAdd, Nat.reduceMul, Nat.reduceSub, Nat.reduceLT, Nat.reduceLeDiff, Nat.reduceBEq, reduceCtorEq, Int.reduceLT, Int.reduceEq, Int.reduceLE, Int.reduceAdd, Int.reduceSub, Int.reduceToNat, Int.reduceNeg, hc2, hn, k2, b1, a1, s0, c0, ep1, ek]
    exact ⟨yes ⟨hmh, .inr (.inl ⟨k2, b1, a1, s0, c0, p1, y1⟩)⟩, he12⟩
  by_cases k3 : o.kind = 3
  · have K : mayO o → may3 o := fun h => by
      rcases h.2 with h | h | h
      · exact absurd h.1 (by omega)
      · exact absurd h.1 (by omega)
      · exact h.2
    by_cases b0 : o.block = o.id
    · have eb := (eqV_dot o.block o.id).trans (congrArg some (decide_eq_true b0))
      by_cases r1 : o.parent = (0, -1)
      · have er1 := (eqR o.parent).trans (congrArg some (decide_eq_true r1))
        by_cases q1 : o.parent = o.block
        · have eq1 := (eqV_dot o.parent o.block).trans (congrArg some (decide_eq_true q1))
          simp (disch := omega) only [go_sem, ↓reduceIte, Nat.reduceEqDiff, Nat.reduceAdd, Nat.reduceMul, Nat.reduceSub, Nat.reduceLT, Nat.reduceLeDiff, Nat.reduceBEq, reduceCtorEq, Int.reduceLT, Int.reduceEq, Int.reduceLE, Int.reduceAdd, Int.reduceSub, Int.reduceToNat, Int.reduceNeg, hc2, hn, k3, eb, er1, eq1]
          exact ⟨nk fun h => (K h).2.2.1 q1, he12⟩
        have eq1 := (eqV_dot o.parent o.block).trans (congrArg some (decide_eq_false q1))
        by_cases y1 : keyP o.key
        rotate_left
        · simp (disch := omega) only [go_sem, ↓reduceIte, Nat.reduceEqDiff, Nat.reduceAdd, Nat.reduceMul, Nat.reduceSub, Nat.reduceLT, Nat.reduceLeDiff, Nat.reduceBEq, reduceCtorEq, Int.reduceLT, Int.reduceEq, Int.reduceLE, Int.reduceAdd, Int.reduceSub, Int.reduceToNat, Int.reduceNeg, hc2, hn, k3, eb, er1, eq1, y1]
          exact ⟨nk fun h => y1 (K h).2.2.2.1, he12⟩
        by_cases a0 : o.at_ = (0, 0)
        rotate_left
        · have ea0 := (eqD o.at_).trans (congrArg some (decide_eq_false a0))
          simp (disch := omega) only [go_sem, ↓reduceIte, Nat.reduceEqDiff, Nat.reduceAdd, Nat.reduceMul, Nat.reduceSub, Nat.reduceLT, Nat.reduceLeDiff, Nat.reduceBEq, reduceCtorEq, Int.reduceLT, Int.reduceEq, Int.reduceLE, Int.reduceAdd, Int.reduceSub, Int.reduceToNat, Int.reduceNeg, hc2, hn, k3, eb, er1, eq1, y1, ea0]
          exact ⟨nk fun h => a0 (K h).2.2.2.2.1, he12⟩
        have ea0 := (eqD o.at_).trans (congrArg some (decide_eq_true a0))
        by_cases s0 : o.side = 0
        rotate_left
        · simp (disch := omega) only [go_sem, ↓reduceIte, Nat.reduceEqDiff, Nat.reduceAdd, Nat.reduceMul, Nat.reduceSub, Nat.reduceLT, Nat.reduceLeDiff, Nat.reduceBEq, reduceCtorEq, Int.reduceLT, Int.reduceEq, Int.reduceLE, Int.reduceAdd, Int.reduceSub, Int.reduceToNat, Int.reduceNeg, hc2, hn, k3, eb, er1, eq1, y1, ea0, s0]
          exact ⟨nk fun h => s0 (K h).2.2.2.2.2.1, he12⟩
        by_cases c0 : o.char = 0
        rotate_left
        · simp (disch := omega) only [go_sem, ↓reduceIte, Nat.reduceEqDiff, Nat.reduceAdd, Nat.reduceMul, Nat.reduceSub, Nat.reduceLT, Nat.reduceLeDiff, Nat.reduceBEq, reduceCtorEq, Int.reduceLT, Int.reduceEq, Int.reduceLE, Int.reduceAdd, Int.reduceSub, Int.reduceToNat, Int.reduceNeg, hc2, hn, k3, eb, er1, eq1, y1, ea0, s0, c0]
          exact ⟨nk fun h => c0 (K h).2.2.2.2.2.2, he12⟩
        simp (disch := omega) only [go_sem, ↓reduceIte, Nat.reduceEqDiff, Nat.reduceAdd, Nat.reduceMul, Nat.reduceSub, Nat.reduceLT, Nat.reduceLeDiff, Nat.reduceBEq, reduceCtorEq, Int.reduceLT, Int.reduceEq, Int.reduceLE, Int.reduceAdd, Int.reduceSub, Int.reduceToNat, Int.reduceNeg, hc2, hn, k3, eb, er1, eq1, y1, ea0, s0, c0]
        exact ⟨yes ⟨hmh, .inr (.inr ⟨k3, .inl b0, .inl r1, q1, y1, a0, s0, c0⟩)⟩, he12⟩
      · have er1 := (eqR o.parent).trans (congrArg some (decide_eq_false r1))
        by_cases r2 : o.parent = (0, -2)
        · have er2 := (eqT o.parent).trans (congrArg some (decide_eq_true r2))
          by_cases q1 : o.parent = o.block
          · have eq1 := (eqV_dot o.parent o.block).trans (congrArg some (decide_eq_true q1))
            simp (disch := omega) only [go_sem, ↓reduceIte, Nat.reduceEqDiff, Nat.reduceAdd, Nat.reduceMul, Nat.reduceSub, Nat.reduceLT, Nat.reduceLeDiff, Nat.reduceBEq, reduceCtorEq, Int.reduceLT, Int.reduceEq, Int.reduceLE, Int.reduceAdd, Int.reduceSub, Int.reduceToNat, Int.reduceNeg, hc2, hn, k3, eb, er1, er2, eq1]
            exact ⟨nk fun h => (K h).2.2.1 q1, he12⟩
          have eq1 := (eqV_dot o.parent o.block).trans (congrArg some (decide_eq_false q1))
          by_cases y1 : keyP o.key
          rotate_left
          · simp (disch := omega) only [go_sem, ↓reduceIte, Nat.reduceEqDiff, Nat.reduceAdd, Nat.reduceMul, Nat.reduceSub, Nat.reduceLT, Nat.reduceLeDiff, Nat.reduceBEq, reduceCtorEq, Int.reduceLT, Int.reduceEq, Int.reduceLE, Int.reduceAdd, Int.reduceSub, Int.reduceToNat, Int.reduceNeg, hc2, hn, k3, eb, er1, er2, eq1, y1]
            exact ⟨nk fun h => y1 (K h).2.2.2.1, he12⟩
          by_cases a0 : o.at_ = (0, 0)
          rotate_left
          · have ea0 := (eqD o.at_).trans (congrArg some (decide_eq_false a0))
            simp (disch := omega) only [go_sem, ↓reduceIte, Nat.reduceEqDiff, Nat.reduceAdd, Nat.reduceMul, Nat.reduceSub, Nat.reduceLT, Nat.reduceLeDiff, Nat.reduceBEq, reduceCtorEq, Int.reduceLT, Int.reduceEq, Int.reduceLE, Int.reduceAdd, Int.reduceSub, Int.reduceToNat, Int.reduceNeg, hc2, hn, k3, eb, er1, er2, eq1, y1, ea0]
            exact ⟨nk fun h => a0 (K h).2.2.2.2.1, he12⟩
          have ea0 := (eqD o.at_).trans (congrArg some (decide_eq_true a0))
          by_cases s0 : o.side = 0
          rotate_left
          · simp (disch := omega) only [go_sem, ↓reduceIte, Nat.reduceEqDiff, Nat.reduceAdd, Nat.reduceMul, Nat.reduceSub, Nat.reduceLT, Nat.reduceLeDiff, Nat.reduceBEq, reduceCtorEq, Int.reduceLT, Int.reduceEq, Int.reduceLE, Int.reduceAdd, Int.reduceSub, Int.reduceToNat, Int.reduceNeg, hc2, hn, k3, eb, er1, er2, eq1, y1, ea0, s0]
            exact ⟨nk fun h => s0 (K h).2.2.2.2.2.1, he12⟩
          by_cases c0 : o.char = 0
          rotate_left
          · simp (disch := omega) only [go_sem, ↓reduceIte, Nat.reduceEqDiff, Nat.reduceAdd, Nat.reduceMul, Nat.reduceSub, Nat.reduceLT, Nat.reduceLeDiff, Nat.reduceBEq, reduceCtorEq, Int.reduceLT, Int.reduceEq, Int.reduceLE, Int.reduceAdd, Int.reduceSub, Int.reduceToNat, Int.reduceNeg, hc2, hn, k3, eb, er1, er2, eq1, y1, ea0, s0, c0]
            exact ⟨nk fun h => c0 (K h).2.2.2.2.2.2, he12⟩
          simp (disch := omega) only [go_sem, ↓reduceIte, Nat.reduceEqDiff, Nat.reduceAdd, Nat.reduceMul, Nat.reduceSub, Nat.reduceLT, Nat.reduceLeDiff, Nat.reduceBEq, reduceCtorEq, Int.reduceLT, Int.reduceEq, Int.reduceLE, Int.reduceAdd, Int.reduceSub, Int.reduceToNat, Int.reduceNeg, hc2, hn, k3, eb, er1, er2, eq1, y1, ea0, s0, c0]
          exact ⟨yes ⟨hmh, .inr (.inr ⟨k3, .inl b0, .inr (.inl r2), q1, y1, a0, s0, c0⟩)⟩, he12⟩
        · have er2 := (eqT o.parent).trans (congrArg some (decide_eq_false r2))
          by_cases r3 : hasP o.deps o.parent
          rotate_left
          · simp (disch := omega) only [go_sem, ↓reduceIte, Nat.reduceEqDiff, Nat.reduceAdd, Nat.reduceMul, Nat.reduceSub, Nat.reduceLT, Nat.reduceLeDiff, Nat.reduceBEq, reduceCtorEq, Int.reduceLT, Int.reduceEq, Int.reduceLE, Int.reduceAdd, Int.reduceSub, Int.reduceToNat, Int.reduceNeg, hc2, hn, k3, eb, er1, er2, r3]
            exact ⟨nk fun h => ((K h).2.1).elim r1 fun h => h.elim r2 r3, he12⟩
          by_cases q1 : o.parent = o.block
          · have eq1 := (eqV_dot o.parent o.block).trans (congrArg some (decide_eq_true q1))
            simp (disch := omega) only [go_sem, ↓reduceIte, Nat.reduceEqDiff, Nat.reduceAdd, Nat.reduceMul, Nat.reduceSub, Nat.reduceLT, Nat.reduceLeDiff, Nat.reduceBEq, reduceCtorEq, Int.reduceLT, Int.reduceEq, Int.reduceLE, Int.reduceAdd, Int.reduceSub, Int.reduceToNat, Int.reduceNeg, hc2, hn, k3, eb, er1, er2, r3, eq1]
            exact ⟨nk fun h => (K h).2.2.1 q1, he12⟩
          have eq1 := (eqV_dot o.parent o.block).trans (congrArg some (decide_eq_false q1))
          by_cases y1 : keyP o.key
          rotate_left
          · simp (disch := omega) only [go_sem, ↓reduceIte, Nat.reduceEqDiff, Nat.reduceAdd, Nat.reduceMul, Nat.reduceSub, Nat.reduceLT, Nat.reduceLeDiff, Nat.reduceBEq, reduceCtorEq, Int.reduceLT, Int.reduceEq, Int.reduceLE, Int.reduceAdd, Int.reduceSub, Int.reduceToNat, Int.reduceNeg, hc2, hn, k3, eb, er1, er2, r3, eq1, y1]
            exact ⟨nk fun h => y1 (K h).2.2.2.1, he12⟩
          by_cases a0 : o.at_ = (0, 0)
          rotate_left
          · have ea0 := (eqD o.at_).trans (congrArg some (decide_eq_false a0))
            simp (disch := omega) only [go_sem, ↓reduceIte, Nat.reduceEqDiff, Nat.reduceAdd, Nat.reduceMul, Nat.reduceSub, Nat.reduceLT, Nat.reduceLeDiff, Nat.reduceBEq, reduceCtorEq, Int.reduceLT, Int.reduceEq, Int.reduceLE, Int.reduceAdd, Int.reduceSub, Int.reduceToNat, Int.reduceNeg, hc2, hn, k3, eb, er1, er2, r3, eq1, y1, ea0]
            exact ⟨nk fun h => a0 (K h).2.2.2.2.1, he12⟩
          have ea0 := (eqD o.at_).trans (congrArg some (decide_eq_true a0))
          by_cases s0 : o.side = 0
          rotate_left
          · simp (disch := omega) only [go_sem, ↓reduceIte, Nat.reduceEqDiff, Nat.reduceAdd, Nat.reduceMul, Nat.reduceSub, Nat.reduceLT, Nat.reduceLeDiff, Nat.reduceBEq, reduceCtorEq, Int.reduceLT, Int.reduceEq, Int.reduceLE, Int.reduceAdd, Int.reduceSub, Int.reduceToNat, Int.reduceNeg, hc2, hn, k3, eb, er1, er2, r3, eq1, y1, ea0, s0]
            exact ⟨nk fun h => s0 (K h).2.2.2.2.2.1, he12⟩
          by_cases c0 : o.char = 0
          rotate_left
          · simp (disch := omega) only [go_sem, ↓reduceIte, Nat.reduceEqDiff, Nat.reduceAdd, Nat.reduceMul, Nat.reduceSub, Nat.reduceLT, Nat.reduceLeDiff, Nat.reduceBEq, reduceCtorEq, Int.reduceLT, Int.reduceEq, Int.reduceLE, Int.reduceAdd, Int.reduceSub, Int.reduceToNat, Int.reduceNeg, hc2, hn, k3, eb, er1, er2, r3, eq1, y1, ea0, s0, c0]
            exact ⟨nk fun h => c0 (K h).2.2.2.2.2.2, he12⟩
          simp (disch := omega) only [go_sem, ↓reduceIte, Nat.reduceEqDiff, Nat.reduceAdd, Nat.reduceMul, Nat.reduceSub, Nat.reduceLT, Nat.reduceLeDiff, Nat.reduceBEq, reduceCtorEq, Int.reduceLT, Int.reduceEq, Int.reduceLE, Int.reduceAdd, Int.reduceSub, Int.reduceToNat, Int.reduceNeg, hc2, hn, k3, eb, er1, er2, r3, eq1, y1, ea0, s0, c0]
          exact ⟨yes ⟨hmh, .inr (.inr ⟨k3, .inl b0, .inr (.inr r3), q1, y1, a0, s0, c0⟩)⟩, he12⟩
    · have eb := (eqV_dot o.block o.id).trans (congrArg some (decide_eq_false b0))
      by_cases b1 : hasP o.deps o.block
      rotate_left
      · simp (disch := omega) only [go_sem, ↓reduceIte, Nat.reduceEqDiff, Nat.reduceAdd, Nat.reduceMul, Nat.reduceSub, Nat.reduceLT, Nat.reduceLeDiff, Nat.reduceBEq, reduceCtorEq, Int.reduceLT, Int.reduceEq, Int.reduceLE, Int.reduceAdd, Int.reduceSub, Int.reduceToNat, Int.reduceNeg, hc2, hn, k3, eb, b1]
        exact ⟨nk fun h => ((K h).1).elim b0 b1, he12⟩
      by_cases r1 : o.parent = (0, -1)
      · have er1 := (eqR o.parent).trans (congrArg some (decide_eq_true r1))
        by_cases q1 : o.parent = o.block
        · have eq1 := (eqV_dot o.parent o.block).trans (congrArg some (decide_eq_true q1))
          simp (disch := omega) only [go_sem, ↓reduceIte, Nat.reduceEqDiff, Nat.reduceAdd, Nat.reduceMul, Nat.reduceSub, Nat.reduceLT, Nat.reduceLeDiff, Nat.reduceBEq, reduceCtorEq, Int.reduceLT, Int.reduceEq, Int.reduceLE, Int.reduceAdd, Int.reduceSub, Int.reduceToNat, Int.reduceNeg, hc2, hn, k3, eb, b1, er1, eq1]
          exact ⟨nk fun h => (K h).2.2.1 q1, he12⟩
        have eq1 := (eqV_dot o.parent o.block).trans (congrArg some (decide_eq_false q1))
        by_cases y1 : keyP o.key
        rotate_left
        · simp (disch := omega) only [go_sem, ↓reduceIte, Nat.reduceEqDiff, Nat.reduceAdd, Nat.reduceMul, Nat.reduceSub, Nat.reduceLT, Nat.reduceLeDiff, Nat.reduceBEq, reduceCtorEq, Int.reduceLT, Int.reduceEq, Int.reduceLE, Int.reduceAdd, Int.reduceSub, Int.reduceToNat, Int.reduceNeg, hc2, hn, k3, eb, b1, er1, eq1, y1]
          exact ⟨nk fun h => y1 (K h).2.2.2.1, he12⟩
        by_cases a0 : o.at_ = (0, 0)
        rotate_left
        · have ea0 := (eqD o.at_).trans (congrArg some (decide_eq_false a0))
          simp (disch := omega) only [go_sem, ↓reduceIte, Nat.reduceEqDiff, Nat.reduceAdd, Nat.reduceMul, Nat.reduceSub, Nat.reduceLT, Nat.reduceLeDiff, Nat.reduceBEq, reduceCtorEq, Int.reduceLT, Int.reduceEq, Int.reduceLE, Int.reduceAdd, Int.reduceSub, Int.reduceToNat, Int.reduceNeg, hc2, hn, k3, eb, b1, er1, eq1, y1, ea0]
          exact ⟨nk fun h => a0 (K h).2.2.2.2.1, he12⟩
        have ea0 := (eqD o.at_).trans (congrArg some (decide_eq_true a0))
        by_cases s0 : o.side = 0
        rotate_left
        · simp (disch := omega) only [go_sem, ↓reduceIte, Nat.reduceEqDiff, Nat.reduceAdd, Nat.reduceMul, Nat.reduceSub, Nat.reduceLT, Nat.reduceLeDiff, Nat.reduceBEq, reduceCtorEq, Int.reduceLT, Int.reduceEq, Int.reduceLE, Int.reduceAdd, Int.reduceSub, Int.reduceToNat, Int.reduceNeg, hc2, hn, k3, eb, b1, er1, eq1, y1, ea0, s0]
          exact ⟨nk fun h => s0 (K h).2.2.2.2.2.1, he12⟩
        by_cases c0 : o.char = 0
        rotate_left
        · simp (disch := omega) only [go_sem, ↓reduceIte, Nat.reduceEqDiff, Nat.reduceAdd, Nat.reduceMul, Nat.reduceSub, Nat.reduceLT, Nat.reduceLeDiff, Nat.reduceBEq, reduceCtorEq, Int.reduceLT, Int.reduceEq, Int.reduceLE, Int.reduceAdd, Int.reduceSub, Int.reduceToNat, Int.reduceNeg, hc2, hn, k3, eb, b1, er1, eq1, y1, ea0, s0, c0]
          exact ⟨nk fun h => c0 (K h).2.2.2.2.2.2, he12⟩
        simp (disch := omega) only [go_sem, ↓reduceIte, Nat.reduceEqDiff, Nat.reduceAdd, Nat.reduceMul, Nat.reduceSub, Nat.reduceLT, Nat.reduceLeDiff, Nat.reduceBEq, reduceCtorEq, Int.reduceLT, Int.reduceEq, Int.reduceLE, Int.reduceAdd, Int.reduceSub, Int.reduceToNat, Int.reduceNeg, hc2, hn, k3, eb, b1, er1, eq1, y1, ea0, s0, c0]
        exact ⟨yes ⟨hmh, .inr (.inr ⟨k3, .inr b1, .inl r1, q1, y1, a0, s0, c0⟩)⟩, he12⟩
      · have er1 := (eqR o.parent).trans (congrArg some (decide_eq_false r1))
        by_cases r2 : o.parent = (0, -2)
        · have er2 := (eqT o.parent).trans (congrArg some (decide_eq_true r2))
          by_cases q1 : o.parent = o.block
          · have eq1 := (eqV_dot o.parent o.block).trans (congrArg some (decide_eq_true q1))
            simp (disch := omega) only [go_sem, ↓reduceIte, Nat.reduceEqDiff, Nat.reduceAdd, Nat.reduceMul, Nat.reduceSub, Nat.reduceLT, Nat.reduceLeDiff, Nat.reduceBEq, reduceCtorEq, Int.reduceLT, Int.reduceEq, Int.reduceLE, Int.reduceAdd, Int.reduceSub, Int.reduceToNat, Int.reduceNeg, hc2, hn, k3, eb, b1, er1, er2, eq1]
            exact ⟨nk fun h => (K h).2.2.1 q1, he12⟩
          have eq1 := (eqV_dot o.parent o.block).trans (congrArg some (decide_eq_false q1))
          by_cases y1 : keyP o.key
          rotate_left
          · simp (disch := omega) only [go_sem, ↓reduceIte, Nat.reduceEqDiff, Nat.reduceAdd, Nat.reduceMul, Nat.reduceSub, Nat.reduceLT, Nat.reduceLeDiff, Nat.reduceBEq, reduceCtorEq, Int.reduceLT, Int.reduceEq, Int.reduceLE, Int.reduceAdd, Int.reduceSub, Int.reduceToNat, Int.reduceNeg, hc2, hn, k3, eb, b1, er1, er2, eq1, y1]
            exact ⟨nk fun h => y1 (K h).2.2.2.1, he12⟩
          by_cases a0 : o.at_ = (0, 0)
          rotate_left
          · have ea0 := (eqD o.at_).trans (congrArg some (decide_eq_false a0))
            simp (disch := omega) only [go_sem, ↓reduceIte, Nat.reduceEqDiff, Nat.reduceAdd, Nat.reduceMul, Nat.reduceSub, Nat.reduceLT, Nat.reduceLeDiff, Nat.reduceBEq, reduceCtorEq, Int.reduceLT, Int.reduceEq, Int.reduceLE, Int.reduceAdd, Int.reduceSub, Int.reduceToNat, Int.reduceNeg, hc2, hn, k3, eb, b1, er1, er2, eq1, y1, ea0]
            exact ⟨nk fun h => a0 (K h).2.2.2.2.1, he12⟩
          have ea0 := (eqD o.at_).trans (congrArg some (decide_eq_true a0))
          by_cases s0 : o.side = 0
          rotate_left
          · simp (disch := omega) only [go_sem, ↓reduceIte, Nat.reduceEqDiff, Nat.reduceAdd, Nat.reduceMul, Nat.reduceSub, Nat.reduceLT, Nat.reduceLeDiff, Nat.reduceBEq, reduceCtorEq, Int.reduceLT, Int.reduceEq, Int.reduceLE, Int.reduceAdd, Int.reduceSub, Int.reduceToNat, Int.reduceNeg, hc2, hn, k3, eb, b1, er1, er2, eq1, y1, ea0, s0]
            exact ⟨nk fun h => s0 (K h).2.2.2.2.2.1, he12⟩
          by_cases c0 : o.char = 0
          rotate_left
          · simp (disch := omega) only [go_sem, ↓reduceIte, Nat.reduceEqDiff, Nat.reduceAdd, Nat.reduceMul, Nat.reduceSub, Nat.reduceLT, Nat.reduceLeDiff, Nat.reduceBEq, reduceCtorEq, Int.reduceLT, Int.reduceEq, Int.reduceLE, Int.reduceAdd, Int.reduceSub, Int.reduceToNat, Int.reduceNeg, hc2, hn, k3, eb, b1, er1, er2, eq1, y1, ea0, s0, c0]
            exact ⟨nk fun h => c0 (K h).2.2.2.2.2.2, he12⟩
          simp (disch := omega) only [go_sem, ↓reduceIte, Nat.reduceEqDiff, Nat.reduceAdd, Nat.reduceMul, Nat.reduceSub, Nat.reduceLT, Nat.reduceLeDiff, Nat.reduceBEq, reduceCtorEq, Int.reduceLT, Int.reduceEq, Int.reduceLE, Int.reduceAdd, Int.reduceSub, Int.reduceToNat, Int.reduceNeg, hc2, hn, k3, eb, b1, er1, er2, eq1, y1, ea0, s0, c0]
          exact ⟨yes ⟨hmh, .inr (.inr ⟨k3, .inr b1, .inr (.inl r2), q1, y1, a0, s0, c0⟩)⟩, he12⟩
        · have er2 := (eqT o.parent).trans (congrArg some (decide_eq_false r2))
          by_cases r3 : hasP o.deps o.parent
          rotate_left
          · simp (disch := omega) only [go_sem, ↓reduceIte, Nat.reduceEqDiff, Nat.reduceAdd, Nat.reduceMul, Nat.reduceSub, Nat.reduceLT, Nat.reduceLeDiff, Nat.reduceBEq, reduceCtorEq, Int.reduceLT, Int.reduceEq, Int.reduceLE, Int.reduceAdd, Int.reduceSub, Int.reduceToNat, Int.reduceNeg, hc2, hn, k3, eb, b1, er1, er2, r3]
            exact ⟨nk fun h => ((K h).2.1).elim r1 fun h => h.elim r2 r3, he12⟩
          by_cases q1 : o.parent = o.block
          · have eq1 := (eqV_dot o.parent o.block).trans (congrArg some (decide_eq_true q1))
            simp (disch := omega) only [go_sem, ↓reduceIte, Nat.reduceEqDiff, Nat.reduceAdd, Nat.reduceMul, Nat.reduceSub, Nat.reduceLT, Nat.reduceLeDiff, Nat.reduceBEq, reduceCtorEq, Int.reduceLT, Int.reduceEq, Int.reduceLE, Int.reduceAdd, Int.reduceSub, Int.reduceToNat, Int.reduceNeg, hc2, hn, k3, eb, b1, er1, er2, r3, eq1]
            exact ⟨nk fun h => (K h).2.2.1 q1, he12⟩
          have eq1 := (eqV_dot o.parent o.block).trans (congrArg some (decide_eq_false q1))
          by_cases y1 : keyP o.key
          rotate_left
          · simp (disch := omega) only [go_sem, ↓reduceIte, Nat.reduceEqDiff, Nat.reduceAdd, Nat.reduceMul, Nat.reduceSub, Nat.reduceLT, Nat.reduceLeDiff, Nat.reduceBEq, reduceCtorEq, Int.reduceLT, Int.reduceEq, Int.reduceLE, Int.reduceAdd, Int.reduceSub, Int.reduceToNat, Int.reduceNeg, hc2, hn, k3, eb, b1, er1, er2, r3, eq1, y1]
            exact ⟨nk fun h => y1 (K h).2.2.2.1, he12⟩
          by_cases a0 : o.at_ = (0, 0)
          rotate_left
          · have ea0 := (eqD o.at_).trans (congrArg some (decide_eq_false a0))
            simp (disch := omega) only [go_sem, ↓reduceIte, Nat.reduceEqDiff, Nat.reduceAdd, Nat.reduceMul, Nat.reduceSub, Nat.reduceLT, Nat.reduceLeDiff, Nat.reduceBEq, reduceCtorEq, Int.reduceLT, Int.reduceEq, Int.reduceLE, Int.reduceAdd, Int.reduceSub, Int.reduceToNat, Int.reduceNeg, hc2, hn, k3, eb, b1, er1, er2, r3, eq1, y1, ea0]
            exact ⟨nk fun h => a0 (K h).2.2.2.2.1, he12⟩
          have ea0 := (eqD o.at_).trans (congrArg some (decide_eq_true a0))
          by_cases s0 : o.side = 0
          rotate_left
          · simp (disch := omega) only [go_sem, ↓reduceIte, Nat.reduceEqDiff, Nat.reduceAdd, Nat.reduceMul, Nat.reduceSub, Nat.reduceLT, Nat.reduceLeDiff, Nat.reduceBEq, reduceCtorEq, Int.reduceLT, Int.reduceEq, Int.reduceLE, Int.reduceAdd, Int.reduceSub, Int.reduceToNat, Int.reduceNeg, hc2, hn, k3, eb, b1, er1, er2, r3, eq1, y1, ea0, s0]
            exact ⟨nk fun h => s0 (K h).2.2.2.2.2.1, he12⟩
          by_cases c0 : o.char = 0
          rotate_left
          · simp (disch := omega) only [go_sem, ↓reduceIte, Nat.reduceEqDiff, Nat.reduceAdd, Nat.reduceMul, Nat.reduceSub, Nat.reduceLT, Nat.reduceLeDiff, Nat.reduceBEq, reduceCtorEq, Int.reduceLT, Int.reduceEq, Int.reduceLE, Int.reduceAdd, Int.reduceSub, Int.reduceToNat, Int.reduceNeg, hc2, hn, k3, eb, b1, er1, er2, r3, eq1, y1, ea0, s0, c0]
            exact ⟨nk fun h => c0 (K h).2.2.2.2.2.2, he12⟩
          simp (disch := omega) only [go_sem, ↓reduceIte, Nat.reduceEqDiff, Nat.reduceAdd, Nat.reduceMul, Nat.reduceSub, Nat.reduceLT, Nat.reduceLeDiff, Nat.reduceBEq, reduceCtorEq, Int.reduceLT, Int.reduceEq, Int.reduceLE, Int.reduceAdd, Int.reduceSub, Int.reduceToNat, Int.reduceNeg, hc2, hn, k3, eb, b1, er1, er2, r3, eq1, y1, ea0, s0, c0]
          exact ⟨yes ⟨hmh, .inr (.inr ⟨k3, .inr b1, .inr (.inr r3), q1, y1, a0, s0, c0⟩)⟩, he12⟩
  simp (disch := omega) only [go_sem, ↓reduceIte, Nat.reduceEqDiff, Nat.reduceAdd, Nat.reduceMul, Nat.reduceSub, Nat.reduceLT, Nat.reduceLeDiff, Nat.reduceBEq, reduceCtorEq, Int.reduceLT, Int.reduceEq, Int.reduceLE, Int.reduceAdd, Int.reduceSub, Int.reduceToNat, Int.reduceNeg, hc2, k1, k2, k3]
  exact ⟨nk fun h => by rcases h.2 with h | h | h <;> exact absurd h.1 (by omega), he12⟩
end Go.Osj
