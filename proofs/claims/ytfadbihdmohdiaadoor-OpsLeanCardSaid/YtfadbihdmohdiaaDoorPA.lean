/- Contracts carried over from the layers below. -/
import Derived.Test.YtfadbihdmohdiaaDoorC1
import Derived.Test.YtfadbihdmohdiaaDoorC2
import Derived.Test.YtfadbihdmohdiaaDoorOsjR
import Derived.Test.YtfadbihdmohdiaaDoorOsjQ
set_option linter.unusedVariables false
/- slices.SortFunc at dots: the shelf's contract, laid at this translation. -/
namespace Go.Osj
open Go.RowKit

abbrev Dot : Type := Int × Int
abbrev dotV (d : Dot) : Value := .agg #[.int .i64 d.1, .int .i64 d.2]
def dotE : Enc Dot := ⟨fun d => [.int .i64 d.1, .int .i64 d.2], 2, fun _ => rfl, fun _ => rfl, by decide⟩
def lessP (a b : Dot) : Prop := a.1 < b.1 ∨ (a.1 = b.1 ∧ a.2 < b.2)
instance (a b : Dot) : Decidable (lessP a b) := inferInstanceAs (Decidable (_ ∨ _))
def compareD (a b : Dot) : Int := if a.1 < b.1 then -1 else if b.1 < a.1 then 1 else if a.2 < b.2 then -1 else if b.2 < a.2 then 1 else 0
theorem compareD_neg (a b : Dot) : compareD a b < 0 ↔ lessP a b := by
  unfold compareD lessP
  repeat' split
  all_goals omega
theorem eqV_dot (a b : Dot) : eqV [.i .i64, .i .i64] true (dotV a) (dotV b) = some (decide (a = b)) := by
  simp [eqV, eqC, Prod.ext_iff]
/-- the sort's order of dots, told by parts -/
abbrev dotKE : KeyE Dot := ⟨dotV, [.i .i64, .i .i64], true, eqV_dot⟩
theorem dot_ne {a b : Dot} : a ≠ b ↔ a.1 ≠ b.1 ∨ a.2 ≠ b.2 := by
  rw [Ne, Prod.ext_iff]
  omega

end Go.Osj

/- Plain facts about rows of dots. -/
namespace Go.Osj

theorem lessP_irrefl (a : Dot) : ¬ lessP a a := by unfold lessP; omega
theorem lessP_trans {a b c : Dot} (h1 : lessP a b) (h2 : lessP b c) : lessP a c := by unfold lessP at *; omega
theorem lessP_total {a b : Dot} (h1 : ¬ lessP a b) (h2 : ¬ lessP b a) : a = b := by
  unfold lessP at *
  apply Prod.ext <;> omega
theorem lessP_asymm {a b : Dot} (h1 : lessP a b) : ¬ lessP b a := by unfold lessP at *; omega

/-- in order, and just these -/
def Ris (xs ys : List Dot) : Prop := ys.Pairwise lessP ∧ ∀ d, d ∈ ys ↔ d ∈ xs

theorem sorted_unique : ∀ {ys zs : List Dot}, ys.Pairwise lessP → zs.Pairwise lessP → (∀ d, d ∈ ys ↔ d ∈ zs) → ys = zs
  | [], [], _, _, _ => rfl
  | [], z :: zs, _, _, h => by have := (h z).2 (by simp); simp at this
  | y :: ys, [], _, _, h => by have := (h y).1 (by simp); simp at this
  | y :: ys, z :: zs, hy, hz, h => by
    rw [List.pairwise_cons] at hy hz
    have hyz : y = z := by
      rcases List.mem_cons.1 ((h y).1 (by simp)) with h1 | h1
      · exact h1
      · rcases List.mem_cons.1 ((h z).2 (by simp)) with h2 | h2
        · exact h2.symm
        · exact absurd (hz.1 y h1) (lessP_asymm (hy.1 z h2))
    subst hyz
    congr 1
    refine sorted_unique hy.2 hz.2 fun d => ?_
    constructor
    · intro hd
      rcases List.mem_cons.1 ((h d).1 (by simp [hd])) with h1 | h1
      · subst h1; exact absurd (hy.1 d hd) (lessP_irrefl d)
      · exact h1
    · intro hd
      rcases List.mem_cons.1 ((h d).2 (by simp [hd])) with h1 | h1
      · subst h1; exact absurd (hz.1 d hd) (lessP_irrefl d)
      · exact h1

/-- put in where it belongs -/
def put1 (d : Dot) : List Dot → List Dot
  | [] => [d]
  | x :: r => if lessP x d then x :: put1 d r else if x = d then x :: r else d :: x :: r
theorem mem_put1 (d e : Dot) : ∀ l : List Dot, e ∈ put1 d l ↔ e = d ∨ e ∈ l
  | [] => by simp [put1]
  | x :: r => by
    unfold put1
    split
    · rw [List.mem_cons, mem_put1 d e r, List.mem_cons]
      constructor
      · rintro (h | h | h)
        · exact .inr (.inl h)
        · exact .inl h
        · exact .inr (.inr h)
      · rintro (h | h | h)
        · exact .inr (.inl h)
        · exact .inl h
        · exact .inr (.inr h)
    · split
      · rename_i h; subst h; simp
      · simp
theorem put1_sorted (d : Dot) : ∀ {l : List Dot}, l.Pairwise lessP → (put1 d l).Pairwise lessP
  | [], _ => by simp [put1]
  | x :: r, h => by
    rw [List.pairwise_cons] at h
    unfold put1
    split
    · rename_i hx
      rw [List.pairwise_cons]
      refine ⟨fun e he => ?_, put1_sorted d h.2⟩
      rcases (mem_put1 d e r).1 he with h1 | h1
      · subst h1; exact hx
      · exact h.1 e h1
    · rename_i hx
      split
      · rw [List.pairwise_cons]; exact h
      · rename_i hne
        have hdx : lessP d x := by
          by_cases hq : lessP d x
          · exact hq
          · exact absurd (lessP_total hx hq) hne
        rw [List.pairwise_cons, List.pairwise_cons]
        refine ⟨fun e he => ?_, h⟩
        rcases List.mem_cons.1 he with h1 | h1
        · subst h1; exact hdx
        · exact lessP_trans hdx (h.1 e h1)
def risen (xs : List Dot) : List Dot := xs.foldl (fun out d => put1 d out) []
theorem risen_ris (xs : List Dot) : Ris xs (risen xs) := by
  have key : ∀ (xs out : List Dot), out.Pairwise lessP → (xs.foldl (fun out d => put1 d out) out).Pairwise lessP ∧ ∀ d, d ∈ xs.foldl (fun out d => put1 d out) out ↔ d ∈ xs ∨ d ∈ out := by
    intro xs
    induction xs with
    | nil => intro out h; exact ⟨h, by simp⟩
    | cons x xs ih =>
      intro out h
      obtain ⟨h1, h2⟩ := ih (put1 x out) (put1_sorted x h)
      refine ⟨h1, fun d => ?_⟩
      rw [List.foldl_cons, h2, mem_put1, List.mem_cons]
      constructor
      · rintro (h | h | h)
        · exact .inl (.inr h)
        · exact .inl (.inl h)
        · exact .inr h
      · rintro ((h | h) | h)
        · exact .inr (.inl h)
        · exact .inl h
        · exact .inr (.inr h)
  obtain ⟨h1, h2⟩ := key xs [] (by simp)
  exact ⟨h1, fun d => by rw [risen, h2]; simp⟩
theorem Ris.eq {xs ys : List Dot} (h : Ris xs ys) : ys = risen xs :=
  sorted_unique h.1 (risen_ris xs).1 fun d => (h.2 d).trans ((risen_ris xs).2 d).symm
theorem risen_congr {xs ys : List Dot} (h : ∀ d, d ∈ xs ↔ d ∈ ys) : risen xs = risen ys :=
  Ris.eq (xs := ys) ⟨(risen_ris xs).1, fun d => ((risen_ris xs).2 d).trans (h d)⟩

def setOf (xs : List Dot) : List (Dot × Bool) := xs.foldl (fun m d => aset d true m) []
theorem setOf_keys (xs : List Dot) : ((setOf xs).map Prod.fst).Nodup ∧ ∀ d, d ∈ (setOf xs).map Prod.fst ↔ d ∈ xs := by
  have key : ∀ (xs : List Dot) (m : List (Dot × Bool)), (m.map Prod.fst).Nodup → ((xs.foldl (fun m d => aset d true m) m).map Prod.fst).Nodup ∧
      ∀ d, d ∈ (xs.foldl (fun m d => aset d true m) m).map Prod.fst ↔ d ∈ xs ∨ d ∈ m.map Prod.fst := by
    intro xs
    induction xs with
    | nil => intro m h; exact ⟨h, by simp⟩
    | cons x xs ih =>
      intro m h
      obtain ⟨g1, g2⟩ := aset_keys (k := x) (v := true) h
      obtain ⟨h1, h2⟩ := ih (aset x true m) g1
      refine ⟨h1, fun d => ?_⟩
      rw [List.foldl_cons, h2, g2, List.mem_cons]
      constructor
      · rintro (h | h | h)
        · exact .inl (.inr h)
        · exact .inl (.inl h)
        · exact .inr h
      · rintro ((h | h) | h)
        · exact .inr (.inl h)
        · exact .inl h
        · exact .inr (.inr h)
  obtain ⟨h1, h2⟩ := key xs [] (by simp)
  exact ⟨h1, fun d => by rw [setOf, h2]; simp⟩

theorem sort_strict {ys keys : List Dot} (hp : ys.Perm keys) (hn : keys.Nodup) (hs : ys.Pairwise fun x y => ¬ lessP y x) : ys.Pairwise lessP := by
  have hy : ys.Nodup := hp.nodup_iff.2 hn
  refine (List.Pairwise.and hs hy).imp fun {x y} h => ?_
  by_cases hq : lessP x y
  · exact hq
  · exact absurd (lessP_total hq h.1) h.2
theorem row_risen {xs ys : List Dot} (hp : ys.Perm ((setOf xs).map Prod.fst)) (hs : ys.Pairwise fun x y => ¬ lessP y x) : ys = risen xs :=
  Ris.eq ⟨sort_strict hp (setOf_keys xs).1 hs, fun d => hp.mem_iff.trans ((setOf_keys xs).2 d)⟩
theorem setOf_len (xs : List Dot) : (setOf xs).length ≤ xs.length := by
  have h := (setOf_keys xs).1.length_le_of_subset fun d hd => ((setOf_keys xs).2 d).1 hd
  simpa using h
theorem risen_len (xs : List Dot) : (risen xs).length ≤ xs.length := by
  have hn : (risen xs).Nodup := (risen_ris xs).1.imp fun {a b} h e => by subst e; exact lessP_irrefl a h
  exact hn.length_le_of_subset fun d hd => ((risen_ris xs).2 d).1 hd
end Go.Osj

/- Contracts of the functions of layer 3: dots. -/
set_option linter.unusedSimpArgs false
namespace Go.Osj
def mayP (a : Dot) : Prop := 0 ≤ a.1 ∧ a.1 < 16777216 ∧ 1 ≤ a.2 ∧ a.2 ≤ 1073741824
instance (a : Dot) : Decidable (mayP a) := inferInstanceAs (Decidable (_ ∧ _))
theorem F.dots_May.J {S : St} {a : Dot} : J PR F.dots_May [dotV a] S fun v S' => v = .bool (decide (mayP a)) ∧ S.Ext S' := by
  refine J_by PR.mixed F.dots_May.ok (by simp) ?_
  simp (disch := omega) only [go_sem, ↓reduceIte, Nat.reduceEqDiff, Nat.reduceAdd, Nat.reduceMul, Nat.reduceSub, Nat.reduceLT, Nat.reduceLeDiff, Nat.reduceBEq, reduceCtorEq, Int.reduceLT, Int.reduceEq, Int.reduceLE, Int.reduceAdd, Int.reduceSub, Int.reduceToNat, Int.reduceNeg]
  refine wfresh_of fun x hx => ?_
  simp (disch := omega) only [go_sem, ↓reduceIte, Nat.reduceEqDiff, Nat.reduceAdd, Nat.reduceMul, Nat.reduceSub, Nat.reduceLT, Nat.reduceLeDiff, Nat.reduceBEq, reduceCtorEq, Int.reduceLT, Int.reduceEq, Int.reduceLE, Int.reduceAdd, Int.reduceSub, Int.reduceToNat, Int.reduceNeg]
  have he := (St.Ext.refl S).put hx (.cells true 2 [.int .i64 a.1, .int .i64 a.2])
  unfold mayP
  refine wguard_dec (fun h1 => ?_) (fun h1 => ?_)
  · simp (disch := omega) only [go_sem, ↓reduceIte, Nat.reduceEqDiff, Nat.reduceAdd, Nat.reduceMul, Nat.reduceSub, Nat.reduceLT, Nat.reduceLeDiff, Nat.reduceBEq, reduceCtorEq, Int.reduceLT, Int.reduceEq, Int.reduceLE, Int.reduceAdd, Int.reduceSub, Int.reduceToNat, Int.reduceNeg, h1]
    refine wguard_dec (fun h2 => ?_) (fun h2 => ?_)
    · simp (disch := omega) only [go_sem, ↓reduceIte, Nat.reduceEqDiff, Nat.reduceAdd, Nat.reduceMul, Nat.reduceSub, Nat.reduceLT, Nat.reduceLeDiff, Nat.reduceBEq, reduceCtorEq, Int.reduceLT, Int.reduceEq, Int.reduceLE, Int.reduceAdd, Int.reduceSub, Int.reduceToNat, Int.reduceNeg, h2]
      refine wguard_dec (fun h3 => ?_) (fun h3 => ?_)
      · simp (disch := omega) only [go_sem, ↓reduceIte, Nat.reduceEqDiff, Nat.reduceAdd, Nat.reduceMul, Nat.reduceSub, Nat.reduceLT, Nat.reduceLeDiff, Nat.reduceBEq, reduceCtorEq, Int.reduceLT, Int.reduceEq, Int.reduceLE, Int.reduceAdd, Int.reduceSub, Int.reduceToNat, Int.reduceNeg, h3]
        exact ⟨by first | exact vb_dec (by omega) | exact vb_true (by omega) | exact vb_false (by omega) | exact vb_not (by omega) | (simp; done) | (simp; omega), he⟩
      · simp (disch := omega) only [go_sem, ↓reduceIte, Nat.reduceEqDiff, Nat.reduceAdd, Nat.reduceMul, Nat.reduceSub, Nat.reduceLT, Nat.reduceLeDiff, Nat.reduceBEq, reduceCtorEq, Int.reduceLT, Int.reduceEq, Int.reduceLE, Int.reduceAdd, Int.reduceSub, Int.reduceToNat, Int.reduceNeg, h3]
        exact ⟨by first | exact vb_dec (by omega) | exact vb_true (by omega) | exact vb_false (by omega) | exact vb_not (by omega) | (simp; done) | (simp; omega), he⟩
    · simp (disch := omega) only [go_sem, ↓reduceIte, Nat.reduceEqDiff, Nat.reduceAdd, Nat.reduceMul, Nat.reduceSub, Nat.reduceLT, Nat.reduceLeDiff, Nat.reduceBEq, reduceCtorEq, Int.reduceLT, Int.reduceEq, Int.reduceLE, Int.reduceAdd, Int.reduceSub, Int.reduceToNat, Int.reduceNeg, h2]
      exact ⟨by first | exact vb_dec (by omega) | exact vb_true (by omega) | exact vb_false (by omega) | exact vb_not (by omega) | (simp; done) | (simp; omega), he⟩
  · simp (disch := omega) only [go_sem, ↓reduceIte, Nat.reduceEqDiff, Nat.reduceAdd, Nat.reduceMul, Nat.reduceSub, Nat.reduceLT, Nat.reduceLeDiff, Nat.reduceBEq, reduceCtorEq, Int.reduceLT, Int.reduceEq, Int.reduceLE, Int.reduceAdd, Int.reduceSub, Int.reduceToNat, Int.reduceNeg, h1]
    exact ⟨by first | exact vb_dec (by omega) | exact vb_true (by omega) | exact vb_false (by omega) | exact vb_not (by omega) | (simp; done) | (simp; omega), he⟩
theorem F.osierref03_May.J {S : St} {a : Dot} : J PR F.osierref03_May [dotV a] S fun v S' => v = .bool (decide (mayP a)) ∧ S.Ext S' := by
  refine J_by PR.mixed F.osierref03_May.ok (by simp) ?_
  simp (disch := omega) only [go_sem, ↓reduceIte, Nat.reduceEqDiff, Nat.reduceAdd, Nat.reduceMul, Nat.reduceSub, Nat.reduceLT, Nat.reduceLeDiff, Nat.reduceBEq, reduceCtorEq, Int.reduceLT, Int.reduceEq, Int.reduceLE, Int.reduceAdd, Int.reduceSub, Int.reduceToNat, Int.reduceNeg]
  refine wfresh_of fun x hx => ?_
  simp (disch := omega) only [go_sem, ↓reduceIte, Nat.reduceEqDiff, Nat.reduceAdd, Nat.reduceMul, Nat.reduceSub, Nat.reduceLT, Nat.reduceLeDiff, Nat.reduceBEq, reduceCtorEq, Int.reduceLT, Int.reduceEq, Int.reduceLE, Int.reduceAdd, Int.reduceSub, Int.reduceToNat, Int.reduceNeg]
  have he := (St.Ext.refl S).put hx (.cells true 2 [.int .i64 a.1, .int .i64 a.2])
  unfold mayP
  refine wguard_dec (fun h1 => ?_) (fun h1 => ?_)
  · simp (disch := omega) only [go_sem, ↓reduceIte, Nat.reduceEqDiff, Nat.reduceAdd, Nat.reduceMul, Nat.reduceSub, Nat.reduceLT, Nat.reduceLeDiff, Nat.reduceBEq, reduceCtorEq, Int.reduceLT, Int.reduceEq, Int.reduceLE, Int.reduceAdd, Int.reduceSub, Int.reduceToNat, Int.reduceNeg, h1]
    refine wguard_dec (fun h2 => ?_) (fun h2 => ?_)
    · simp (disch := omega) only [go_sem, ↓reduceIte, Nat.reduceEqDiff, Nat.reduceAdd, Nat.reduceMul, Nat.reduceSub, Nat.reduceLT, Nat.reduceLeDiff, Nat.reduceBEq, reduceCtorEq, Int.reduceLT, Int.reduceEq, Int.reduceLE, Int.reduceAdd, Int.reduceSub, Int.reduceToNat, Int.reduceNeg, h2]
      refine wguard_dec (fun h3 => ?_) (fun h3 => ?_)
      · simp (disch := omega) only [go_sem, ↓reduceIte, Nat.reduceEqDiff, Nat.reduceAdd, Nat.reduceMul, Nat.reduceSub, Nat.reduceLT, Nat.reduceLeDiff, Nat.reduceBEq, reduceCtorEq, Int.reduceLT, Int.reduceEq, Int.reduceLE, Int.reduceAdd, Int.reduceSub, Int.reduceToNat, Int.reduceNeg, h3]
        exact ⟨by first | exact vb_dec (by omega) | exact vb_true (by omega) | exact vb_false (by omega) | exact vb_not (by omega) | (simp; done) | (simp; omega), he⟩
      · simp (disch := omega) only [go_sem, ↓reduceIte, Nat.reduceEqDiff, Nat.reduceAdd, Nat.reduceMul, Nat.reduceSub, Nat.reduceLT, Nat.reduceLeDiff, Nat.reduceBEq, reduceCtorEq, Int.reduceLT, Int.reduceEq, Int.reduceLE, Int.reduceAdd, Int.reduceSub, Int.reduceToNat, Int.reduceNeg, h3]
        exact ⟨by first | exact vb_dec (by omega) | exact vb_true (by omega) | exact vb_false (by omega) | exact vb_not (by omega) | (simp; done) | (simp; omega), he⟩
    · simp (disch := omega) only [go_sem, ↓reduceIte, Nat.reduceEqDiff, Nat.reduceAdd, Nat.reduceMul, Nat.reduceSub, Nat.reduceLT, Nat.reduceLeDiff, Nat.reduceBEq, reduceCtorEq, Int.reduceLT, Int.reduceEq, Int.reduceLE, Int.reduceAdd, Int.reduceSub, Int.reduceToNat, Int.reduceNeg, h2]
      exact ⟨by first | exact vb_dec (by omega) | exact vb_true (by omega) | exact vb_false (by omega) | exact vb_not (by omega) | (simp; done) | (simp; omega), he⟩
  · simp (disch := omega) only [go_sem, ↓reduceIte, Nat.reduceEqDiff, Nat.reduceAdd, Nat.reduceMul, Nat.reduceSub, Nat.reduceLT, Nat.reduceLeDiff, Nat.reduceBEq, reduceCtorEq, Int.reduceLT, Int.reduceEq, Int.reduceLE, Int.reduceAdd, Int.reduceSub, Int.reduceToNat, Int.reduceNeg, h1]
    exact ⟨by first | exact vb_dec (by omega) | exact vb_true (by omega) | exact vb_false (by omega) | exact vb_not (by omega) | (simp; done) | (simp; omega), he⟩
abbrev boolV (b : Bool) : Value := .bool b
def placesN (xs : List Dot) : Nat → List (Dot × Nat)
  | 0 => []
  | i + 1 => match xs[i]? with
    | some d => if (alook d (placesN xs i)).isSome then placesN xs i else aset d i (placesN xs i)
    | none => placesN xs i
abbrev natV (n : Nat) : Value := .int .i64 n
end Go.Osj

/- Contracts of layer 3, more: Same, Minus. -/
set_option linter.unusedSimpArgs false
namespace Go.Osj

theorem SlT.dot {S : St} {base : Option Addr} {n cap : Nat} {xs : List Dot} (h : SlT dotE S (.slice base n cap) xs) {i : Nat} (hi : i < xs.length) :
    ∃ b off, base = some ⟨b, off, none⟩ ∧ b < S.n ∧ S.loadN ⟨b, off + i * 2, none⟩ 2 = some [.int .i64 xs[i].1, .int .i64 xs[i].2] := by
  obtain ⟨b, off, h1, h2, h3, -⟩ := h.at dotE (i := i) (x := xs[i]) (by simp)
  exact ⟨b, off, h1, h2, h3⟩

def minusOf (m : List (Dot × Bool)) (ys : List Dot) : List (Dot × Bool) := ys.foldl (fun m d => adel d m) m
theorem minusOf_keys : ∀ (ys : List Dot) (m : List (Dot × Bool)), (m.map Prod.fst).Nodup → ((minusOf m ys).map Prod.fst).Nodup ∧ ∀ d, d ∈ (minusOf m ys).map Prod.fst ↔ d ∉ ys ∧ d ∈ m.map Prod.fst
  | [], m, h => ⟨h, fun d => by simp [minusOf]⟩
  | y :: ys, m, h => by
    obtain ⟨g1, g2⟩ := adel_keys (k := y) h
    obtain ⟨h1, h2⟩ := minusOf_keys ys (adel y m) g1
    refine ⟨h1, fun d => ?_⟩
    have : minusOf m (y :: ys) = minusOf (adel y m) ys := rfl
    rw [this, h2, g2, List.mem_cons, not_or]
    constructor
    · rintro ⟨a, b, c⟩
      exact ⟨⟨b, a⟩, c⟩
    · rintro ⟨⟨b, a⟩, c⟩
      exact ⟨a, b, c⟩
theorem adel_len {k : Dot} : ∀ m : List (Dot × Bool), (adel k m).length ≤ m.length
  | [] => Nat.le_refl _
  | p :: r => by
    unfold adel
    split
    · simp
    · have := adel_len (k := k) r
      simp
      omega
theorem minusOf_len : ∀ (ys : List Dot) (m : List (Dot × Bool)), (minusOf m ys).length ≤ m.length
  | [], _ => Nat.le_refl _
  | y :: ys, m => Nat.le_trans (minusOf_len ys (adel y m)) (adel_len m)

end Go.Osj

/- Contracts of layer 3, more: the reference's Put1, Rising, Choose. -/
set_option linter.unusedSimpArgs false
namespace Go.Osj
theorem put1_split (d : Dot) : ∀ (xs : List Dot) (i : Nat), (∀ y ∈ xs.take i, lessP y d) → put1 d xs = xs.take i ++ put1 d (xs.drop i)
  | xs, 0, _ => by simp
  | [], i + 1, _ => by simp
  | x :: r, i + 1, h => by
    have hx : lessP x d := h x (by simp)
    rw [List.take_succ_cons, List.drop_succ_cons, put1, if_pos hx, put1_split d r i fun y hy => h y (by simp [hy])]
    rfl
theorem put1_len (d : Dot) : ∀ xs : List Dot, (put1 d xs).length ≤ xs.length + 1
  | [] => by simp [put1]
  | x :: r => by
    have := put1_len d r
    unfold put1
    split
    · simp; omega
    · split <;> simp

theorem risen_take_succ {xs : List Dot} {i : Nat} (h : i < xs.length) : risen (xs.take (i + 1)) = put1 xs[i] (risen (xs.take i)) := by
  rw [take_snoc (List.getElem?_eq_getElem h), risen, List.foldl_append]
  rfl
def chosen (xs ys : List Dot) (t : Bool) : List Dot := risen (xs.filter fun d => decide (d ∈ ys) == t)
theorem chosen_take_succ {xs ys : List Dot} {t : Bool} {i : Nat} (h : i < xs.length) : chosen (xs.take (i + 1)) ys t = if (decide (xs[i] ∈ ys)) == t then put1 xs[i] (chosen (xs.take i) ys t) else chosen (xs.take i) ys t := by
  unfold chosen
  rw [take_snoc (List.getElem?_eq_getElem h), List.filter_append, List.filter_cons]
  split
  · rw [risen, List.foldl_append]; rfl
  · simp
end Go.Osj

/- Plain facts about version vectors. -/
namespace Go.Osj

def getV : List Dot → Int → Int
  | [], _ => 0
  | d :: r, a => if d.1 = a then d.2 else getV r a
/-- what may be a vector -/
def isV (v : List Dot) : Prop := v.Pairwise (fun a b => a.1 < b.1) ∧ ∀ d ∈ v, mayP d
def hasP (v : List Dot) (d : Dot) : Prop := mayP d ∧ d.2 ≤ getV v d.1
instance (v : List Dot) (d : Dot) : Decidable (hasP v d) := inferInstanceAs (Decidable (_ ∧ _))
def belowP (v w : List Dot) : Prop := ∀ d ∈ v, d.2 ≤ getV w d.1
instance (v w : List Dot) : Decidable (belowP v w) := inferInstanceAs (Decidable (∀ d ∈ v, _))

theorem isV_nil : isV [] := ⟨List.Pairwise.nil, by simp⟩
theorem isV_cons {d : Dot} {v : List Dot} : isV (d :: v) ↔ mayP d ∧ (∀ e ∈ v, d.1 < e.1) ∧ isV v := by
  unfold isV
  rw [List.pairwise_cons]
  constructor
  · rintro ⟨⟨h1, h2⟩, h3⟩
    exact ⟨h3 d (by simp), h1, h2, fun e he => h3 e (by simp [he])⟩
  · rintro ⟨h1, h2, h3, h4⟩
    refine ⟨⟨h2, h3⟩, fun e he => ?_⟩
    rcases List.mem_cons.1 he with h | h
    · subst h; exact h1
    · exact h4 e h
theorem getV_none {v : List Dot} {a : Int} (h : ∀ d ∈ v, d.1 ≠ a) : getV v a = 0 := by
  induction v with
  | nil => rfl
  | cons d v ih =>
    rw [getV, if_neg (h d (by simp))]
    exact ih fun e he => h e (by simp [he])
theorem getV_mem {v : List Dot} (h : isV v) {d : Dot} (hd : d ∈ v) : getV v d.1 = d.2 := by
  induction v with
  | nil => simp at hd
  | cons e v ih =>
    obtain ⟨h1, h2, h3⟩ := isV_cons.1 h
    unfold getV
    rcases List.mem_cons.1 hd with hq | hq
    · subst hq; rw [if_pos rfl]
    · rw [if_neg (by have := h2 d hq; omega)]
      exact ih h3 hq
theorem mem_getV {v : List Dot} {a : Int} (h : getV v a ≠ 0) : (a, getV v a) ∈ v := by
  induction v with
  | nil => exact absurd rfl h
  | cons e v ih =>
    unfold getV at h ⊢
    split
    · rename_i hq; subst hq; simp
    · rename_i hq
      rw [if_neg hq] at h
      exact List.mem_cons_of_mem _ (ih h)
theorem getV_range {v : List Dot} (h : isV v) (a : Int) : 0 ≤ getV v a ∧ getV v a ≤ 1073741824 := by
  by_cases h0 : getV v a = 0
  · omega
  · have := h.2 _ (mem_getV h0)
    unfold mayP at this
    simp only at this
    omega
theorem getV_act {v : List Dot} (h : isV v) {a : Int} (h0 : getV v a ≠ 0) : 0 ≤ a ∧ a < 16777216 := by
  have := h.2 _ (mem_getV h0)
  unfold mayP at this
  simp only at this
  omega
theorem isV_mem {v : List Dot} (h : isV v) (d : Dot) : d ∈ v ↔ getV v d.1 = d.2 ∧ d.2 ≠ 0 := by
  constructor
  · intro hd
    refine ⟨getV_mem h hd, ?_⟩
    have := h.2 d hd
    unfold mayP at this
    omega
  · rintro ⟨h1, h2⟩
    have := mem_getV (v := v) (a := d.1) (by omega)
    rw [h1] at this
    exact this
theorem isV_less {v : List Dot} (h : isV v) : v.Pairwise lessP := h.1.imp fun {a b} hab => .inl hab
theorem isV_ext {v w : List Dot} (hv : isV v) (hw : isV w) (h : ∀ a, getV v a = getV w a) : v = w :=
  sorted_unique (isV_less hv) (isV_less hw) fun d => by rw [isV_mem hv, isV_mem hw, h]
theorem hasP_iff {v : List Dot} (h : isV v) {d : Dot} : hasP v d ↔ 1 ≤ d.2 ∧ d.2 ≤ getV v d.1 := by
  unfold hasP
  constructor
  · rintro ⟨h1, h2⟩
    unfold mayP at h1
    omega
  · rintro ⟨h1, h2⟩
    refine ⟨?_, h2⟩
    have h3 := getV_act h (a := d.1) (by omega)
    have h4 := getV_range h d.1
    unfold mayP
    omega
theorem belowP_iff {v w : List Dot} (hv : isV v) (hw : isV w) : belowP v w ↔ ∀ a, getV v a ≤ getV w a := by
  constructor
  · intro h a
    by_cases h0 : getV v a = 0
    · have := getV_range hw a
      omega
    · exact h _ (mem_getV h0)
  · intro h d hd
    have := h d.1
    rw [getV_mem hv hd] at this
    exact this

/-! ### what a choice makes of two -/
def actsV (v w : List Dot) : List Dot := risen ((v ++ w).map fun d => (d.1, 0))
def eachV (f : Int → Int → Int) (v w : List Dot) : List Dot := (actsV v w).filterMap fun d => if 0 < f (getV v d.1) (getV w d.1) then some (d.1, f (getV v d.1) (getV w d.1)) else none
theorem mem_actsV {v w : List Dot} {d : Dot} : d ∈ actsV v w ↔ d.2 = 0 ∧ ∃ e, (e ∈ v ∨ e ∈ w) ∧ e.1 = d.1 := by
  unfold actsV
  rw [(risen_ris _).2, List.mem_map]
  constructor
  · rintro ⟨e, he, rfl⟩
    exact ⟨rfl, e, List.mem_append.1 he, rfl⟩
  · rintro ⟨h1, e, he, h2⟩
    exact ⟨e, List.mem_append.2 he, Prod.ext h2 h1.symm⟩
theorem actsV_lt (v w : List Dot) : (actsV v w).Pairwise fun a b => a.1 < b.1 := by
  have h := (risen_ris ((v ++ w).map fun d => ((d.1, 0) : Dot))).1
  refine List.Pairwise.imp_of_mem (fun ha hb hab => ?_) h
  have h1 := (mem_actsV (v := v) (w := w)).1 ha
  have h2 := (mem_actsV (v := v) (w := w)).1 hb
  unfold lessP at hab
  omega
structure Choice (f : Int → Int → Int) : Prop where
  one : ∀ x y, f x y = x ∨ f x y = y
  zero : f 0 0 = 0
theorem choice_max : Choice max := ⟨fun x y => by omega, rfl⟩
theorem choice_min : Choice min := ⟨fun x y => by omega, rfl⟩
theorem eachV_is {f : Int → Int → Int} (hf : Choice f) {v w : List Dot} (hv : isV v) (hw : isV w) : isV (eachV f v w) := by
  constructor
  · unfold eachV
    rw [List.pairwise_filterMap]
    refine (actsV_lt v w).imp fun hab x hx y hy => ?_
    split at hx <;> simp at hx
    split at hy <;> simp at hy
    subst hx hy
    exact hab
  · intro d hd
    unfold eachV at hd
    rw [List.mem_filterMap] at hd
    obtain ⟨e, he, hq⟩ := hd
    split at hq <;> simp at hq
    rename_i hpos
    subst hq
    rcases hf.one (getV v e.1) (getV w e.1) with h | h
    · rw [h] at hpos ⊢
      have h1 := getV_range hv e.1
      have h2 := getV_act hv (a := e.1) (by omega)
      unfold mayP; simp only; omega
    · rw [h] at hpos ⊢
      have h1 := getV_range hw e.1
      have h2 := getV_act hw (a := e.1) (by omega)
      unfold mayP; simp only; omega
theorem getV_eachV {f : Int → Int → Int} (hf : Choice f) {v w : List Dot} (hv : isV v) (hw : isV w) (a : Int) : getV (eachV f v w) a = f (getV v a) (getV w a) := by
  have hr1 := getV_range hv a
  have hr2 := getV_range hw a
  have hfr : 0 ≤ f (getV v a) (getV w a) := by rcases hf.one (getV v a) (getV w a) with h | h <;> omega
  by_cases hp : 0 < f (getV v a) (getV w a)
  · have hin : (a, f (getV v a) (getV w a)) ∈ eachV f v w := by
      unfold eachV
      rw [List.mem_filterMap]
      refine ⟨(a, 0), mem_actsV.2 ⟨rfl, ?_⟩, by simp [hp]⟩
      by_cases h1 : getV v a = 0
      · by_cases h2 : getV w a = 0
        · rw [h1, h2, hf.zero] at hp; omega
        · exact ⟨_, .inr (mem_getV h2), rfl⟩
      · exact ⟨_, .inl (mem_getV h1), rfl⟩
    exact getV_mem (eachV_is hf hv hw) hin
  · have h0 : f (getV v a) (getV w a) = 0 := by omega
    rw [h0]
    refine getV_none fun d hd he => ?_
    unfold eachV at hd
    rw [List.mem_filterMap] at hd
    obtain ⟨e, -, hq⟩ := hd
    split at hq <;> simp at hq
    subst hq
    simp only at he
    subst he
    omega
theorem eachV_eq {f : Int → Int → Int} (hf : Choice f) {v w u : List Dot} (hv : isV v) (hw : isV w) (hu : isV u) (h : ∀ a, getV u a = f (getV v a) (getV w a)) : u = eachV f v w :=
  isV_ext hu (eachV_is hf hv hw) fun a => by rw [h, getV_eachV hf hv hw]
abbrev joinV := eachV max
abbrev meetV := eachV min
theorem joinV_is {v w : List Dot} (hv : isV v) (hw : isV w) : isV (joinV v w) := eachV_is choice_max hv hw
theorem meetV_is {v w : List Dot} (hv : isV v) (hw : isV w) : isV (meetV v w) := eachV_is choice_min hv hw
theorem getV_join {v w : List Dot} (hv : isV v) (hw : isV w) (a : Int) : getV (joinV v w) a = max (getV v a) (getV w a) := getV_eachV choice_max hv hw a
theorem getV_meet {v w : List Dot} (hv : isV v) (hw : isV w) (a : Int) : getV (meetV v w) a = min (getV v a) (getV w a) := getV_eachV choice_min hv hw a
theorem isV_one {d : Dot} (h : mayP d) : isV [d] := isV_cons.2 ⟨h, by simp, isV_nil⟩
/-- with an operation -/
def withV (v : List Dot) (d : Dot) : List Dot := if mayP d then joinV v [d] else v
theorem withV_is {v : List Dot} (hv : isV v) (d : Dot) : isV (withV v d) := by
  unfold withV
  split
  · exact joinV_is hv (isV_one (by assumption))
  · exact hv
theorem getV_with {v : List Dot} (hv : isV v) {d : Dot} (hd : mayP d) (a : Int) : getV (withV v d) a = if d.1 = a then max (getV v a) d.2 else getV v a := by
  have hr := getV_range hv a
  rw [withV, if_pos hd, getV_join hv (isV_one hd)]
  simp only [getV]
  split
  · rfl
  · omega
theorem eachV_len (f : Int → Int → Int) (v w : List Dot) : (eachV f v w).length ≤ v.length + w.length := by
  refine Nat.le_trans (List.length_filterMap_le _ _) (Nat.le_trans (risen_len _) ?_)
  simp
theorem withV_len (v : List Dot) (d : Dot) : (withV v d).length ≤ v.length + 1 := by
  unfold withV
  split
  · exact eachV_len _ _ _
  · omega
/-- a vector, made of raw dots -/
def madeV (l : List Dot) : List Dot := (l.take 50).foldl withV []
theorem madeV_is (l : List Dot) : isV (madeV l) := by
  have key : ∀ (l v : List Dot), isV v → isV (l.foldl withV v) := by
    intro l
    induction l with
    | nil => exact fun v h => h
    | cons d l ih => exact fun v h => ih _ (withV_is h d)
  exact key _ _ isV_nil
theorem madeV_len (l : List Dot) : (madeV l).length ≤ 50 := by
  have key : ∀ (l v : List Dot), (l.foldl withV v).length ≤ v.length + l.length := by
    intro l
    induction l with
    | nil => exact fun v => by simp
    | cons d l ih =>
      intro v
      have h1 := ih (withV v d)
      have h2 := withV_len v d
      simp only [List.foldl_cons, List.length_cons]
      omega
  have := key (l.take 50) []
  simp only [List.length_nil, List.length_take] at this
  unfold madeV
  omega
end Go.Osj

/- Contracts of layer 4: vectors looked at. -/
set_option linter.unusedSimpArgs false
namespace Go.Osj
theorem SlT.dotc {S : St} {base : Option Addr} {n cap : Nat} {xs : List Dot} (h : SlT dotE S (.slice base n cap) xs) {i : Nat} (hi : i < xs.length) :
    ∃ b off, base = some ⟨b, off, none⟩ ∧ b < S.n ∧ S.loadN ⟨b, off + i * 2, none⟩ 2 = some [.int .i64 xs[i].1, .int .i64 xs[i].2] ∧ S.cell ⟨b, off + i * 2, none⟩ = some (.int .i64 xs[i].1) ∧ S.cell ⟨b, off + i * 2 + 1, none⟩ = some (.int .i64 xs[i].2) := by
  obtain ⟨b, off, h1, h2, h3, h4⟩ := h.at dotE (i := i) (x := xs[i]) (by simp)
  exact ⟨b, off, h1, h2, h3, h4 0 (by decide), h4 1 (by decide)⟩
/-- a function value of one dot that only looks -/
def FunT (S : St) (f : Value) (xs : List Dot) (p : Dot → Bool) : Prop :=
  ∃ g first captured, f = .func (.func g) first captured ∧ callable PR g = true ∧ ∀ x ∈ xs, J PR g (first.toList ++ [dotV x] ++ captured.toList) S fun v S' => v = .bool (p x) ∧ S = S'
/-- a call of a function value -/
def wcallv (P : Program) (f : Value) (args : List Value) (S : St) [k : KV] : Prop := match f with
  | .func (.func g) first captured => callable P g = true ∧ J P g (first.toList ++ args ++ captured.toList) S k.run
  | _ => False
@[go_sem] theorem wE_callv {P : Program} {fr : Fr} {S : St} {f : Operand} {args : List Operand} [k : KV] : wE P (.callv f args) fr S = wcallv P (ev fr f) (args.map (ev fr)) S := by
  unfold wE wcallv
  simp only [JE]
  cases ev fr f <;> try rfl
theorem FunT.call {S : St} {f : Value} {xs : List Dot} {p : Dot → Bool} (h : FunT S f xs p) {x : Dot} (hx : x ∈ xs) {k : KV} (hk : k.run (.bool (p x)) S) : @wcallv PR f [dotV x] S k := by
  obtain ⟨g, first, captured, rfl, hc, hj⟩ := h
  exact ⟨hc, (hj x hx).mono fun v S' ⟨h1, h2⟩ => by subst h1 h2; exact hk⟩

def idxV (p : Dot → Bool) (xs : List Dot) : Int := match xs.findIdx? p with | some i => i | none => -1
theorem findIdx_none {p : Dot → Bool} {xs : List Dot} (h : ∀ x ∈ xs, p x = false) : xs.findIdx? p = none := by
  rw [List.findIdx?_eq_none_iff]; exact h
theorem findIdx_at {p : Dot → Bool} {xs : List Dot} {i : Nat} (hi : i < xs.length) (h : ∀ x ∈ xs.take i, p x = false) (hp : p xs[i] = true) : xs.findIdx? p = some i := by
  rw [List.findIdx?_eq_some_iff_getElem]
  refine ⟨hi, hp, fun j hj => ?_⟩
  have := h xs[j] (List.mem_take_iff_getElem.2 ⟨j, by omega, rfl⟩)
  simp [this]
theorem F.slices_IndexFunc_J {S : St} {l f : Value} {xs : List Dot} {p : Dot → Bool} (hl : SlT dotE S l xs) (hf : FunT S f xs p) (hL : xs.length < 9223372036854775808) :
    J PR F.slices_IndexFunc_api_Vector_api_Dot [l, f] S fun v S' => v = .int .i64 (idxV p xs) ∧ S = S' := by
  obtain ⟨base, cap, rfl⟩ := hl.len dotE
  refine J_by PR.mixed F.slices_IndexFunc_api_Vector_api_Dot.ok (by simp) ?_
  simp (disch := omega) only [go_sem, ↓reduceIte, Nat.reduceEqDiff, Nat.reduceAdd, Nat.reduceMul, Nat.reduceSub, Nat.reduceLT, Nat.reduceLeDiff, Nat.reduceBEq, reduceCtorEq, Int.reduceLT, Int.reduceEq, Int.reduceLE, Int.reduceAdd, Int.reduceSub, Int.reduceToNat, Int.reduceNeg]
  refine wC_loop (fun n fr S' => ∃ i, n = xs.length - i ∧ i ≤ xs.length ∧ S' = S ∧ fr 0 = .slice base xs.length cap ∧ fr 1 = f ∧ fr 6 = .slice base xs.length cap ∧ fr 7 = .int .i64 xs.length ∧ fr 8 = .int .i64 (i : Nat) ∧ ∀ x ∈ xs.take i, p x = false) xs.length ⟨0, by simp (disch := omega) only [go_sem, ↓reduceIte, Nat.reduceEqDiff, Nat.reduceAdd, Nat.reduceMul, Nat.reduceSub, Nat.reduceLT, Nat.reduceLeDiff, Nat.reduceBEq, reduceCtorEq, Int.reduceLT, Int.reduceEq, Int.reduceLE, Int.reduceAdd, Int.reduceSub, Int.reduceToNat, Int.reduceNeg]; simp⟩ ?_
  rintro n fr S' ⟨i, rfl, hi, rfl, h0, h1, h6, h7, h8, hn⟩
  simp (disch := omega) only [go_sem, ↓reduceIte, Nat.reduceEqDiff, Nat.reduceAdd, Nat.reduceMul, Nat.reduceSub, Nat.reduceLT, Nat.reduceLeDiff, Nat.reduceBEq, reduceCtorEq, Int.reduceLT, Int.reduceEq, Int.reduceLE, Int.reduceAdd, Int.reduceSub, Int.reduceToNat, Int.reduceNeg, F.slices_IndexFunc_api_Vector_api_Dot.l0, h0, h1, h6, h7, h8]
  refine wcond_dec (fun hlt => ?_) (fun hge => ?_)
  · have hlx : i < xs.length := by omega
    obtain ⟨b, off, rfl, hb, hx⟩ := hl.dot hlx
    have c1 : (0 : Int) ≤ (i : Int) ∧ (i : Int) < (xs.length : Int) := by omega
    simp (disch := omega) only [go_sem, ↓reduceIte, Nat.reduceEqDiff, Nat.reduceAdd, Nat.reduceMul, Nat.reduceSub, Nat.reduceLT, Nat.reduceLeDiff, Nat.reduceBEq, reduceCtorEq, Int.reduceLT, Int.reduceEq, Int.reduceLE, Int.reduceAdd, Int.reduceSub, Int.reduceToNat, Int.reduceNeg, h0, h1, h6, h7, h8, c1, hx]
    refine hf.call (x := xs[i]) (List.getElem_mem _) ?_
    simp (disch := omega) only [go_sem, ↓reduceIte, Nat.reduceEqDiff, Nat.reduceAdd, Nat.reduceMul, Nat.reduceSub, Nat.reduceLT, Nat.reduceLeDiff, Nat.reduceBEq, reduceCtorEq, Int.reduceLT, Int.reduceEq, Int.reduceLE, Int.reduceAdd, Int.reduceSub, Int.reduceToNat, Int.reduceNeg]
    refine wcond_of (fun hq => ?_) (fun hq => ?_)
    · simp (disch := omega) only [go_sem, ↓reduceIte, Nat.reduceEqDiff, Nat.reduceAdd, Nat.reduceMul, Nat.reduceSub, Nat.reduceLT, Nat.reduceLeDiff, Nat.reduceBEq, reduceCtorEq, Int.reduceLT, Int.reduceEq, Int.reduceLE, Int.reduceAdd, Int.reduceSub, Int.reduceToNat, Int.reduceNeg, h8]
      rw [idxV, findIdx_at hlx hn hq]
    · simp (disch := omega) only [go_sem, ↓reduceIte, Nat.reduceEqDiff, Nat.reduceAdd, Nat.reduceMul, Nat.reduceSub, Nat.reduceLT, Nat.reduceLeDiff, Nat.reduceBEq, reduceCtorEq, Int.reduceLT, Int.reduceEq, Int.reduceLE, Int.reduceAdd, Int.reduceSub, Int.reduceToNat, Int.reduceNeg, h0, h1, h6, h7, h8]
      refine ⟨xs.length - (i + 1), by omega, i + 1, rfl, by omega, rfl, ?_⟩
      rw [take_snoc (List.getElem?_eq_getElem hlx)]
      intro x hx
      rcases List.mem_append.1 hx with hx | hx
      · exact hn x hx
      · simp at hx; subst hx; exact hq
  · simp (disch := omega) only [go_sem, ↓reduceIte, Nat.reduceEqDiff, Nat.reduceAdd, Nat.reduceMul, Nat.reduceSub, Nat.reduceLT, Nat.reduceLeDiff, Nat.reduceBEq, reduceCtorEq, Int.reduceLT, Int.reduceEq, Int.reduceLE, Int.reduceAdd, Int.reduceSub, Int.reduceToNat, Int.reduceNeg]
    rw [List.take_of_length_le (by omega)] at hn
    rw [idxV, findIdx_none hn]
theorem F.vector_Get_c1_J {S : St} {q : Nat} {d : Dot} {a : Int} (hq : S.cell ⟨q, 0, none⟩ = some (.int .i64 a)) (hqn : q < S.n) : J PR F.vector_Get_c1 [dotV d, .pointer (some ⟨q, 0, none⟩)] S fun v S' => v = .bool (decide (d.1 = a)) ∧ S = S' := by
  refine J.back (J_by PR.mixed F.vector_Get_c1.ok (by simp) ?_)
  simp (disch := omega) only [go_sem, ↓reduceIte, Nat.reduceEqDiff, Nat.reduceAdd, Nat.reduceMul, Nat.reduceSub, Nat.reduceLT, Nat.reduceLeDiff, Nat.reduceBEq, reduceCtorEq, Int.reduceLT, Int.reduceEq, Int.reduceLE, Int.reduceAdd, Int.reduceSub, Int.reduceToNat, Int.reduceNeg]
  refine wfresh_of fun x hx => ?_
  simp (disch := omega) only [go_sem, ↓reduceIte, Nat.reduceEqDiff, Nat.reduceAdd, Nat.reduceMul, Nat.reduceSub, Nat.reduceLT, Nat.reduceLeDiff, Nat.reduceBEq, reduceCtorEq, Int.reduceLT, Int.reduceEq, Int.reduceLE, Int.reduceAdd, Int.reduceSub, Int.reduceToNat, Int.reduceNeg, hq]
  exact (St.Ext.refl S).put hx _
theorem getV_idx (xs : List Dot) (a : Int) : (xs.findIdx? (fun d => decide (d.1 = a)) = none ∧ getV xs a = 0) ∨ ∃ i, ∃ h : i < xs.length, xs.findIdx? (fun d => decide (d.1 = a)) = some i ∧ getV xs a = xs[i].2 := by
  induction xs with
  | nil => exact .inl ⟨rfl, rfl⟩
  | cons d xs ih =>
    by_cases hd : d.1 = a
    · exact .inr ⟨0, by simp, by simp [List.findIdx?_cons, hd], by simp [getV, hd]⟩
    · rcases ih with ⟨h1, h2⟩ | ⟨i, h, h1, h2⟩
      · exact .inl ⟨by simp [List.findIdx?_cons, hd, h1], by simp [getV, hd, h2]⟩
      · exact .inr ⟨i + 1, by simp; omega, by simp [List.findIdx?_cons, hd, h1], by simp [getV, hd, h2]⟩
theorem F.vector_Get_J {S : St} {l : Value} {xs : List Dot} {a : Int} (hl : SlT dotE S l xs) (hL : xs.length < 9223372036854775808) : J PR F.vector_Get [l, .int .i64 a] S fun v S' => v = .int .i64 (getV xs a) ∧ S = S' := by
  obtain ⟨base, cap, rfl⟩ := hl.len dotE
  refine J.back (J_by PR.mixed F.vector_Get.ok (by simp) ?_)
  simp (disch := omega) only [go_sem, ↓reduceIte, Nat.reduceEqDiff, Nat.reduceAdd, Nat.reduceMul, Nat.reduceSub, Nat.reduceLT, Nat.reduceLeDiff, Nat.reduceBEq, reduceCtorEq, Int.reduceLT, Int.reduceEq, Int.reduceLE, Int.reduceAdd, Int.reduceSub, Int.reduceToNat, Int.reduceNeg]
  refine wfresh_of fun x hx => ?_
  simp (disch := omega) only [go_sem, ↓reduceIte, Nat.reduceEqDiff, Nat.reduceAdd, Nat.reduceMul, Nat.reduceSub, Nat.reduceLT, Nat.reduceLeDiff, Nat.reduceBEq, reduceCtorEq, Int.reduceLT, Int.reduceEq, Int.reduceLE, Int.reduceAdd, Int.reduceSub, Int.reduceToNat, Int.reduceNeg]
  have he := (St.Ext.refl S).put hx (.cells true 1 [.int .i64 a])
  refine wJ_of (F.slices_IndexFunc_J (p := fun d => decide (d.1 = a)) (hl.ext dotE he) ⟨_, _, _, rfl, F.vector_Get_c1.cl, fun y _ => F.vector_Get_c1_J (by simp (disch := omega) only [go_sem, ↓reduceIte, Nat.reduceEqDiff, Nat.reduceAdd, Nat.reduceMul, Nat.reduceSub, Nat.reduceLT, Nat.reduceLeDiff, Nat.reduceBEq, reduceCtorEq, Int.reduceLT, Int.reduceEq, Int.reduceLE, Int.reduceAdd, Int.reduceSub, Int.reduceToNat, Int.reduceNeg]) (St.lt_put_self ..)⟩ hL) ?_; rintro _ _ ⟨rfl, rfl⟩
  simp (disch := omega) only [go_sem, ↓reduceIte, Nat.reduceEqDiff, Nat.reduceAdd, Nat.reduceMul, Nat.reduceSub, Nat.reduceLT, Nat.reduceLeDiff, Nat.reduceBEq, reduceCtorEq, Int.reduceLT, Int.reduceEq, Int.reduceLE, Int.reduceAdd, Int.reduceSub, Int.reduceToNat, Int.reduceNeg]
  unfold idxV
  rcases getV_idx xs a with ⟨h1, h2⟩ | ⟨i, h, h1, h2⟩
  · rw [h1, h2]
    simp (disch := omega) only [go_sem, ↓reduceIte, Nat.reduceEqDiff, Nat.reduceAdd, Nat.reduceMul, Nat.reduceSub, Nat.reduceLT, Nat.reduceLeDiff, Nat.reduceBEq, reduceCtorEq, Int.reduceLT, Int.reduceEq, Int.reduceLE, Int.reduceAdd, Int.reduceSub, Int.reduceToNat, Int.reduceNeg]
    exact he
  · rw [h1, h2]
    obtain ⟨b, off, rfl, hb, -, -, hx⟩ := hl.dotc h
    have c1 : (0 : Int) ≤ (i : Int) ∧ (i : Int) < (xs.length : Int) := by omega
    simp (disch := omega) only [go_sem, ↓reduceIte, Nat.reduceEqDiff, Nat.reduceAdd, Nat.reduceMul, Nat.reduceSub, Nat.reduceLT, Nat.reduceLeDiff, Nat.reduceBEq, reduceCtorEq, Int.reduceLT, Int.reduceEq, Int.reduceLE, Int.reduceAdd, Int.reduceSub, Int.reduceToNat, Int.reduceNeg, c1, hx]
    exact he
theorem F.osierref04_Get_J {S : St} {l : Value} {xs : List Dot} {a : Int} (hl : SlT dotE S l xs) (hL : xs.length < 9223372036854775808) : J PR F.osierref04_Get [l, .int .i64 a] S fun v S' => v = .int .i64 (getV xs a) ∧ S = S' := by
  obtain ⟨base, cap, rfl⟩ := hl.len dotE
  refine J_by PR.mixed F.osierref04_Get.ok (by simp) ?_
  simp (disch := omega) only [go_sem, ↓reduceIte, Nat.reduceEqDiff, Nat.reduceAdd, Nat.reduceMul, Nat.reduceSub, Nat.reduceLT, Nat.reduceLeDiff, Nat.reduceBEq, reduceCtorEq, Int.reduceLT, Int.reduceEq, Int.reduceLE, Int.reduceAdd, Int.reduceSub, Int.reduceToNat, Int.reduceNeg]
  refine wC_loop (fun n fr S' => ∃ i, n = xs.length - i ∧ i ≤ xs.length ∧ S' = S ∧ fr 0 = .slice base xs.length cap ∧ fr 1 = .int .i64 a ∧ fr 5 = .int .i64 (i : Nat) ∧ getV xs a = getV (xs.drop i) a) xs.length ⟨0, by simp (disch := omega) only [go_sem, ↓reduceIte, Nat.reduceEqDiff, Nat.reduceAdd, Nat.reduceMul, Nat.reduceSub, Nat.reduceLT, Nat.reduceLeDiff, Nat.reduceBEq, reduceCtorEq, Int.reduceLT, Int.reduceEq, Int.reduceLE, Int.reduceAdd, Int.reduceSub, Int.reduceToNat, Int.reduceNeg]; simp⟩ ?_
  rintro n fr S' ⟨i, rfl, hi, rfl, h0, h1, h5, hn⟩
  simp (disch := omega) only [go_sem, ↓reduceIte, Nat.reduceEqDiff, Nat.reduceAdd, Nat.reduceMul, Nat.reduceSub, Nat.reduceLT, Nat.reduceLeDiff, Nat.reduceBEq, reduceCtorEq, Int.reduceLT, Int.reduceEq, Int.reduceLE, Int.reduceAdd, Int.reduceSub, Int.reduceToNat, Int.reduceNeg, F.osierref04_Get.l0, h0, h1, h5]
  refine wcond_dec (fun hlt => ?_) (fun hge => ?_)
  · have hlx : i < xs.length := by omega
    obtain ⟨b, off, rfl, hb, -, hx, hy⟩ := hl.dotc hlx
    have c1 : (0 : Int) ≤ (i : Int) ∧ (i : Int) < (xs.length : Int) := by omega
    rw [List.drop_eq_getElem_cons hlx] at hn
    simp (disch := omega) only [go_sem, ↓reduceIte, Nat.reduceEqDiff, Nat.reduceAdd, Nat.reduceMul, Nat.reduceSub, Nat.reduceLT, Nat.reduceLeDiff, Nat.reduceBEq, reduceCtorEq, Int.reduceLT, Int.reduceEq, Int.reduceLE, Int.reduceAdd, Int.reduceSub, Int.reduceToNat, Int.reduceNeg, h0, h1, h5, c1, hx]
    refine wcond_dec (fun hq => ?_) (fun hq => ?_)
    · simp (disch := omega) only [go_sem, ↓reduceIte, Nat.reduceEqDiff, Nat.reduceAdd, Nat.reduceMul, Nat.reduceSub, Nat.reduceLT, Nat.reduceLeDiff, Nat.reduceBEq, reduceCtorEq, Int.reduceLT, Int.reduceEq, Int.reduceLE, Int.reduceAdd, Int.reduceSub, Int.reduceToNat, Int.reduceNeg, h0, h1, h5, c1, hy]
      rw [hn, getV, if_pos hq]
    · simp (disch := omega) only [go_sem, ↓reduceIte, Nat.reduceEqDiff, Nat.reduceAdd, Nat.reduceMul, Nat.reduceSub, Nat.reduceLT, Nat.reduceLeDiff, Nat.reduceBEq, reduceCtorEq, Int.reduceLT, Int.reduceEq, Int.reduceLE, Int.reduceAdd, Int.reduceSub, Int.reduceToNat, Int.reduceNeg, h0, h1, h5]
      refine ⟨xs.length - (i + 1), by omega, i + 1, rfl, by omega, rfl, ?_⟩
      rw [hn, getV, if_neg hq]
  · simp (disch := omega) only [go_sem, ↓reduceIte, Nat.reduceEqDiff, Nat.reduceAdd, Nat.reduceMul, Nat.reduceSub, Nat.reduceLT, Nat.reduceLeDiff, Nat.reduceBEq, reduceCtorEq, Int.reduceLT, Int.reduceEq, Int.reduceLE, Int.reduceAdd, Int.reduceSub, Int.reduceToNat, Int.reduceNeg]
    rw [hn, List.drop_eq_nil_of_le (by omega), getV]
theorem F.dots_May_P {S : St} {a : Dot} : J PR F.dots_May [dotV a] S fun v S' => v = .bool (decide (mayP a)) ∧ S = S' := F.dots_May.J.back
theorem F.osierref03_May_P {S : St} {a : Dot} : J PR F.osierref03_May [dotV a] S fun v S' => v = .bool (decide (mayP a)) ∧ S = S' := F.osierref03_May.J.back
theorem F.vector_Has_J {S : St} {l : Value} {xs : List Dot} {d : Dot} (hl : SlT dotE S l xs) (hL : xs.length < 9223372036854775808) : J PR F.vector_Has [l, dotV d] S fun v S' => v = .bool (decide (hasP xs d)) ∧ S = S' := by
  refine J.back (J_by PR.mixed F.vector_Has.ok (by simp) ?_)
  simp (disch := omega) only [go_sem, ↓reduceIte, Nat.reduceEqDiff, Nat.reduceAdd, Nat.reduceMul, Nat.reduceSub, Nat.reduceLT, Nat.reduceLeDiff, Nat.reduceBEq, reduceCtorEq, Int.reduceLT, Int.reduceEq, Int.reduceLE, Int.reduceAdd, Int.reduceSub, Int.reduceToNat, Int.reduceNeg]
  refine wfresh_of fun x hx => ?_
  simp (disch := omega) only [go_sem, ↓reduceIte, Nat.reduceEqDiff, Nat.reduceAdd, Nat.reduceMul, Nat.reduceSub, Nat.reduceLT, Nat.reduceLeDiff, Nat.reduceBEq, reduceCtorEq, Int.reduceLT, Int.reduceEq, Int.reduceLE, Int.reduceAdd, Int.reduceSub, Int.reduceToNat, Int.reduceNeg]
  have he := (St.Ext.refl S).put hx (.cells true 2 [.int .i64 d.1, .int .i64 d.2])
  refine wJ_of F.dots_May_P ?_; rintro _ _ ⟨rfl, rfl⟩
  unfold hasP
  by_cases hm : mayP d
  · simp (disch := omega) only [go_sem, ↓reduceIte, Nat.reduceEqDiff, Nat.reduceAdd, Nat.reduceMul, Nat.reduceSub, Nat.reduceLT, Nat.reduceLeDiff, Nat.reduceBEq, reduceCtorEq, Int.reduceLT, Int.reduceEq, Int.reduceLE, Int.reduceAdd, Int.reduceSub, Int.reduceToNat, Int.reduceNeg, hm]
    refine wJ_of (F.vector_Get_J (hl.ext dotE he) hL) ?_; rintro _ _ ⟨rfl, rfl⟩
    simp (disch := omega) only [go_sem, ↓reduceIte, Nat.reduceEqDiff, Nat.reduceAdd, Nat.reduceMul, Nat.reduceSub, Nat.reduceLT, Nat.reduceLeDiff, Nat.reduceBEq, reduceCtorEq, Int.reduceLT, Int.reduceEq, Int.reduceLE, Int.reduceAdd, Int.reduceSub, Int.reduceToNat, Int.reduceNeg]
    exact ⟨by simp [hm], he⟩
  · simp (disch := omega) only [go_sem, ↓reduceIte, Nat.reduceEqDiff, Nat.reduceAdd, Nat.reduceMul, Nat.reduceSub, Nat.reduceLT, Nat.reduceLeDiff, Nat.reduceBEq, reduceCtorEq, Int.reduceLT, Int.reduceEq, Int.reduceLE, Int.reduceAdd, Int.reduceSub, Int.reduceToNat, Int.reduceNeg, hm, false_and]
    exact he
theorem F.osierref04_Has_J {S : St} {l : Value} {xs : List Dot} {d : Dot} (hl : SlT dotE S l xs) (hL : xs.length < 9223372036854775808) : J PR F.osierref04_Has [l, dotV d] S fun v S' => v = .bool (decide (hasP xs d)) ∧ S = S' := by
  refine J.back (J_by PR.mixed F.osierref04_Has.ok (by simp) ?_)
  simp (disch := omega) only [go_sem, ↓reduceIte, Nat.reduceEqDiff, Nat.reduceAdd, Nat.reduceMul, Nat.reduceSub, Nat.reduceLT, Nat.reduceLeDiff, Nat.reduceBEq, reduceCtorEq, Int.reduceLT, Int.reduceEq, Int.reduceLE, Int.reduceAdd, Int.reduceSub, Int.reduceToNat, Int.reduceNeg]
  refine wfresh_of fun x hx => ?_
  simp (disch := omega) only [go_sem, ↓reduceIte, Nat.reduceEqDiff, Nat.reduceAdd, Nat.reduceMul, Nat.reduceSub, Nat.reduceLT, Nat.reduceLeDiff, Nat.reduceBEq, reduceCtorEq, Int.reduceLT, Int.reduceEq, Int.reduceLE, Int.reduceAdd, Int.reduceSub, Int.reduceToNat, Int.reduceNeg]
  have he := (St.Ext.refl S).put hx (.cells true 2 [.int .i64 d.1, .int .i64 d.2])
  refine wJ_of F.osierref03_May_P ?_; rintro _ _ ⟨rfl, rfl⟩
  unfold hasP
  by_cases hm : mayP d
  · simp (disch := omega) only [go_sem, ↓reduceIte, Nat.reduceEqDiff, Nat.reduceAdd, Nat.reduceMul, Nat.reduceSub, Nat.reduceLT, Nat.reduceLeDiff, Nat.reduceBEq, reduceCtorEq, Int.reduceLT, Int.reduceEq, Int.reduceLE, Int.reduceAdd, Int.reduceSub, Int.reduceToNat, Int.reduceNeg, hm]
    refine wJ_of (F.osierref04_Get_J (hl.ext dotE he) hL) ?_; rintro _ _ ⟨rfl, rfl⟩
    simp (disch := omega) only [go_sem, ↓reduceIte, Nat.reduceEqDiff, Nat.reduceAdd, Nat.reduceMul, Nat.reduceSub, Nat.reduceLT, Nat.reduceLeDiff, Nat.reduceBEq, reduceCtorEq, Int.reduceLT, Int.reduceEq, Int.reduceLE, Int.reduceAdd, Int.reduceSub, Int.reduceToNat, Int.reduceNeg]
    exact ⟨by simp [hm], he⟩
  · simp (disch := omega) only [go_sem, ↓reduceIte, Nat.reduceEqDiff, Nat.reduceAdd, Nat.reduceMul, Nat.reduceSub, Nat.reduceLT, Nat.reduceLeDiff, Nat.reduceBEq, reduceCtorEq, Int.reduceLT, Int.reduceEq, Int.reduceLE, Int.reduceAdd, Int.reduceSub, Int.reduceToNat, Int.reduceNeg, hm, false_and]
    exact he

/-! ### May -/
instance (v : List Dot) : Decidable (isV v) := inferInstanceAs (Decidable (List.Pairwise _ _ ∧ ∀ d ∈ v, _))
theorem isV_snoc {v : List Dot} {x : Dot} : isV (v ++ [x]) ↔ isV v ∧ mayP x ∧ ∀ e ∈ v, e.1 < x.1 := by
  unfold isV
  rw [List.pairwise_append]
  constructor
  · rintro ⟨⟨h1, -, h2⟩, h3⟩
    exact ⟨⟨h1, fun d hd => h3 d (by simp [hd])⟩, h3 x (by simp), fun e he => h2 e he x (by simp)⟩
  · rintro ⟨⟨h1, h2⟩, h3, h4⟩
    refine ⟨⟨h1, by simp, fun e he y hy => by simp at hy; subst hy; exact h4 e he⟩, fun d hd => ?_⟩
    rcases List.mem_append.1 hd with hd | hd
    · exact h2 d hd
    · simp at hd; subst hd; exact h3
theorem isV_take {v : List Dot} (h : isV v) (i : Nat) : isV (v.take i) := ⟨h.1.sublist (List.take_sublist i v), fun d hd => h.2 d (List.mem_of_mem_take hd)⟩
theorem not_isV_at {xs : List Dot} {i : Nat} (hi : i < xs.length) (h : ¬ mayP xs[i] ∨ ∃ e ∈ xs.take i, xs[i].1 ≤ e.1) : ¬ isV xs := by
  intro hv
  have h1 := isV_take hv (i + 1)
  rw [take_snoc (List.getElem?_eq_getElem hi), isV_snoc] at h1
  rcases h with h | ⟨e, he, hle⟩
  · exact h h1.2.1
  · have := h1.2.2 e he
    omega
theorem F.vector_May_J {S : St} {l : Value} {xs : List Dot} (hl : SlT dotE S l xs) (hL : xs.length < 9223372036854775808) : J PR F.vector_May [l] S fun v S' => v = .bool (decide (isV xs)) ∧ S = S' := by
  obtain ⟨base, cap, rfl⟩ := hl.len dotE
  refine J.back (J_by PR.mixed F.vector_May.ok (by simp) ?_)
  simp (disch := omega) only [go_sem, ↓reduceIte, Nat.reduceEqDiff, Nat.reduceAdd, Nat.reduceMul, Nat.reduceSub, Nat.reduceLT, Nat.reduceLeDiff, Nat.reduceBEq, reduceCtorEq, Int.reduceLT, Int.reduceEq, Int.reduceLE, Int.reduceAdd, Int.reduceSub, Int.reduceToNat, Int.reduceNeg]
  refine wC_loop (fun n fr S' => ∃ (i : Nat) (w : Int), n = xs.length - i ∧ i ≤ xs.length ∧ S.Ext S' ∧ fr 6 = .slice base xs.length cap ∧ fr 7 = .int .i64 xs.length ∧ fr 3 = .int .i64 w ∧ fr 8 = .int .i64 (i : Nat) ∧ isV (xs.take i) ∧ (∀ e ∈ xs.take i, e.1 ≤ w) ∧ (w = -1 ∨ ∃ e ∈ xs.take i, e.1 = w)) xs.length ⟨0, -1, by simp (disch := omega) only [go_sem, ↓reduceIte, Nat.reduceEqDiff, Nat.reduceAdd, Nat.reduceMul, Nat.reduceSub, Nat.reduceLT, Nat.reduceLeDiff, Nat.reduceBEq, reduceCtorEq, Int.reduceLT, Int.reduceEq, Int.reduceLE, Int.reduceAdd, Int.reduceSub, Int.reduceToNat, Int.reduceNeg]; exact ⟨by simp, by simp, St.Ext.refl _, by simp [isV_nil]⟩⟩ ?_
  rintro n fr S1 ⟨i, w, rfl, hi, he, h6, h7, h3, h8, hv, hw1, hw2⟩
  simp (disch := omega) only [go_sem, ↓reduceIte, Nat.reduceEqDiff, Nat.reduceAdd, Nat.reduceMul, Nat.reduceSub, Nat.reduceLT, Nat.reduceLeDiff, Nat.reduceBEq, reduceCtorEq, Int.reduceLT, Int.reduceEq, Int.reduceLE, Int.reduceAdd, Int.reduceSub, Int.reduceToNat, Int.reduceNeg, F.vector_May.l0, h6, h7, h3, h8]
  refine wcond_dec (fun hlt => ?_) (fun hge => ?_)
  · have hlx : i < xs.length := by omega
    obtain ⟨b, off, rfl, hb, hx⟩ := (hl.ext dotE he).dot hlx
    have c1 : (0 : Int) ≤ (i : Int) ∧ (i : Int) < (xs.length : Int) := by omega
    simp (disch := omega) only [go_sem, ↓reduceIte, Nat.reduceEqDiff, Nat.reduceAdd, Nat.reduceMul, Nat.reduceSub, Nat.reduceLT, Nat.reduceLeDiff, Nat.reduceBEq, reduceCtorEq, Int.reduceLT, Int.reduceEq, Int.reduceLE, Int.reduceAdd, Int.reduceSub, Int.reduceToNat, Int.reduceNeg, h6, h7, h3, h8, c1, hx]
    refine wfresh_of fun y hy => ?_
    simp (disch := omega) only [go_sem, ↓reduceIte, Nat.reduceEqDiff, Nat.reduceAdd, Nat.reduceMul, Nat.reduceSub, Nat.reduceLT, Nat.reduceLeDiff, Nat.reduceBEq, reduceCtorEq, Int.reduceLT, Int.reduceEq, Int.reduceLE, Int.reduceAdd, Int.reduceSub, Int.reduceToNat, Int.reduceNeg]
    have he2 := he.put hy (.cells true 2 [.int .i64 xs[i].1, .int .i64 xs[i].2])
    refine wJ_of F.dots_May_P ?_; rintro _ _ ⟨rfl, rfl⟩
    by_cases hm : mayP xs[i]
    · simp (disch := omega) only [go_sem, ↓reduceIte, Nat.reduceEqDiff, Nat.reduceAdd, Nat.reduceMul, Nat.reduceSub, Nat.reduceLT, Nat.reduceLeDiff, Nat.reduceBEq, reduceCtorEq, Int.reduceLT, Int.reduceEq, Int.reduceLE, Int.reduceAdd, Int.reduceSub, Int.reduceToNat, Int.reduceNeg, hm, h3]
      refine wcond_dec (fun hq => ?_) (fun hq => ?_)
      · simp (disch := omega) only [go_sem, ↓reduceIte, Nat.reduceEqDiff, Nat.reduceAdd, Nat.reduceMul, Nat.reduceSub, Nat.reduceLT, Nat.reduceLeDiff, Nat.reduceBEq, reduceCtorEq, Int.reduceLT, Int.reduceEq, Int.reduceLE, Int.reduceAdd, Int.reduceSub, Int.reduceToNat, Int.reduceNeg]
        refine ⟨vb_false (not_isV_at hlx ?_), he2⟩
        rcases hw2 with h | ⟨e, h1, h2⟩
        · unfold mayP at hm; omega
        · exact .inr ⟨e, h1, by omega⟩
      · simp (disch := omega) only [go_sem, ↓reduceIte, Nat.reduceEqDiff, Nat.reduceAdd, Nat.reduceMul, Nat.reduceSub, Nat.reduceLT, Nat.reduceLeDiff, Nat.reduceBEq, reduceCtorEq, Int.reduceLT, Int.reduceEq, Int.reduceLE, Int.reduceAdd, Int.reduceSub, Int.reduceToNat, Int.reduceNeg, h6, h7, h3, h8]
        refine ⟨xs.length - (i + 1), by omega, i + 1, _, rfl, by omega, he2, rfl, rfl, ?_⟩
        rw [take_snoc (List.getElem?_eq_getElem hlx), isV_snoc]
        refine ⟨⟨hv, hm, fun e h => ?_⟩, fun e h => ?_, .inr ⟨xs[i], List.mem_append_right _ (List.mem_singleton_self _), rfl⟩⟩
        · have := hw1 e h; omega
        · rcases List.mem_append.1 h with h | h
          · have := hw1 e h; omega
          · simp at h; subst h; exact Int.le_refl _
    · simp (disch := omega) only [go_sem, ↓reduceIte, Nat.reduceEqDiff, Nat.reduceAdd, Nat.reduceMul, Nat.reduceSub, Nat.reduceLT, Nat.reduceLeDiff, Nat.reduceBEq, reduceCtorEq, Int.reduceLT, Int.reduceEq, Int.reduceLE, Int.reduceAdd, Int.reduceSub, Int.reduceToNat, Int.reduceNeg, hm, h3]
      exact ⟨vb_false (not_isV_at hlx (.inl hm)), he2⟩
  · simp (disch := omega) only [go_sem, ↓reduceIte, Nat.reduceEqDiff, Nat.reduceAdd, Nat.reduceMul, Nat.reduceSub, Nat.reduceLT, Nat.reduceLeDiff, Nat.reduceBEq, reduceCtorEq, Int.reduceLT, Int.reduceEq, Int.reduceLE, Int.reduceAdd, Int.reduceSub, Int.reduceToNat, Int.reduceNeg]
    rw [List.take_of_length_le (by omega)] at hv
    exact ⟨vb_true hv, he⟩
theorem F.osierref04_May_J {S : St} {l : Value} {xs : List Dot} (hl : SlT dotE S l xs) (hL : xs.length < 9223372036854775808) : J PR F.osierref04_May [l] S fun v S' => v = .bool (decide (isV xs)) ∧ S = S' := by
  obtain ⟨base, cap, rfl⟩ := hl.len dotE
  refine J_by PR.mixed F.osierref04_May.ok (by simp) ?_
  simp (disch := omega) only [go_sem, ↓reduceIte, Nat.reduceEqDiff, Nat.reduceAdd, Nat.reduceMul, Nat.reduceSub, Nat.reduceLT, Nat.reduceLeDiff, Nat.reduceBEq, reduceCtorEq, Int.reduceLT, Int.reduceEq, Int.reduceLE, Int.reduceAdd, Int.reduceSub, Int.reduceToNat, Int.reduceNeg]
  refine wC_loop (fun n fr S' => ∃ (i : Nat), n = xs.length - i ∧ i ≤ xs.length ∧ S = S' ∧ fr 0 = .slice base xs.length cap ∧ fr 3 = .int .i64 (i : Nat) ∧ isV (xs.take i)) xs.length ⟨0, by simp (disch := omega) only [go_sem, ↓reduceIte, Nat.reduceEqDiff, Nat.reduceAdd, Nat.reduceMul, Nat.reduceSub, Nat.reduceLT, Nat.reduceLeDiff, Nat.reduceBEq, reduceCtorEq, Int.reduceLT, Int.reduceEq, Int.reduceLE, Int.reduceAdd, Int.reduceSub, Int.reduceToNat, Int.reduceNeg]; exact ⟨by simp, by simp, by simp [isV_nil]⟩⟩ ?_
  rintro n fr S1 ⟨i, rfl, hi, rfl, h0, h3, hv⟩
  simp (disch := omega) only [go_sem, ↓reduceIte, Nat.reduceEqDiff, Nat.reduceAdd, Nat.reduceMul, Nat.reduceSub, Nat.reduceLT, Nat.reduceLeDiff, Nat.reduceBEq, reduceCtorEq, Int.reduceLT, Int.reduceEq, Int.reduceLE, Int.reduceAdd, Int.reduceSub, Int.reduceToNat, Int.reduceNeg, F.osierref04_May.l0, h0, h3]
  refine wcond_dec (fun hlt => ?_) (fun hge => ?_)
  · have hlx : i < xs.length := by omega
    obtain ⟨b, off, rfl, hb, hx, hx1, -⟩ := hl.dotc hlx
    have c1 : (0 : Int) ≤ (i : Int) ∧ (i : Int) < (xs.length : Int) := by omega
    simp (disch := omega) only [go_sem, ↓reduceIte, Nat.reduceEqDiff, Nat.reduceAdd, Nat.reduceMul, Nat.reduceSub, Nat.reduceLT, Nat.reduceLeDiff, Nat.reduceBEq, reduceCtorEq, Int.reduceLT, Int.reduceEq, Int.reduceLE, Int.reduceAdd, Int.reduceSub, Int.reduceToNat, Int.reduceNeg, h0, h3, c1, hx]
    refine wJ_of F.osierref03_May_P ?_; rintro _ _ ⟨rfl, rfl⟩
    by_cases hm : mayP xs[i]
    · simp (disch := omega) only [go_sem, ↓reduceIte, Nat.reduceEqDiff, Nat.reduceAdd, Nat.reduceMul, Nat.reduceSub, Nat.reduceLT, Nat.reduceLeDiff, Nat.reduceBEq, reduceCtorEq, Int.reduceLT, Int.reduceEq, Int.reduceLE, Int.reduceAdd, Int.reduceSub, Int.reduceToNat, Int.reduceNeg, hm, h0, h3]
      refine wguard_dec (fun hp => ?_) (fun hp => ?_)
      · obtain ⟨j, rfl⟩ : ∃ j, i = j + 1 := ⟨i - 1, by omega⟩
        have hlj : j < xs.length := by omega
        obtain ⟨b', off', hbb, hb', hx', hx1', -⟩ := hl.dotc hlj
        simp only [Option.some.injEq, Addr.mk.injEq, and_true] at hbb
        obtain ⟨rfl, rfl⟩ := hbb
        have e1 : ((j + 1 : Nat) : Int) - 1 = (j : Int) := by omega
        have c2 : (0 : Int) ≤ (j : Int) ∧ (j : Int) < (xs.length : Int) := by omega
        simp (disch := omega) only [go_sem, ↓reduceIte, Nat.reduceEqDiff, Nat.reduceAdd, Nat.reduceMul, Nat.reduceSub, Nat.reduceLT, Nat.reduceLeDiff, Nat.reduceBEq, reduceCtorEq, Int.reduceLT, Int.reduceEq, Int.reduceLE, Int.reduceAdd, Int.reduceSub, Int.reduceToNat, Int.reduceNeg, h0, h3, hp, c1, e1, c2, hx1, hx1']
        refine wcond_dec (fun hq => ?_) (fun hq => ?_)
        · simp (disch := omega) only [go_sem, ↓reduceIte, Nat.reduceEqDiff, Nat.reduceAdd, Nat.reduceMul, Nat.reduceSub, Nat.reduceLT, Nat.reduceLeDiff, Nat.reduceBEq, reduceCtorEq, Int.reduceLT, Int.reduceEq, Int.reduceLE, Int.reduceAdd, Int.reduceSub, Int.reduceToNat, Int.reduceNeg]
          exact vb_false (not_isV_at hlx (.inr ⟨xs[j], List.mem_take_iff_getElem.2 ⟨j, by omega, rfl⟩, hq⟩))
        · simp (disch := omega) only [go_sem, ↓reduceIte, Nat.reduceEqDiff, Nat.reduceAdd, Nat.reduceMul, Nat.reduceSub, Nat.reduceLT, Nat.reduceLeDiff, Nat.reduceBEq, reduceCtorEq, Int.reduceLT, Int.reduceEq, Int.reduceLE, Int.reduceAdd, Int.reduceSub, Int.reduceToNat, Int.reduceNeg, h0, h3]
          refine ⟨xs.length - (j + 1 + 1), by omega, j + 1 + 1, rfl, by omega, rfl, ?_⟩
          rw [take_snoc (List.getElem?_eq_getElem hlx), isV_snoc]
          refine ⟨hv, hm, fun e h => ?_⟩
          rw [take_snoc (List.getElem?_eq_getElem hlj)] at h hv
          rcases List.mem_append.1 h with h | h
          · have := (isV_snoc.1 hv).2.2 e h; omega
          · simp at h; subst h; omega
      · have hi0 : i = 0 := by omega
        subst hi0
        simp (disch := omega) only [go_sem, ↓reduceIte, Nat.reduceEqDiff, Nat.reduceAdd, Nat.reduceMul, Nat.reduceSub, Nat.reduceLT, Nat.reduceLeDiff, Nat.reduceBEq, reduceCtorEq, Int.reduceLT, Int.reduceEq, Int.reduceLE, Int.reduceAdd, Int.reduceSub, Int.reduceToNat, Int.reduceNeg, h0, h3, hp]
        refine ⟨xs.length - 1, by omega, 1, rfl, by omega, rfl, ?_⟩
        rw [show (1 : Nat) = 0 + 1 from rfl, take_snoc (List.getElem?_eq_getElem hlx), isV_snoc]
        exact ⟨by simp [isV_nil], hm, by simp⟩
    · simp (disch := omega) only [go_sem, ↓reduceIte, Nat.reduceEqDiff, Nat.reduceAdd, Nat.reduceMul, Nat.reduceSub, Nat.reduceLT, Nat.reduceLeDiff, Nat.reduceBEq, reduceCtorEq, Int.reduceLT, Int.reduceEq, Int.reduceLE, Int.reduceAdd, Int.reduceSub, Int.reduceToNat, Int.reduceNeg, hm, undef]
      exact vb_false (not_isV_at hlx (.inl hm))
  · simp (disch := omega) only [go_sem, ↓reduceIte, Nat.reduceEqDiff, Nat.reduceAdd, Nat.reduceMul, Nat.reduceSub, Nat.reduceLT, Nat.reduceLeDiff, Nat.reduceBEq, reduceCtorEq, Int.reduceLT, Int.reduceEq, Int.reduceLE, Int.reduceAdd, Int.reduceSub, Int.reduceToNat, Int.reduceNeg]
    rw [List.take_of_length_le (by omega)] at hv
    exact vb_true hv

/-! ### Count -/
def sumV (xs : List Dot) : Int := (xs.map Prod.snd).sum
theorem sumV_snoc (v : List Dot) (x : Dot) : sumV (v ++ [x]) = sumV v + x.2 := by simp [sumV]
theorem sumV_range {v : List Dot} (h : isV v) : 0 ≤ sumV v ∧ sumV v ≤ v.length * 1073741824 := by
  induction v with
  | nil => simp [sumV]
  | cons d v ih =>
    obtain ⟨h1, -, h3⟩ := isV_cons.1 h
    have := ih h3
    unfold mayP at h1
    have e : sumV (d :: v) = d.2 + sumV v := by simp [sumV]
    rw [e, List.length_cons]
    omega
/-! ### Below, Same -/
theorem F.osierref04_Same_J {S : St} {l k : Value} {xs ys : List Dot} (hl : SlT dotE S l xs) (hk : SlT dotE S k ys) (hL : xs.length < 9223372036854775808) : J PR F.osierref04_Same [l, k] S fun v S' => v = .bool (decide (xs = ys)) ∧ S = S' := by
  obtain ⟨base, cap, rfl⟩ := hl.len dotE
  obtain ⟨base2, cap2, rfl⟩ := hk.len dotE
  refine J_by PR.mixed F.osierref04_Same.ok (by simp) ?_
  simp (disch := omega) only [go_sem, ↓reduceIte, Nat.reduceEqDiff, Nat.reduceAdd, Nat.reduceMul, Nat.reduceSub, Nat.reduceLT, Nat.reduceLeDiff, Nat.reduceBEq, reduceCtorEq, Int.reduceLT, Int.reduceEq, Int.reduceLE, Int.reduceAdd, Int.reduceSub, Int.reduceToNat, Int.reduceNeg]
  refine wcond_ndec (fun h => ?_) (fun h => ?_)
  · simp (disch := omega) only [go_sem, ↓reduceIte, Nat.reduceEqDiff, Nat.reduceAdd, Nat.reduceMul, Nat.reduceSub, Nat.reduceLT, Nat.reduceLeDiff, Nat.reduceBEq, reduceCtorEq, Int.reduceLT, Int.reduceEq, Int.reduceLE, Int.reduceAdd, Int.reduceSub, Int.reduceToNat, Int.reduceNeg]
    exact vb_false (fun e => h (by rw [e]))
  · have hlen : xs.length = ys.length := by omega
    simp (disch := omega) only [go_sem, ↓reduceIte, Nat.reduceEqDiff, Nat.reduceAdd, Nat.reduceMul, Nat.reduceSub, Nat.reduceLT, Nat.reduceLeDiff, Nat.reduceBEq, reduceCtorEq, Int.reduceLT, Int.reduceEq, Int.reduceLE, Int.reduceAdd, Int.reduceSub, Int.reduceToNat, Int.reduceNeg]
    refine wC_loop (fun n fr S' => ∃ i, n = xs.length - i ∧ i ≤ xs.length ∧ S = S' ∧ fr 0 = .slice base xs.length cap ∧ fr 1 = .slice base2 ys.length cap2 ∧ (5 = 13 → fr 11 = .slice base xs.length cap ∧ fr 12 = .int .i64 xs.length) ∧ fr 5 = .int .i64 (i : Nat) ∧ xs.take i = ys.take i) xs.length ⟨0, by simp (disch := omega) only [go_sem, ↓reduceIte, Nat.reduceEqDiff, Nat.reduceAdd, Nat.reduceMul, Nat.reduceSub, Nat.reduceLT, Nat.reduceLeDiff, Nat.reduceBEq, reduceCtorEq, Int.reduceLT, Int.reduceEq, Int.reduceLE, Int.reduceAdd, Int.reduceSub, Int.reduceToNat, Int.reduceNeg]; simp⟩ ?_
    rintro n fr S' ⟨i, rfl, hi, rfl, h0, h1, hh, h5, heq⟩
    simp only [Nat.reduceEqDiff, forall_const, false_implies, reduceCtorEq] at hh
    simp (disch := omega) only [go_sem, ↓reduceIte, Nat.reduceEqDiff, Nat.reduceAdd, Nat.reduceMul, Nat.reduceSub, Nat.reduceLT, Nat.reduceLeDiff, Nat.reduceBEq, reduceCtorEq, Int.reduceLT, Int.reduceEq, Int.reduceLE, Int.reduceAdd, Int.reduceSub, Int.reduceToNat, Int.reduceNeg, F.osierref04_Same.l0, h0, h1, h5, hh]
    refine wcond_dec (fun hlt => ?_) (fun hge => ?_)
    · have hlx : i < xs.length := by omega
      have hly : i < ys.length := by omega
      obtain ⟨b, off, rfl, hb, hx⟩ := hl.dot hlx
      obtain ⟨c, off2, rfl, hc, hy⟩ := hk.dot hly
      have c1 : (0 : Int) ≤ (i : Int) ∧ (i : Int) < (xs.length : Int) := by omega
      have c2 : (i : Int) < (ys.length : Int) := by omega
      simp (disch := omega) only [go_sem, ↓reduceIte, Nat.reduceEqDiff, Nat.reduceAdd, Nat.reduceMul, Nat.reduceSub, Nat.reduceLT, Nat.reduceLeDiff, Nat.reduceBEq, reduceCtorEq, Int.reduceLT, Int.reduceEq, Int.reduceLE, Int.reduceAdd, Int.reduceSub, Int.reduceToNat, Int.reduceNeg, h0, h1, h5, hh, c1, c2, hx, hy, eqV_dot]
      refine wcond_ndec (fun hq => ?_) (fun hq => ?_)
      · simp (disch := omega) only [go_sem, ↓reduceIte, Nat.reduceEqDiff, Nat.reduceAdd, Nat.reduceMul, Nat.reduceSub, Nat.reduceLT, Nat.reduceLeDiff, Nat.reduceBEq, reduceCtorEq, Int.reduceLT, Int.reduceEq, Int.reduceLE, Int.reduceAdd, Int.reduceSub, Int.reduceToNat, Int.reduceNeg]
        exact vb_false (fun e => hq (by subst e; rfl))
      · simp (disch := omega) only [go_sem, ↓reduceIte, Nat.reduceEqDiff, Nat.reduceAdd, Nat.reduceMul, Nat.reduceSub, Nat.reduceLT, Nat.reduceLeDiff, Nat.reduceBEq, reduceCtorEq, Int.reduceLT, Int.reduceEq, Int.reduceLE, Int.reduceAdd, Int.reduceSub, Int.reduceToNat, Int.reduceNeg, h0, h1, h5, hh]
        refine ⟨xs.length - (i + 1), by omega, i + 1, rfl, by omega, rfl, ?_⟩
        rw [take_snoc (List.getElem?_eq_getElem hlx), take_snoc (List.getElem?_eq_getElem hly), heq, hq]
    · simp (disch := omega) only [go_sem, ↓reduceIte, Nat.reduceEqDiff, Nat.reduceAdd, Nat.reduceMul, Nat.reduceSub, Nat.reduceLT, Nat.reduceLeDiff, Nat.reduceBEq, reduceCtorEq, Int.reduceLT, Int.reduceEq, Int.reduceLE, Int.reduceAdd, Int.reduceSub, Int.reduceToNat, Int.reduceNeg]
      rw [List.take_of_length_le (by omega), List.take_of_length_le (by omega)] at heq
      exact vb_true heq
end Go.Osj

/- Contracts of layer 4: vectors made. -/
set_option linter.unusedSimpArgs false
namespace Go.Osj
/-- a function value of two numbers that only counts -/
def FunI (f : Value) (c : Int → Int → Int) : Prop :=
  ∃ g first captured, f = .func (.func g) first captured ∧ callable PR g = true ∧ ∀ S x y, J PR g (first.toList ++ [.int .i64 x, .int .i64 y] ++ captured.toList) S fun v S' => v = .int .i64 (c x y) ∧ S = S'
theorem FunI.call {S : St} {f : Value} {c : Int → Int → Int} (h : FunI f c) {x y : Int} {k : KV} (hk : k.run (.int .i64 (c x y)) S) : @wcallv PR f [.int .i64 x, .int .i64 y] S k := by
  obtain ⟨g, first, captured, rfl, hc, hj⟩ := h
  exact ⟨hc, (hj S x y).mono fun v S' ⟨h1, h2⟩ => by subst h1 h2; exact hk⟩
/-! ### each -/
/-- what is made of the first so many -/
structure EachI (c : Int → Int → Int) (xs ys rs out : List Dot) : Prop where
  is : isV out
  src : ∀ e ∈ out, ∃ d ∈ rs, e.1 = d.1
  val : ∀ e ∈ out, e.2 = c (getV xs e.1) (getV ys e.1)
  all : ∀ d ∈ rs, 0 < c (getV xs d.1) (getV ys d.1) → ∃ e ∈ out, e.1 = d.1
theorem EachI.nil {c : Int → Int → Int} {xs ys : List Dot} : EachI c xs ys [] [] := ⟨isV_nil, by simp, by simp, by simp⟩
theorem choice_may {c : Int → Int → Int} (hc : Choice c) {xs ys : List Dot} (hx : isV xs) (hy : isV ys) {a : Int} (h : 0 < c (getV xs a) (getV ys a)) : mayP (a, c (getV xs a) (getV ys a)) := by
  rcases hc.one (getV xs a) (getV ys a) with h1 | h1
  · rw [h1] at h ⊢
    have h2 := getV_range hx a
    have h3 := getV_act hx (a := a) (by omega)
    unfold mayP; simp only; omega
  · rw [h1] at h ⊢
    have h2 := getV_range hy a
    have h3 := getV_act hy (a := a) (by omega)
    unfold mayP; simp only; omega
theorem EachI.put {c : Int → Int → Int} (hc : Choice c) {xs ys rs out : List Dot} (hx : isV xs) (hy : isV ys) (h : EachI c xs ys rs out) {d : Dot} (hp : 0 < c (getV xs d.1) (getV ys d.1)) (hlt : ∀ e ∈ out, e.1 < d.1) : EachI c xs ys (rs ++ [d]) (out ++ [(d.1, c (getV xs d.1) (getV ys d.1))]) := by
  refine ⟨isV_snoc.2 ⟨h.is, choice_may hc hx hy hp, hlt⟩, fun e he => ?_, fun e he => ?_, fun q hq hpos => ?_⟩
  · rcases List.mem_append.1 he with he | he
    · obtain ⟨q, h1, h2⟩ := h.src e he
      exact ⟨q, by simp [h1], h2⟩
    · simp at he; subst he; exact ⟨d, by simp, rfl⟩
  · rcases List.mem_append.1 he with he | he
    · exact h.val e he
    · simp at he; subst he; rfl
  · rcases List.mem_append.1 hq with hq | hq
    · obtain ⟨e, h1, h2⟩ := h.all q hq hpos
      exact ⟨e, by simp [h1], h2⟩
    · simp at hq; subst hq; exact ⟨_, List.mem_append_right _ (List.mem_singleton_self _), rfl⟩
theorem EachI.skip {c : Int → Int → Int} {xs ys rs out : List Dot} (h : EachI c xs ys rs out) {d : Dot} (hs : 0 < c (getV xs d.1) (getV ys d.1) → ∃ e ∈ out, e.1 = d.1) : EachI c xs ys (rs ++ [d]) out := by
  refine ⟨h.is, fun e he => ?_, h.val, fun q hq hpos => ?_⟩
  · obtain ⟨q, h1, h2⟩ := h.src e he
    exact ⟨q, by simp [h1], h2⟩
  · rcases List.mem_append.1 hq with hq | hq
    · exact h.all q hq hpos
    · simp at hq; subst hq; exact hs hpos
theorem EachI.eq {c : Int → Int → Int} (hc : Choice c) {xs ys rs out : List Dot} (hx : isV xs) (hy : isV ys) (hr : ∀ d, d ∈ xs ++ ys → ∃ r ∈ rs, r.1 = d.1) (h : EachI c xs ys rs out) : out = eachV c xs ys := by
  refine eachV_eq hc hx hy h.is fun a => ?_
  have hr1 := getV_range hx a
  have hr2 := getV_range hy a
  have hfr : 0 ≤ c (getV xs a) (getV ys a) := by rcases hc.one (getV xs a) (getV ys a) with h | h <;> omega
  by_cases hp : 0 < c (getV xs a) (getV ys a)
  · have : ∃ d ∈ rs, d.1 = a := by
      by_cases h1 : getV xs a = 0
      · by_cases h2 : getV ys a = 0
        · rw [h1, h2, hc.zero] at hp; omega
        · exact hr _ (List.mem_append_right _ (mem_getV h2))
      · exact hr _ (List.mem_append_left _ (mem_getV h1))
    obtain ⟨d, hd, rfl⟩ := this
    obtain ⟨e, he, hed⟩ := h.all d hd hp
    rw [← hed, getV_mem h.is he, h.val e he]
  · by_cases h0 : getV out a = 0
    · omega
    · have hm := mem_getV h0
      have h1 := h.val _ hm
      simp only at h1
      have h2 := h.is.2 _ hm
      unfold mayP at h2
      simp only at h2
      omega

theorem isV_last {v : List Dot} (h : isV v) {j : Nat} (hj : j < v.length) (hl : j + 1 = v.length) : ∀ e ∈ v, e.1 ≤ v[j].1 := by
  intro e he
  obtain ⟨k, hk, rfl⟩ := List.mem_iff_getElem.1 he
  by_cases hkj : k = j
  · subst hkj; exact Int.le_refl _
  · have := List.pairwise_iff_getElem.1 h.1 k j hk hj (by omega)
    omega
end Go.Osj

/- Contracts of layer 4: joins, With, Made, Missing. -/
set_option linter.unusedSimpArgs false
namespace Go.Osj
/-! ### the reference's join -/
def intE : Enc Int := ⟨fun a => [.int .i64 a], 1, fun _ => rfl, fun _ => rfl, by decide⟩
theorem SlT.int {S : St} {base : Option Addr} {n cap : Nat} {xs : List Int} (h : SlT intE S (.slice base n cap) xs) {i : Nat} (hi : i < xs.length) :
    ∃ b off, base = some ⟨b, off, none⟩ ∧ b < S.n ∧ S.cell ⟨b, off + i, none⟩ = some (.int .i64 xs[i]) := by
  obtain ⟨b, off, h1, h2, h3, h4⟩ := h.at intE (i := i) (x := xs[i]) (by simp)
  exact ⟨b, off, h1, h2, by simpa [intE] using h4 0 (by decide)⟩
/-- the actors of the first so many of both, rising -/
structure ActsI (xs ys : List Dot) (i k : Nat) (out : List Int) : Prop where
  lt : out.Pairwise (· < ·)
  mem : ∀ a, a ∈ out ↔ (∃ d ∈ xs.take i, d.1 = a) ∨ ∃ d ∈ ys.take k, d.1 = a
  ax : ∀ a ∈ out, ∀ h : i < xs.length, a < xs[i].1
  ay : ∀ a ∈ out, ∀ h : k < ys.length, a < ys[k].1
  len : out.length ≤ i + k
theorem isV_lt {v : List Dot} (h : isV v) {i j : Nat} (hj : j < v.length) (hij : i < j) : (v[i]'(by omega)).1 < v[j].1 := List.pairwise_iff_getElem.1 h.1 i j (by omega) hj hij
theorem pw_snoc {out : List Int} {a : Int} (h : out.Pairwise (· < ·)) (ha : ∀ b ∈ out, b < a) : (out ++ [a]).Pairwise (· < ·) := by
  rw [List.pairwise_append]
  exact ⟨h, by simp, fun b hb c hc => by simp at hc; subst hc; exact ha b hb⟩
theorem ActsI.left {xs ys : List Dot} {i k : Nat} {out : List Int} (hx : isV xs) (h : ActsI xs ys i k out) (hi : i < xs.length) (hlt : ∀ h : k < ys.length, xs[i].1 < ys[k].1) : ActsI xs ys (i + 1) k (out ++ [xs[i].1]) := by
  refine ⟨pw_snoc h.lt fun b hb => h.ax b hb hi, fun a => ?_, fun a ha hi2 => ?_, fun a ha hk => ?_, by have := h.len; simp; omega⟩
  · rw [List.mem_append, h.mem, take_snoc (List.getElem?_eq_getElem hi)]
    simp only [List.mem_append, List.mem_singleton]
    constructor
    · rintro ((⟨d, h1, h2⟩ | h1) | h1)
      · exact .inl ⟨d, .inl h1, h2⟩
      · exact .inr h1
      · exact .inl ⟨xs[i], .inr rfl, h1.symm⟩
    · rintro (⟨d, h1 | h1, h2⟩ | h1)
      · exact .inl (.inl ⟨d, h1, h2⟩)
      · subst h1; exact .inr h2.symm
      · exact .inl (.inr h1)
  · have h1 := isV_lt hx hi2 (Nat.lt_succ_self i)
    rcases List.mem_append.1 ha with ha | ha
    · have := h.ax a ha hi; omega
    · simp at ha; subst ha; exact h1
  · rcases List.mem_append.1 ha with ha | ha
    · exact h.ay a ha hk
    · simp at ha; subst ha; exact hlt hk
theorem ActsI.right {xs ys : List Dot} {i k : Nat} {out : List Int} (hy : isV ys) (h : ActsI xs ys i k out) (hk : k < ys.length) (hlt : ∀ h : i < xs.length, ys[k].1 < xs[i].1) : ActsI xs ys i (k + 1) (out ++ [ys[k].1]) := by
  refine ⟨pw_snoc h.lt fun b hb => h.ay b hb hk, fun a => ?_, fun a ha hi => ?_, fun a ha hk2 => ?_, by have := h.len; simp; omega⟩
  · rw [List.mem_append, h.mem, take_snoc (List.getElem?_eq_getElem hk)]
    simp only [List.mem_append, List.mem_singleton]
    constructor
    · rintro ((h1 | ⟨d, h1, h2⟩) | h1)
      · exact .inl h1
      · exact .inr ⟨d, .inl h1, h2⟩
      · exact .inr ⟨ys[k], .inr rfl, h1.symm⟩
    · rintro (h1 | ⟨d, h1 | h1, h2⟩)
      · exact .inl (.inl h1)
      · exact .inl (.inr ⟨d, h1, h2⟩)
      · subst h1; exact .inr h2.symm
  · rcases List.mem_append.1 ha with ha | ha
    · exact h.ax a ha hi
    · simp at ha; subst ha; exact hlt hi
  · have h1 := isV_lt hy hk2 (Nat.lt_succ_self k)
    rcases List.mem_append.1 ha with ha | ha
    · have := h.ay a ha hk; omega
    · simp at ha; subst ha; exact h1
theorem ActsI.both {xs ys : List Dot} {i k : Nat} {out : List Int} (hx : isV xs) (hy : isV ys) (h : ActsI xs ys i k out) (hi : i < xs.length) (hk : k < ys.length) (heq : xs[i].1 = ys[k].1) : ActsI xs ys (i + 1) (k + 1) (out ++ [xs[i].1]) := by
  refine ⟨pw_snoc h.lt fun b hb => h.ax b hb hi, fun a => ?_, fun a ha hi2 => ?_, fun a ha hk2 => ?_, by have := h.len; simp; omega⟩
  · rw [List.mem_append, h.mem, take_snoc (List.getElem?_eq_getElem hk), take_snoc (List.getElem?_eq_getElem hi)]
    simp only [List.mem_append, List.mem_singleton]
    constructor
    · rintro ((⟨d, h1, h2⟩ | ⟨d, h1, h2⟩) | h1)
      · exact .inl ⟨d, .inl h1, h2⟩
      · exact .inr ⟨d, .inl h1, h2⟩
      · exact .inl ⟨xs[i], .inr rfl, h1.symm⟩
    · rintro (⟨d, h1 | h1, h2⟩ | ⟨d, h1 | h1, h2⟩)
      · exact .inl (.inl ⟨d, h1, h2⟩)
      · subst h1; exact .inr h2.symm
      · exact .inl (.inr ⟨d, h1, h2⟩)
      · subst h1; exact .inr (by omega)
  · have h1 := isV_lt hx hi2 (Nat.lt_succ_self i)
    rcases List.mem_append.1 ha with ha | ha
    · have := h.ax a ha hi; omega
    · simp at ha; subst ha; exact h1
  · have h1 := isV_lt hy hk2 (Nat.lt_succ_self k)
    rcases List.mem_append.1 ha with ha | ha
    · have := h.ay a ha hk; omega
    · simp at ha; subst ha; omega

end Go.Osj

/- Contracts of layer 4: the reference's Join, With, Made; Missing. -/
set_option linter.unusedSimpArgs false
namespace Go.Osj
def chooseV (meet : Bool) : Int → Int → Int := if meet then min else max
theorem chooseV_choice (meet : Bool) : Choice (chooseV meet) := by cases meet <;> simp only [chooseV] <;> first | exact choice_min | exact choice_max
end Go.Osj

/- Contracts of layer 4: Missing. -/
set_option linter.unusedSimpArgs false
namespace Go.Osj
def runV (g : Int) (a : Int) (j : Nat) : List Dot := (List.range j).map fun (q : Nat) => (a, g + 1 + (q : Int))
theorem runV_succ (g a : Int) (j : Nat) : runV g a (j + 1) = runV g a j ++ [(a, g + 1 + (j : Int))] := by simp [runV, List.range_succ]
theorem runV_len (g a : Int) (j : Nat) : (runV g a j).length = j := by simp [runV]
def missV (xs ys : List Dot) : List Dot := xs.flatMap fun d => runV (getV ys d.1) d.1 (d.2 - getV ys d.1).toNat
theorem missV_snoc (v ys : List Dot) (d : Dot) : missV (v ++ [d]) ys = missV v ys ++ runV (getV ys d.1) d.1 (d.2 - getV ys d.1).toNat := by simp [missV]
theorem missV_split (xs ys : List Dot) (i : Nat) : missV xs ys = missV (xs.take i) ys ++ missV (xs.drop i) ys := by
  unfold missV
  rw [← List.flatMap_append, List.take_append_drop]
theorem runV_split (g a : Int) {j n : Nat} (h : j ≤ n) : ∃ r, runV g a n = runV g a j ++ r := by
  obtain ⟨m, rfl⟩ := Nat.le.dest h
  exact ⟨_, by unfold runV; rw [List.range_add, List.map_append]⟩
/-- what there is behind so many -/
theorem miss_prefix {xs ys : List Dot} {i j : Nat} (hi : i < xs.length) (hj : j ≤ (xs[i].2 - getV ys xs[i].1).toNat) : ∃ r, missV xs ys = missV (xs.take i) ys ++ runV (getV ys xs[i].1) xs[i].1 j ++ r := by
  obtain ⟨r, hr⟩ := runV_split (getV ys xs[i].1) xs[i].1 hj
  refine ⟨r ++ missV (xs.drop (i + 1)) ys, ?_⟩
  rw [missV_split xs ys (i + 1), take_snoc (List.getElem?_eq_getElem hi), missV_snoc, hr]
  simp
theorem take_full {α : Type} {A r : List α} {m : Nat} (h : m ≤ A.length) : (A ++ r).take m = A.take m := List.take_append_of_le_length h

end Go.Osj

/- The laws of layer 4 but for the bytes. -/
set_option linter.unusedSimpArgs false
namespace Go.Osj
/-! ### what is missing, put in one by one -/
def updV : List Dot → Dot → List Dot
  | [], d => [d]
  | e :: r, d => if e.1 < d.1 then e :: updV r d else if e.1 = d.1 then d :: r else d :: e :: r
theorem mem_updV {x d : Dot} : ∀ {v : List Dot}, x ∈ updV v d → x = d ∨ x ∈ v
  | [], h => by simp [updV] at h; exact .inl h
  | e :: r, h => by
    unfold updV at h
    split at h
    · rcases List.mem_cons.1 h with h | h
      · exact .inr (by simp [h])
      · exact (mem_updV h).imp id fun h => by simp [h]
    · split at h
      · rcases List.mem_cons.1 h with h | h
        · exact .inl h
        · exact .inr (by simp [h])
      · rcases List.mem_cons.1 h with h | h
        · exact .inl h
        · exact .inr h
theorem updV_is {d : Dot} (hd : mayP d) : ∀ {v : List Dot}, isV v → isV (updV v d)
  | [], _ => isV_one hd
  | e :: r, h => by
    obtain ⟨h1, h2, h3⟩ := isV_cons.1 h
    unfold updV
    split
    · refine isV_cons.2 ⟨h1, fun x hx => ?_, updV_is hd h3⟩
      rcases mem_updV hx with h | h
      · subst h; assumption
      · exact h2 x h
    · split
      · refine isV_cons.2 ⟨hd, fun x hx => ?_, h3⟩
        have := h2 x hx
        omega
      · refine isV_cons.2 ⟨hd, fun x hx => ?_, h⟩
        rcases List.mem_cons.1 hx with h | h
        · subst h; omega
        · have := h2 x h; omega
theorem getV_updV {d : Dot} (a : Int) : ∀ {v : List Dot}, isV v → getV (updV v d) a = if d.1 = a then d.2 else getV v a
  | [], _ => by simp [updV, getV]
  | e :: r, h => by
    obtain ⟨h1, h2, h3⟩ := isV_cons.1 h
    unfold updV
    split
    · simp only [getV]
      rw [getV_updV a h3]
      by_cases he : e.1 = a
      · rw [if_pos he, if_neg (by omega), if_pos he]
      · rw [if_neg he, if_neg he]
    · split
      · simp only [getV]
        by_cases he : d.1 = a
        · rw [if_pos he, if_pos he]
        · rw [if_neg he, if_neg he, if_neg (by omega)]
      · simp only [getV]
theorem sumV_cons (e : Dot) (r : List Dot) : sumV (e :: r) = e.2 + sumV r := by simp [sumV]
theorem sumV_updV {d : Dot} : ∀ {v : List Dot}, isV v → sumV (updV v d) = sumV v + d.2 - getV v d.1
  | [], _ => by simp [updV, sumV, getV]
  | e :: r, h => by
    obtain ⟨h1, h2, h3⟩ := isV_cons.1 h
    unfold updV
    split
    · rw [sumV_cons, sumV_cons, sumV_updV h3, getV, if_neg (by omega)]
      omega
    · split
      · rename_i he
        rw [sumV_cons, sumV_cons, getV, if_pos he]
        omega
      · rw [sumV_cons, getV_none (v := e :: r)]
        · omega
        · intro x hx
          rcases List.mem_cons.1 hx with h | h
          · subst h; assumption
          · have := h2 x h; omega
theorem withV_upd {v : List Dot} (hv : isV v) {d : Dot} (hd : mayP d) (h : getV v d.1 ≤ d.2) : withV v d = updV v d :=
  isV_ext (withV_is hv d) (updV_is hd hv) fun a => by
    rw [getV_with hv hd, getV_updV a hv]
    split
    · rename_i he; subst he; omega
    · rfl
theorem foldV_run {X : List Dot} (hX : isV X) {a g : Int} (ha : 0 ≤ a ∧ a < 16777216) (hg : getV X a = g) : ∀ j : Nat, g + j ≤ 1073741824 →
    isV ((runV g a j).foldl withV X) ∧ (∀ b, getV ((runV g a j).foldl withV X) b = if a = b then g + j else getV X b) ∧ sumV ((runV g a j).foldl withV X) = sumV X + j
  | 0, _ => ⟨hX, fun b => by simp [runV]; intro h; subst h; exact hg, by simp [runV]⟩
  | j + 1, hj => by
    obtain ⟨h1, h2, h3⟩ := foldV_run hX ha hg j (by omega)
    have hr := getV_range hX a
    have hm : mayP (a, g + 1 + (j : Int)) := by unfold mayP; simp only; omega
    rw [runV_succ, List.foldl_append]
    simp only [List.foldl_cons, List.foldl_nil]
    have hga := h2 a
    rw [if_pos rfl] at hga
    rw [withV_upd h1 hm (by simp only; omega)]
    refine ⟨updV_is hm h1, fun b => ?_, ?_⟩
    · rw [getV_updV b h1, h2]
      simp only
      split
      · omega
      · rfl
    · rw [sumV_updV h1, h3]
      simp only
      omega
theorem foldV_miss {W : List Dot} (hW : isV W) : ∀ {V X : List Dot}, isV V → isV X → (∀ d ∈ V, getV X d.1 = getV W d.1) →
    isV ((missV V W).foldl withV X) ∧ (∀ a, getV ((missV V W).foldl withV X) a = if getV V a = 0 then getV X a else max (getV V a) (getV W a)) ∧ sumV ((missV V W).foldl withV X) = sumV X + (missV V W).length
  | [], X, _, hX, _ => ⟨hX, fun a => by simp [missV, getV], by simp [missV]⟩
  | d :: V, X, hV, hX, hg => by
    obtain ⟨h1, h2, h3⟩ := isV_cons.1 hV
    unfold mayP at h1
    have hr := getV_range hW d.1
    have hgd := hg d (by simp)
    obtain ⟨g1, g2, g3⟩ := foldV_run hX (a := d.1) (g := getV W d.1) (by omega) hgd (d.2 - getV W d.1).toNat (by omega)
    have hsp : missV (d :: V) W = runV (getV W d.1) d.1 (d.2 - getV W d.1).toNat ++ missV V W := by simp [missV]
    rw [hsp, List.foldl_append]
    obtain ⟨i1, i2, i3⟩ := foldV_miss hW (V := V) (X := (runV (getV W d.1) d.1 (d.2 - getV W d.1).toNat).foldl withV X) h3 g1 fun e he => by
      rw [g2, if_neg (by have := h2 e he; omega)]
      exact hg e (by simp [he])
    refine ⟨i1, fun a => ?_, ?_⟩
    · rw [i2, g2]
      by_cases ha : d.1 = a
      · subst ha
        have hc : getV (d :: V) d.1 = d.2 := by simp [getV]
        simp only [hc, if_true]
        rw [getV_none (v := V) (fun e he => by have := h2 e he; omega), if_pos rfl, if_neg (by omega)]
        omega
      · have hc : getV (d :: V) a = getV V a := by simp [getV, ha]
        simp only [hc]
        rw [if_neg ha]
    · rw [i3, g3, List.length_append, runV_len]
      omega
theorem missV_join {V W : List Dot} (hV : isV V) (hW : isV W) : (missV V W).foldl withV W = joinV V W ∧ sumV (joinV V W) = sumV W + (missV V W).length := by
  obtain ⟨h1, h2, h3⟩ := foldV_miss hW hV hW fun _ _ => rfl
  have : (missV V W).foldl withV W = joinV V W := isV_ext h1 (joinV_is hV hW) fun a => by
    have hr := getV_range hW a
    rw [h2, getV_join hV hW]
    split <;> omega
  exact ⟨this, by rw [← this]; exact h3⟩
theorem mem_missV {V W : List Dot} (hV : isV V) (hW : isV W) {m : Dot} (h : m ∈ missV V W) : hasP V m ∧ ¬ hasP W m := by
  unfold missV runV at h
  obtain ⟨d, hd, h⟩ := List.mem_flatMap.1 h
  obtain ⟨q, hq, rfl⟩ := List.mem_map.1 h
  rw [List.mem_range] at hq
  have hr := getV_range hW d.1
  rw [hasP_iff hV, hasP_iff hW]
  simp only
  rw [getV_mem hV hd]
  omega
theorem missV_less {W : List Dot} : ∀ {V : List Dot}, isV V → (missV V W).Pairwise lessP
  | [], _ => by simp [missV]
  | d :: V, h => by
    obtain ⟨h1, h2, h3⟩ := isV_cons.1 h
    have hsp : missV (d :: V) W = runV (getV W d.1) d.1 (d.2 - getV W d.1).toNat ++ missV V W := by simp [missV]
    rw [hsp, List.pairwise_append]
    refine ⟨?_, missV_less h3, fun a ha b hb => ?_⟩
    · unfold runV
      rw [List.pairwise_map]
      refine List.pairwise_lt_range.imp fun hab => .inr ⟨rfl, ?_⟩
      simp only
      omega
    · unfold runV at ha
      obtain ⟨q, hq, rfl⟩ := List.mem_map.1 ha
      unfold missV runV at hb
      obtain ⟨e, he, hb⟩ := List.mem_flatMap.1 hb
      obtain ⟨q2, hq2, rfl⟩ := List.mem_map.1 hb
      have := h2 e he
      unfold lessP
      simp only
      omega
theorem foldV_len : ∀ (l v : List Dot), (l.foldl withV v).length ≤ v.length + l.length
  | [], v => by simp
  | d :: l, v => by
    have h1 := foldV_len l (withV v d)
    have h2 := withV_len v d
    simp only [List.foldl_cons, List.length_cons]
    omega
theorem foldV_is : ∀ (l v : List Dot), isV v → isV (l.foldl withV v)
  | [], _, h => h
  | d :: l, v, h => foldV_is l (withV v d) (withV_is h d)
end Go.Osj
