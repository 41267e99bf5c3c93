/- Plain facts about rows of dots. -/
import Derived.Test.YtdabompehgancaaS
set_option linter.unusedSimpArgs false
set_option linter.unusedVariables false
namespace Go.Osj

theorem lessP_irrefl (a : Dot) : ¬ lessP a a := by unfold lessP; omega
theorem lessP_trans {a b c : Dot} (h1 : lessP a b) (h2 : lessP b c) : lessP a c := by unfold lessP at *; omega
theorem lessP_total {a b : Dot} (h1 : ¬ lessP a b) (h2 : ¬ lessP b a) : a = b := by
  unfold lessP at *
  apply Prod.ext <;> omega
theorem lessP_asymm {a b : Dot} (h1 : lessP a b) : ¬ lessP b a := by unfold lessP at *; omega

/-- in order, and just these -/
def Ris (xs ys : List Dot) : Prop := ys.Pairwise lessP ∧ ∀ d, d ∈ ys ↔ d ∈ xs

theorem sorted_unique : ∀ {ys zs : List Dot}, ys.Pairwise lessP → zs.Pairwise lessP → (∀ d, d ∈ ys ↔ d ∈ zs) → ys = zs
  | [], [], _, _, _ => rfl
  | [], z :: zs, _, _, h => by have := (h z).2 (by simp); simp at this
  | y :: ys, [], _, _, h => by have := (h y).1 (by simp); simp at this
  | y :: ys, z :: zs, hy, hz, h => by
    rw [List.pairwise_cons] at hy hz
    have hyz : y = z := by
      rcases List.mem_cons.1 ((h y).1 (by simp)) with h1 | h1
      · exact h1
      · rcases List.mem_cons.1 ((h z).2 (by simp)) with h2 | h2
        · exact h2.symm
        · exact absurd (hz.1 y h1) (lessP_asymm (hy.1 z h2))
    subst hyz
    congr 1
    refine sorted_unique hy.2 hz.2 fun d => ?_
    constructor
    · intro hd
      rcases List.mem_cons.1 ((h d).1 (by simp [hd])) with h1 | h1
      · subst h1; exact absurd (hy.1 d hd) (lessP_irrefl d)
      · exact h1
    · intro hd
      rcases List.mem_cons.1 ((h d).2 (by simp [hd])) with h1 | h1
      · subst h1; exact absurd (hz.1 d hd) (lessP_irrefl d)
      · exact h1

/-- put in where it belongs -/
def put1 (d : Dot) : List Dot → List Dot
  | [] => [d]
  | x :: r => if lessP x d then x :: put1 d r else if x = d then x :: r else d :: x :: r
theorem mem_put1 (d e : Dot) : ∀ l : List Dot, e ∈ put1 d l ↔ e = d ∨ e ∈ l
  | [] => by simp [put1]
  | x :: r => by
    unfold put1
    split
    · rw [List.mem_cons, mem_put1 d e r, List.mem_cons]
      constructor
      · rintro (h | h | h)
        · exact .inr (.inl h)
        · exact .inl h
        · exact .inr (.inr h)
      · rintro (h | h | h)
        · exact .inr (.inl h)
        · exact .inl h
        · exact .inr (.inr h)
    · split
      · rename_i h; subst h; simp
      · simp
theorem put1_sorted (d : Dot) : ∀ {l : List Dot}, l.Pairwise lessP → (put1 d l).Pairwise lessP
  | [], _ => by simp [put1]
  | x :: r, h => by
    rw [List.pairwise_cons] at h
    unfold put1
    split
    · rename_i hx
      rw [List.pairwise_cons]
      refine ⟨fun e he => ?_, put1_sorted d h.2⟩
      rcases (mem_put1 d e r).1 he with h1 | h1
      · subst h1; exact hx
      · exact h.1 e h1
    · rename_i hx
      split
      · rw [List.pairwise_cons]; exact h
      · rename_i hne
        have hdx : lessP d x := by
          by_cases hq : lessP d x
          · exact hq
          · exact absurd (lessP_total hx hq) hne
        rw [List.pairwise_cons, List.pairwise_cons]
        refine ⟨fun e he => ?_, h⟩
        rcases List.mem_cons.1 he with h1 | h1
        · subst h1; exact hdx
        · exact lessP_trans hdx (h.1 e h1)
def risen (xs : List Dot) : List Dot := xs.foldl (fun out d => put1 d out) []
theorem risen_ris (xs : List Dot) : Ris xs (risen xs) := by
  have key : ∀ (xs out : List Dot), out.Pairwise lessP → (xs.foldl (fun out d => put1 d out) out).Pairwise lessP ∧ ∀ d, d ∈ xs.foldl (fun out d => put1 d out) out ↔ d ∈ xs ∨ d ∈ out := by
    intro xs
    induction xs with
    | nil => intro out h; exact ⟨h, by simp⟩
    | cons x xs ih =>
      intro out h
      obtain ⟨h1, h2⟩ := ih (put1 x out) (put1_sorted x h)
      refine ⟨h1, fun d => ?_⟩
      rw [List.foldl_cons, h2, mem_put1, List.mem_cons]
      constructor
      · rintro (h | h | h)
        · exact .inl (.inr h)
        · exact .inl (.inl h)
        · exact .inr h
      · rintro ((h | h) | h)
        · exact .inr (.inl h)
        · exact .inl h
        · exact .inr (.inr h)
  obtain ⟨h1, h2⟩ := key xs [] (by simp)
  exact ⟨h1, fun d => by rw [risen, h2]; simp⟩
theorem Ris.eq {xs ys : List Dot} (h : Ris xs ys) : ys = risen xs :=
  sorted_unique h.1 (risen_ris xs).1 fun d => (h.2 d).trans ((risen_ris xs).2 d).symm
theorem risen_congr {xs ys : List Dot} (h : ∀ d, d ∈ xs ↔ d ∈ ys) : risen xs = risen ys :=
  Ris.eq (xs := ys) ⟨(risen_ris xs).1, fun d => ((risen_ris xs).2 d).trans (h d)⟩

def setOf (xs : List Dot) : List (Dot × Bool) := xs.foldl (fun m d => aset d true m) []
theorem setOf_keys (xs : List Dot) : ((setOf xs).map Prod.fst).Nodup ∧ ∀ d, d ∈ (setOf xs).map Prod.fst ↔ d ∈ xs := by
  have key : ∀ (xs : List Dot) (m : List (Dot × Bool)), (m.map Prod.fst).Nodup → ((xs.foldl (fun m d => aset d true m) m).map Prod.fst).Nodup ∧
      ∀ d, d ∈ (xs.foldl (fun m d => aset d true m) m).map Prod.fst ↔ d ∈ xs ∨ d ∈ m.map Prod.fst := by
    intro xs
    induction xs with
    | nil => intro m h; exact ⟨h, by simp⟩
    | cons x xs ih =>
      intro m h
      obtain ⟨g1, g2⟩ := aset_keys (k := x) (v := true) h
      obtain ⟨h1, h2⟩ := ih (aset x true m) g1
      refine ⟨h1, fun d => ?_⟩
      rw [List.foldl_cons, h2, g2, List.mem_cons]
      constructor
      · rintro (h | h | h)
        · exact .inl (.inr h)
        · exact .inl (.inl h)
        · exact .inr h
      · rintro ((h | h) | h)
        · exact .inr (.inl h)
        · exact .inl h
        · exact .inr (.inr h)
  obtain ⟨h1, h2⟩ := key xs [] (by simp)
  exact ⟨h1, fun d => by rw [setOf, h2]; simp⟩

theorem sort_strict {ys keys : List Dot} (hp : ys.Perm keys) (hn : keys.Nodup) (hs : ys.Pairwise fun x y => ¬ lessP y x) : ys.Pairwise lessP := by
  have hy : ys.Nodup := hp.nodup_iff.2 hn
  refine (List.Pairwise.and hs hy).imp fun {x y} h => ?_
  by_cases hq : lessP x y
  · exact hq
  · exact absurd (lessP_total hq h.1) h.2
theorem row_risen {xs ys : List Dot} (hp : ys.Perm ((setOf xs).map Prod.fst)) (hs : ys.Pairwise fun x y => ¬ lessP y x) : ys = risen xs :=
  Ris.eq ⟨sort_strict hp (setOf_keys xs).1 hs, fun d => hp.mem_iff.trans ((setOf_keys xs).2 d)⟩
theorem setOf_len (xs : List Dot) : (setOf xs).length ≤ xs.length := by
  have h := (setOf_keys xs).1.length_le_of_subset fun d hd => ((setOf_keys xs).2 d).1 hd
  simpa using h
theorem risen_len (xs : List Dot) : (risen xs).length ≤ xs.length := by
  have hn : (risen xs).Nodup := (risen_ris xs).1.imp fun {a b} h e => by subst e; exact lessP_irrefl a h
  exact hn.length_le_of_subset fun d hd => ((risen_ris xs).2 d).1 hd
end Go.Osj
