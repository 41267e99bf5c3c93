/- Plain facts about sorting that keeps the order of equals: by blocks, put in, and merged where they lie. -/
namespace Go.Osj.Stab
variable {α : Type}
/-- what comparing tells ('lt'), and what came ahead ('R') -/
def TO (lt R : α → α → Prop) (a b : α) : Prop := lt a b ∨ (¬ lt b a ∧ R a b)
structure SW (lt R : α → α → Prop) : Prop where
  neg : ∀ a b c, lt a b → lt a c ∨ lt c b
  trans : ∀ a b c, lt a b → lt b c → lt a c
  rt : ∀ a b c, R a b → R b c → R a c
variable {lt R : α → α → Prop}
theorem TO.trans (h : SW lt R) {a b c : α} (x : TO lt R a b) (y : TO lt R b c) : TO lt R a c := by
  rcases x with x | ⟨x1, x2⟩
  · rcases y with y | ⟨y1, y2⟩
    · exact .inl (h.trans _ _ _ x y)
    · rcases h.neg _ _ c x with z | z
      · exact .inl z
      · exact absurd z y1
  · rcases y with y | ⟨y1, y2⟩
    · rcases h.neg _ _ a y with z | z
      · exact absurd z x1
      · exact .inl z
    · by_cases hca : lt c a
      · rcases h.neg _ _ b hca with z | z
        · exact absurd z y1
        · exact absurd z x1
      · exact .inr ⟨hca, h.rt _ _ _ x2 y2⟩
abbrev Sd (lt R : α → α → Prop) (l : List α) : Prop := l.Pairwise (TO lt R)
theorem sd_split (h : SW lt R) {L1 L2 R1 R2 Z1 Z2 : List α} (hl : Sd lt R (L1 ++ L2)) (hr : Sd lt R (R1 ++ R2))
    (h1 : ∀ x ∈ L1.getLast?, ∀ y ∈ R2.head?, TO lt R x y) (h2 : ∀ y ∈ R1.getLast?, ∀ x ∈ L2.head?, TO lt R y x)
    (p1 : Z1.Perm (L1 ++ R1)) (s1 : Sd lt R Z1) (p2 : Z2.Perm (L2 ++ R2)) (s2 : Sd lt R Z2) : Sd lt R (Z1 ++ Z2) := by
  have hl' := List.pairwise_append.1 hl
  have hr' := List.pairwise_append.1 hr
  have cross : ∀ {A B A' B' : List α}, Sd lt R A → Sd lt R B' → (∀ x ∈ A.getLast?, ∀ y ∈ B'.head?, TO lt R x y) → ∀ a ∈ A, ∀ b ∈ B', TO lt R a b := by
    intro A B A' B' hA hB' hlast a ha b hb
    obtain ⟨A0, z, rfl⟩ : ∃ A0 z, A = A0 ++ [z] := ⟨A.dropLast, A.getLast (List.ne_nil_of_mem ha), (List.dropLast_concat_getLast _).symm⟩
    cases B' with
    | nil => simp at hb
    | cons y B0 =>
      have hzy := hlast z (by simp) y (by simp)
      have haz : a = z ∨ TO lt R a z := by
        rcases List.mem_append.1 ha with ha | ha
        · exact .inr ((List.pairwise_append.1 hA).2.2 a ha z (by simp))
        · exact .inl (by simpa using ha)
      have hyb : y = b ∨ TO lt R y b := by
        rcases List.mem_cons.1 hb with hb | hb
        · exact .inl hb.symm
        · exact .inr ((List.pairwise_cons.1 hB').1 b hb)
      have hay : TO lt R a y := by
        rcases haz with rfl | haz
        · exact hzy
        · exact haz.trans h hzy
      rcases hyb with rfl | hyb
      · exact hay
      · exact hay.trans h hyb
  refine List.pairwise_append.2 ⟨s1, s2, fun a ha b hb => ?_⟩
  rw [p1.mem_iff, List.mem_append] at ha
  rw [p2.mem_iff, List.mem_append] at hb
  rcases ha with ha | ha <;> rcases hb with hb | hb
  · exact hl'.2.2 a ha b hb
  · exact cross (B := []) (A' := []) hl'.1 hr'.2.1 h1 a ha b hb
  · exact cross (B := []) (A' := []) hr'.1 hl'.2.1 h2 a ha b hb
  · exact hr'.2.2 a ha b hb
/-- one put into a sorted row -/
theorem sd_insert (h : SW lt R) {L1 L2 : List α} {y : α} (hl : Sd lt R (L1 ++ L2)) (h1 : ∀ x ∈ L1.getLast?, TO lt R x y) (h2 : ∀ x ∈ L2.head?, TO lt R y x) : Sd lt R (L1 ++ y :: L2) := by
  have hl' := List.pairwise_append.1 hl
  have hL1 : ∀ a ∈ L1, TO lt R a y := by
    intro a ha
    obtain ⟨A0, z, rfl⟩ : ∃ A0 z, L1 = A0 ++ [z] := ⟨L1.dropLast, L1.getLast (List.ne_nil_of_mem ha), (List.dropLast_concat_getLast _).symm⟩
    have hz := h1 z (by simp)
    rcases List.mem_append.1 ha with ha | ha
    · exact ((List.pairwise_append.1 hl'.1).2.2 a ha z (by simp)).trans h hz
    · obtain rfl : a = z := by simpa using ha
      exact hz
  have hL2 : ∀ b ∈ L2, TO lt R y b := by
    intro b hb
    cases L2 with
    | nil => simp at hb
    | cons z L0 =>
      have hz := h2 z (by simp)
      rcases List.mem_cons.1 hb with rfl | hb
      · exact hz
      · exact hz.trans h ((List.pairwise_cons.1 hl'.2.1).1 b hb)
  refine List.pairwise_append.2 ⟨hl'.1, List.pairwise_cons.2 ⟨hL2, hl'.2.1⟩, fun a ha b hb => ?_⟩
  rcases List.mem_cons.1 hb with rfl | hb
  · exact hL1 a ha
  · exact hl'.2.2 a ha b hb
/-- blocks of at most n, each sorted -/
inductive Ch (lt R : α → α → Prop) (n : Nat) : List α → List α → Prop where
  | last {Z X : List α} : X.length ≤ n → Z.Perm X → Sd lt R Z → Ch lt R n Z X
  | cons {Z X Zs Xs : List α} : X.length = n → Z.Perm X → Sd lt R Z → Ch lt R n Zs Xs → Ch lt R n (Z ++ Zs) (X ++ Xs)
theorem Ch.perm {n : Nat} {Z X : List α} (h : Ch lt R n Z X) : Z.Perm X := by
  induction h with
  | last _ h _ => exact h
  | cons _ h _ _ ih => exact h.append ih
/-- the first block -/
theorem Ch.first {n : Nat} {Z X : List α} (h : Ch lt R n Z X) (hn : n ≤ Z.length) : ∃ Z1 X1 Z2 X2, Z = Z1 ++ Z2 ∧ X = X1 ++ X2 ∧ X1.length = n ∧ Z1.Perm X1 ∧ Sd lt R Z1 ∧ Ch lt R n Z2 X2 := by
  cases h with
  | last h1 h2 h3 => exact ⟨Z, X, [], [], by simp, by simp, by have := h2.length_eq; omega, h2, h3, .last (by simp) (List.Perm.refl _) List.Pairwise.nil⟩
  | cons h1 h2 h3 h4 => exact ⟨_, _, _, _, rfl, rfl, h1, h2, h3, h4⟩
theorem Ch.only {n : Nat} {Z X : List α} (h : Ch lt R n Z X) (hn : Z.length ≤ n) : Z.Perm X ∧ Sd lt R Z := by
  cases h with
  | last h1 h2 h3 => exact ⟨h2, h3⟩
  | cons h1 h2 h3 h4 =>
    rename_i Z1 X1 Zs Xs
    have e1 := h2.length_eq
    simp only [List.length_append] at hn
    obtain rfl : Zs = [] := List.eq_nil_of_length_eq_zero (by omega)
    obtain rfl : Xs = [] := h4.perm.symm.eq_nil
    simpa using ⟨h2, h3⟩
/-- two swapped -/
theorem swap_mid {P Q R : List α} {x y : α} {i j : Nat} (hi : P.length = i) (hj : i + 1 + Q.length = j) :
    (P ++ x :: (Q ++ y :: R))[i]? = some x ∧ (P ++ x :: (Q ++ y :: R))[j]? = some y ∧ ((P ++ x :: (Q ++ y :: R)).set i y).set j x = P ++ y :: (Q ++ x :: R) := by
  subst hi hj
  refine ⟨by simp, ?_, ?_⟩
  · rw [List.getElem?_append_right (by omega), show P.length + 1 + Q.length - P.length = Q.length + 1 by omega]
    simp
  · rw [List.set_append_right _ _ (Nat.le_refl _), Nat.sub_self, List.set_cons_zero, List.set_append_right _ _ (by omega), show P.length + 1 + Q.length - P.length = Q.length + 1 by omega, List.set_cons_succ, List.set_append_right _ _ (Nat.le_refl _), Nat.sub_self, List.set_cons_zero]
theorem swap_adj {P R : List α} {x y : α} {i : Nat} (hi : P.length = i) :
    (P ++ x :: y :: R)[i]? = some x ∧ (P ++ x :: y :: R)[i + 1]? = some y ∧ ((P ++ x :: y :: R).set i y).set (i + 1) x = P ++ y :: x :: R ∧ ((P ++ x :: y :: R).set (i + 1) x).set i y = P ++ y :: x :: R := by
  obtain ⟨h1, h2, h3⟩ := swap_mid (P := P) (Q := []) (R := R) (x := x) (y := y) (i := i) (j := i + 1) hi (by simp)
  refine ⟨h1, h2, h3, ?_⟩
  rw [List.set_comm _ _ (by omega)]
  exact h3
theorem get_at {P R : List α} {x : α} {i : Nat} (hi : P.length = i) : (P ++ x :: R)[i]? = some x := by
  subst hi
  simp
end Go.Osj.Stab
