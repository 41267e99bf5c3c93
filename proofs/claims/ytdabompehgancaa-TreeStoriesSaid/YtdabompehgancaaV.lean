/- Plain facts about version vectors. -/
import Derived.Test.YtdabompehgancaaH
set_option linter.unusedSimpArgs false
set_option linter.unusedVariables false
namespace Go.Osj

def getV : List Dot → Int → Int
  | [], _ => 0
  | d :: r, a => if d.1 = a then d.2 else getV r a
/-- what may be a vector -/
def isV (v : List Dot) : Prop := v.Pairwise (fun a b => a.1 < b.1) ∧ ∀ d ∈ v, mayP d
def hasP (v : List Dot) (d : Dot) : Prop := mayP d ∧ d.2 ≤ getV v d.1
instance (v : List Dot) (d : Dot) : Decidable (hasP v d) := inferInstanceAs (Decidable (_ ∧ _))
def belowP (v w : List Dot) : Prop := ∀ d ∈ v, d.2 ≤ getV w d.1
instance (v w : List Dot) : Decidable (belowP v w) := inferInstanceAs (Decidable (∀ d ∈ v, _))

theorem isV_nil : isV [] := ⟨List.Pairwise.nil, by simp⟩
theorem isV_cons {d : Dot} {v : List Dot} : isV (d :: v) ↔ mayP d ∧ (∀ e ∈ v, d.1 < e.1) ∧ isV v := by
  unfold isV
  rw [List.pairwise_cons]
  constructor
  · rintro ⟨⟨h1, h2⟩, h3⟩
    exact ⟨h3 d (by simp), h1, h2, fun e he => h3 e (by simp [he])⟩
  · rintro ⟨h1, h2, h3, h4⟩
    refine ⟨⟨h2, h3⟩, fun e he => ?_⟩
    rcases List.mem_cons.1 he with h | h
    · subst h; exact h1
    · exact h4 e h
theorem getV_none {v : List Dot} {a : Int} (h : ∀ d ∈ v, d.1 ≠ a) : getV v a = 0 := by
  induction v with
  | nil => rfl
  | cons d v ih =>
    rw [getV, if_neg (h d (by simp))]
    exact ih fun e he => h e (by simp [he])
theorem getV_mem {v : List Dot} (h : isV v) {d : Dot} (hd : d ∈ v) : getV v d.1 = d.2 := by
  induction v with
  | nil => simp at hd
  | cons e v ih =>
    obtain ⟨h1, h2, h3⟩ := isV_cons.1 h
    unfold getV
    rcases List.mem_cons.1 hd with hq | hq
    · subst hq; rw [if_pos rfl]
    · rw [if_neg (by have := h2 d hq; omega)]
      exact ih h3 hq
theorem mem_getV {v : List Dot} {a : Int} (h : getV v a ≠ 0) : (a, getV v a) ∈ v := by
  induction v with
  | nil => exact absurd rfl h
  | cons e v ih =>
    unfold getV at h ⊢
    split
    · rename_i hq; subst hq; simp
    · rename_i hq
      rw [if_neg hq] at h
      exact List.mem_cons_of_mem _ (ih h)
theorem getV_range {v : List Dot} (h : isV v) (a : Int) : 0 ≤ getV v a ∧ getV v a ≤ 1073741824 := by
  by_cases h0 : getV v a = 0
  · omega
  · have := h.2 _ (mem_getV h0)
    unfold mayP at this
    simp only at this
    omega
theorem getV_act {v : List Dot} (h : isV v) {a : Int} (h0 : getV v a ≠ 0) : 0 ≤ a ∧ a < 16777216 := by
  have := h.2 _ (mem_getV h0)
  unfold mayP at this
  simp only at this
  omega
theorem isV_mem {v : List Dot} (h : isV v) (d : Dot) : d ∈ v ↔ getV v d.1 = d.2 ∧ d.2 ≠ 0 := by
  constructor
  · intro hd
    refine ⟨getV_mem h hd, ?_⟩
    have := h.2 d hd
    unfold mayP at this
    omega
  · rintro ⟨h1, h2⟩
    have := mem_getV (v := v) (a := d.1) (by omega)
    rw [h1] at this
    exact this
theorem isV_less {v : List Dot} (h : isV v) : v.Pairwise lessP := h.1.imp fun {a b} hab => .inl hab
theorem isV_ext {v w : List Dot} (hv : isV v) (hw : isV w) (h : ∀ a, getV v a = getV w a) : v = w :=
  sorted_unique (isV_less hv) (isV_less hw) fun d => by rw [isV_mem hv, isV_mem hw, h]
theorem hasP_iff {v : List Dot} (h : isV v) {d : Dot} : hasP v d ↔ 1 ≤ d.2 ∧ d.2 ≤ getV v d.1 := by
  unfold hasP
  constructor
  · rintro ⟨h1, h2⟩
    unfold mayP at h1
    omega
  · rintro ⟨h1, h2⟩
    refine ⟨?_, h2⟩
    have h3 := getV_act h (a := d.1) (by omega)
    have h4 := getV_range h d.1
    unfold mayP
    omega
theorem belowP_iff {v w : List Dot} (hv : isV v) (hw : isV w) : belowP v w ↔ ∀ a, getV v a ≤ getV w a := by
  constructor
  · intro h a
    by_cases h0 : getV v a = 0
    · have := getV_range hw a
      omega
    · exact h _ (mem_getV h0)
  · intro h d hd
    have := h d.1
    rw [getV_mem hv hd] at this
    exact this

/-! ### what a choice makes of two -/
def actsV (v w : List Dot) : List Dot := risen ((v ++ w).map fun d => (d.1, 0))
def eachV (f : Int → Int → Int) (v w : List Dot) : List Dot := (actsV v w).filterMap fun d => if 0 < f (getV v d.1) (getV w d.1) then some (d.1, f (getV v d.1) (getV w d.1)) else none
theorem mem_actsV {v w : List Dot} {d : Dot} : d ∈ actsV v w ↔ d.2 = 0 ∧ ∃ e, (e ∈ v ∨ e ∈ w) ∧ e.1 = d.1 := by
  unfold actsV
  rw [(risen_ris _).2, List.mem_map]
  constructor
  · rintro ⟨e, he, rfl⟩
    exact ⟨rfl, e, List.mem_append.1 he, rfl⟩
  · rintro ⟨h1, e, he, h2⟩
    exact ⟨e, List.mem_append.2 he, Prod.ext h2 h1.symm⟩
theorem actsV_lt (v w : List Dot) : (actsV v w).Pairwise fun a b => a.1 < b.1 := by
  have h := (risen_ris ((v ++ w).map fun d => ((d.1, 0) : Dot))).1
  refine List.Pairwise.imp_of_mem (fun ha hb hab => ?_) h
  have h1 := (mem_actsV (v := v) (w := w)).1 ha
  have h2 := (mem_actsV (v := v) (w := w)).1 hb
  unfold lessP at hab
  omega
structure Choice (f : Int → Int → Int) : Prop where
  one : ∀ x y, f x y = x ∨ f x y = y
  zero : f 0 0 = 0
theorem choice_max : Choice max := ⟨fun x y => by omega, rfl⟩
theorem choice_min : Choice min := ⟨fun x y => by omega, rfl⟩
theorem eachV_is {f : Int → Int → Int} (hf : Choice f) {v w : List Dot} (hv : isV v) (hw : isV w) : isV (eachV f v w) := by
  constructor
  · unfold eachV
    rw [List.pairwise_filterMap]
    refine (actsV_lt v w).imp fun hab x hx y hy => ?_
    split at hx <;> simp at hx
    split at hy <;> simp at hy
    subst hx hy
    exact hab
  · intro d hd
    unfold eachV at hd
    rw [List.mem_filterMap] at hd
    obtain ⟨e, he, hq⟩ := hd
    split at hq <;> simp at hq
    rename_i hpos
    subst hq
    rcases hf.one (getV v e.1) (getV w e.1) with h | h
    · rw [h] at hpos ⊢
      have h1 := getV_range hv e.1
      have h2 := getV_act hv (a := e.1) (by omega)
      unfold mayP; simp only; omega
    · rw [h] at hpos ⊢
      have h1 := getV_range hw e.1
      have h2 := getV_act hw (a := e.1) (by omega)
      unfold mayP; simp only; omega
theorem getV_eachV {f : Int → Int → Int} (hf : Choice f) {v w : List Dot} (hv : isV v) (hw : isV w) (a : Int) : getV (eachV f v w) a = f (getV v a) (getV w a) := by
  have hr1 := getV_range hv a
  have hr2 := getV_range hw a
  have hfr : 0 ≤ f (getV v a) (getV w a) := by rcases hf.one (getV v a) (getV w a) with h | h <;> omega
  by_cases hp : 0 < f (getV v a) (getV w a)
  · have hin : (a, f (getV v a) (getV w a)) ∈ eachV f v w := by
      unfold eachV
      rw [List.mem_filterMap]
      refine ⟨(a, 0), mem_actsV.2 ⟨rfl, ?_⟩, by simp [hp]⟩
      by_cases h1 : getV v a = 0
      · by_cases h2 : getV w a = 0
        · rw [h1, h2, hf.zero] at hp; omega
        · exact ⟨_, .inr (mem_getV h2), rfl⟩
      · exact ⟨_, .inl (mem_getV h1), rfl⟩
    exact getV_mem (eachV_is hf hv hw) hin
  · have h0 : f (getV v a) (getV w a) = 0 := by omega
    rw [h0]
    refine getV_none fun d hd he => ?_
    unfold eachV at hd
    rw [List.mem_filterMap] at hd
    obtain ⟨e, -, hq⟩ := hd
    split at hq <;> simp at hq
    subst hq
    simp only at he
    subst he
    omega
theorem eachV_eq {f : Int → Int → Int} (hf : Choice f) {v w u : List Dot} (hv : isV v) (hw : isV w) (hu : isV u) (h : ∀ a, getV u a = f (getV v a) (getV w a)) : u = eachV f v w :=
  isV_ext hu (eachV_is hf hv hw) fun a => by rw [h, getV_eachV hf hv hw]
abbrev joinV := eachV max
abbrev meetV := eachV min
theorem joinV_is {v w : List Dot} (hv : isV v) (hw : isV w) : isV (joinV v w) := eachV_is choice_max hv hw
theorem meetV_is {v w : List Dot} (hv : isV v) (hw : isV w) : isV (meetV v w) := eachV_is choice_min hv hw
theorem getV_join {v w : List Dot} (hv : isV v) (hw : isV w) (a : Int) : getV (joinV v w) a = max (getV v a) (getV w a) := getV_eachV choice_max hv hw a
theorem getV_meet {v w : List Dot} (hv : isV v) (hw : isV w) (a : Int) : getV (meetV v w) a = min (getV v a) (getV w a) := getV_eachV choice_min hv hw a
theorem isV_one {d : Dot} (h : mayP d) : isV [d] := isV_cons.2 ⟨h, by simp, isV_nil⟩
/-- with an operation -/
def withV (v : List Dot) (d : Dot) : List Dot := if mayP d then joinV v [d] else v
theorem withV_is {v : List Dot} (hv : isV v) (d : Dot) : isV (withV v d) := by
  unfold withV
  split
  · exact joinV_is hv (isV_one (by assumption))
  · exact hv
theorem getV_with {v : List Dot} (hv : isV v) {d : Dot} (hd : mayP d) (a : Int) : getV (withV v d) a = if d.1 = a then max (getV v a) d.2 else getV v a := by
  have hr := getV_range hv a
  rw [withV, if_pos hd, getV_join hv (isV_one hd)]
  simp only [getV]
  split
  · rfl
  · omega
theorem eachV_len (f : Int → Int → Int) (v w : List Dot) : (eachV f v w).length ≤ v.length + w.length := by
  refine Nat.le_trans (List.length_filterMap_le _ _) (Nat.le_trans (risen_len _) ?_)
  simp
theorem withV_len (v : List Dot) (d : Dot) : (withV v d).length ≤ v.length + 1 := by
  unfold withV
  split
  · exact eachV_len _ _ _
  · omega
/-- a vector, made of raw dots -/
def madeV (l : List Dot) : List Dot := (l.take 50).foldl withV []
theorem madeV_is (l : List Dot) : isV (madeV l) := by
  have key : ∀ (l v : List Dot), isV v → isV (l.foldl withV v) := by
    intro l
    induction l with
    | nil => exact fun v h => h
    | cons d l ih => exact fun v h => ih _ (withV_is h d)
  exact key _ _ isV_nil
theorem madeV_len (l : List Dot) : (madeV l).length ≤ 50 := by
  have key : ∀ (l v : List Dot), (l.foldl withV v).length ≤ v.length + l.length := by
    intro l
    induction l with
    | nil => exact fun v => by simp
    | cons d l ih =>
      intro v
      have h1 := ih (withV v d)
      have h2 := withV_len v d
      simp only [List.foldl_cons, List.length_cons]
      omega
  have := key (l.take 50) []
  simp only [List.length_nil, List.length_take] at this
  unfold madeV
  omega
end Go.Osj
