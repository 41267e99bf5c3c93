/- The order in which operations are taken in, plain. -/
import Derived.Test.YtfadbihdmohdiaaGreatDoorOK
set_option linter.unusedSimpArgs false
set_option linter.unusedVariables false
namespace Go.Osj
def lessO (a b : OpA) : Prop := a.time < b.time ∨ (a.time = b.time ∧ lessP a.id b.id)
instance (a b : OpA) : Decidable (lessO a b) := inferInstanceAs (Decidable (_ ∨ _))
theorem lessO_asymm {a b : OpA} (h : lessO a b) : ¬ lessO b a := by unfold lessO lessP at *; omega
theorem lessO_trans {a b c : OpA} (h : lessO a b) (k : lessO b c) : lessO a c := by unfold lessO lessP at *; omega
theorem lessO_total {a b : OpA} (h : a.id ≠ b.id) (k : ¬ lessO b a) : lessO a b := by
  rcases Int.lt_trichotomy a.time b.time with h1 | h1 | h1
  · exact .inl h1
  · refine .inr ⟨h1, ?_⟩
    apply Classical.byContradiction
    intro h2
    exact h (lessP_total h2 fun h3 => k (.inr ⟨h1.symm, h3⟩))
  · exact absurd (.inl h1) k
/-- whether an operation can be taken in -/
def readyA (v : List Dot) (o : OpA) : Int := if mayO o then (if hasP v o.id then 32 else if belowP o.deps v then 0 else 31) else 30
theorem readyA_zero {v : List Dot} {o : OpA} : readyA v o = 0 ↔ mayO o ∧ ¬ hasP v o.id ∧ belowP o.deps v := by
  unfold readyA
  by_cases h1 : mayO o
  · by_cases h2 : hasP v o.id
    · simp [h1, h2]
    · by_cases h3 : belowP o.deps v
      · simp [h1, h2, h3]
      · simp [h1, h2, h3]
  · simp [h1]
/-- the first of each id, of those that may be -/
def keptA (l : List OpA) : List OpA := l.foldl (fun out o => if mayO o ∧ o.id ∉ out.map OpA.id then out ++ [o] else out) []
/-- one more, put in -/
def putO (l : List OpA) (o : OpA) : List OpA := l.takeWhile (fun x => decide (lessO x o)) ++ o :: l.dropWhile (fun x => decide (lessO x o))
def countedA (l : List OpA) : List OpA := l.foldl (fun out o => if mayO o ∧ o.id ∉ out.map OpA.id then putO out o else out) []
theorem keptA_snoc (l : List OpA) (o : OpA) : keptA (l ++ [o]) = if mayO o ∧ o.id ∉ (keptA l).map OpA.id then keptA l ++ [o] else keptA l := by
  unfold keptA
  rw [List.foldl_append]
  rfl
theorem countedA_snoc (l : List OpA) (o : OpA) : countedA (l ++ [o]) = if mayO o ∧ o.id ∉ (countedA l).map OpA.id then putO (countedA l) o else countedA l := by
  unfold countedA
  rw [List.foldl_append]
  rfl
theorem putO_perm (l : List OpA) (o : OpA) : (putO l o).Perm (l ++ [o]) := by
  unfold putO
  refine List.perm_middle.trans ?_
  rw [List.takeWhile_append_dropWhile]
  exact (List.perm_append_singleton o l).symm
theorem takeWhile_all {α : Type} {p : α → Bool} : ∀ {l : List α}, ∀ x ∈ l.takeWhile p, p x = true
  | [], x, h => by simp at h
  | a :: l, x, h => by
    rw [List.takeWhile_cons] at h
    split at h
    · rename_i ha
      rcases List.mem_cons.1 h with rfl | h
      · exact ha
      · exact takeWhile_all x h
    · simp at h
theorem dropWhile_head {α : Type} {p : α → Bool} : ∀ {l : List α} {a : α} {r : List α}, l.dropWhile p = a :: r → p a = false
  | [], a, r, h => by simp at h
  | b :: l, a, r, h => by
    rw [List.dropWhile_cons] at h
    split at h
    · exact dropWhile_head h
    · rename_i hb
      injection h with h1 h2
      subst h1
      simpa using hb
theorem putO_sorted {l : List OpA} {o : OpA} (h : l.Pairwise lessO) (hn : ∀ x ∈ l, x.id ≠ o.id) : (putO l o).Pairwise lessO := by
  unfold putO
  have e := List.takeWhile_append_dropWhile (p := fun x => decide (lessO x o)) (l := l)
  generalize hA : l.takeWhile (fun x => decide (lessO x o)) = A at *
  generalize hB : l.dropWhile (fun x => decide (lessO x o)) = B at *
  have hAo : ∀ x ∈ A, lessO x o := fun x hx => by
    have := takeWhile_all (p := fun x => decide (lessO x o)) (l := l) x (by rw [hA]; exact hx)
    simpa using this
  have hBo : ∀ x ∈ B, lessO o x := by
    cases B with
    | nil => simp
    | cons b r =>
      have hb := dropWhile_head hB
      have hb' : ¬ lessO b o := by simpa using hb
      have hbo : lessO o b := lessO_total (fun h => hn b (by rw [← e]; simp) h.symm) hb'
      intro x hx
      rcases List.mem_cons.1 hx with rfl | hx
      · exact hbo
      · rw [← e] at h
        exact lessO_trans hbo ((List.pairwise_cons.1 (List.pairwise_append.1 h).2.1).1 x hx)
  rw [← e] at h
  obtain ⟨h1, h2, h3⟩ := List.pairwise_append.1 h
  refine List.pairwise_append.2 ⟨h1, List.pairwise_cons.2 ⟨hBo, h2⟩, fun x hx y hy => ?_⟩
  rcases List.mem_cons.1 hy with rfl | hy
  · exact hAo x hx
  · exact h3 x hx y hy
theorem rev_ind {α : Type} {M : List α → Prop} (h0 : M []) (hs : ∀ l a, M l → M (l ++ [a])) (l : List α) : M l := by
  have : ∀ n, n ≤ l.length → M (l.take n) := by
    intro n
    induction n with
    | zero => intro _; exact h0
    | succ n ih =>
      intro hn
      rw [take_snoc (List.getElem?_eq_getElem (by omega))]
      exact hs _ _ (ih (by omega))
  have h := this l.length (Nat.le_refl _)
  rwa [List.take_length] at h
structure KeptI (l : List OpA) : Prop where
  perm : (countedA l).Perm (keptA l)
  sorted : (countedA l).Pairwise lessO
  nodup : ((keptA l).map OpA.id).Nodup
  may : ∀ o ∈ keptA l, mayO o ∧ o ∈ l
  len : (keptA l).length ≤ l.length
  all : (keptA l).length = l.length → keptA l = l
theorem keptI (l : List OpA) : KeptI l := by
  refine rev_ind (M := KeptI) ⟨.nil, .nil, .nil, by simp [keptA], by simp [keptA], fun _ => rfl⟩ ?_ l
  intro l o h
  have hi : ((countedA l).map OpA.id).Perm ((keptA l).map OpA.id) := h.perm.map _
  have hm : o.id ∉ (countedA l).map OpA.id ↔ o.id ∉ (keptA l).map OpA.id := not_congr hi.mem_iff
  by_cases hc : mayO o ∧ o.id ∉ (keptA l).map OpA.id
  · have e1 : keptA (l ++ [o]) = keptA l ++ [o] := by rw [keptA_snoc, if_pos hc]
    have e2 : countedA (l ++ [o]) = putO (countedA l) o := by rw [countedA_snoc, if_pos ⟨hc.1, hm.2 hc.2⟩]
    refine ⟨?_, ?_, ?_, ?_, ?_, ?_⟩ <;> (try rw [e1]) <;> (try rw [e2])
    · exact (putO_perm _ _).trans (h.perm.append_right _)
    · exact putO_sorted h.sorted fun x hx e => hm.2 hc.2 (List.mem_map.2 ⟨x, hx, e⟩)
    · rw [List.map_append, List.nodup_append]
      refine ⟨h.nodup, by simp, fun a ha b hb hab => ?_⟩
      simp at hb
      subst hb hab
      exact hc.2 ha
    · intro x hx
      rcases List.mem_append.1 hx with hx | hx
      · exact ⟨(h.may x hx).1, List.mem_append_left _ (h.may x hx).2⟩
      · simp at hx
        subst hx
        exact ⟨hc.1, by simp⟩
    · have := h.len
      simp only [List.length_append, List.length_singleton]
      omega
    · intro hl
      simp only [List.length_append, List.length_singleton] at hl
      rw [h.all (by omega)]
  · have e1 : keptA (l ++ [o]) = keptA l := by rw [keptA_snoc, if_neg hc]
    have e2 : countedA (l ++ [o]) = countedA l := by rw [countedA_snoc, if_neg fun h => hc ⟨h.1, hm.1 h.2⟩]
    refine ⟨?_, ?_, ?_, ?_, ?_, ?_⟩ <;> (try rw [e1]) <;> (try rw [e2])
    · exact h.perm
    · exact h.sorted
    · exact h.nodup
    · exact fun x hx => ⟨(h.may x hx).1, List.mem_append_left _ (h.may x hx).2⟩
    · have := h.len
      simp only [List.length_append, List.length_singleton]
      omega
    · intro hl
      have := h.len
      simp only [List.length_append, List.length_singleton] at hl
      omega
theorem sortedO_unique : ∀ {ys zs : List OpA}, ys.Pairwise lessO → zs.Pairwise lessO → ys.Perm zs → ys = zs
  | [], zs, _, _, p => (List.nil_perm.1 p).symm
  | y :: ys, [], _, _, p => absurd p.length_eq (by simp)
  | y :: ys, z :: zs, hy, hz, p => by
    obtain ⟨hy1, hy2⟩ := List.pairwise_cons.1 hy
    obtain ⟨hz1, hz2⟩ := List.pairwise_cons.1 hz
    have e : y = z := by
      rcases List.mem_cons.1 (p.mem_iff.1 (List.mem_cons_self ..)) with h | h
      · exact h
      · rcases List.mem_cons.1 (p.symm.mem_iff.1 (List.mem_cons_self ..)) with k | k
        · exact k.symm
        · exact absurd (hz1 y h) (lessO_asymm (hy1 z k))
    subst e
    rw [sortedO_unique hy2 hz2 p.cons_inv]
theorem nodup_sorted {ys : List OpA} (hn : (ys.map OpA.id).Nodup) (h : ys.Pairwise fun a b => ¬ lessO b a) : ys.Pairwise lessO := by
  have h1 : ys.Pairwise fun a b => a.id ≠ b.id := List.pairwise_map.1 hn
  exact (h1.and h).imp fun ⟨a, b⟩ => lessO_total a b
/-- sorted, it is what the document says -/
theorem counted_eq {l ys : List OpA} (hp : ys.Perm (keptA l)) (h : ys.Pairwise fun a b => ¬ lessO b a) : ys = countedA l := by
  have K := keptI l
  refine sortedO_unique (nodup_sorted ?_ h) K.sorted (hp.trans K.perm.symm)
  exact (hp.map OpA.id).nodup_iff.2 K.nodup
/-! ### the order -/
def ordN : Nat → List OpA → List Dot → List OpA → List OpA × List OpA
  | 0, done, _, rest => (done, rest)
  | n + 1, done, v, rest => match rest.findIdx? (fun o => decide (readyA v o = 0)) with
    | none => (done, rest)
    | some i => match rest[i]? with
      | none => (done, rest)
      | some o => ordN n (done ++ [o]) (withV v o.id) (rest.take i ++ rest.drop (i + 1))
def ordA (done : List OpA) (v : List Dot) (rest : List OpA) : List OpA × List OpA := ordN rest.length done v rest
theorem ordA_none {done rest : List OpA} {v : List Dot} (h : ∀ o ∈ rest, readyA v o ≠ 0) : ordA done v rest = (done, rest) := by
  unfold ordA
  cases hl : rest.length with
  | zero => rfl
  | succ n =>
    unfold ordN
    have : rest.findIdx? (fun o => decide (readyA v o = 0)) = none := by
      rw [List.findIdx?_eq_none_iff]
      intro x hx
      simpa using h x hx
    rw [this]
theorem findIdx_at' {α : Type} {p : α → Bool} {xs : List α} {i : Nat} (hi : i < xs.length) (h : ∀ x ∈ xs.take i, p x = false) (hp : p xs[i] = true) : xs.findIdx? p = some i := by
  rw [List.findIdx?_eq_some_iff_getElem]
  refine ⟨hi, hp, fun j hj => ?_⟩
  have := h xs[j] (List.mem_take_iff_getElem.2 ⟨j, by omega, rfl⟩)
  simp [this]
theorem ordA_step {done rest : List OpA} {v : List Dot} {i : Nat} (hi : i < rest.length) (h : ∀ o ∈ rest.take i, readyA v o ≠ 0) (h0 : readyA v rest[i] = 0) :
    ordA done v rest = ordA (done ++ [rest[i]]) (withV v rest[i].id) (rest.take i ++ rest.drop (i + 1)) := by
  unfold ordA
  have hlen : (rest.take i ++ rest.drop (i + 1)).length = rest.length - 1 := by simp; omega
  rw [hlen]
  obtain ⟨n, hn⟩ : ∃ n, rest.length = n + 1 := ⟨rest.length - 1, by omega⟩
  rw [hn]
  conv => lhs; unfold ordN
  rw [findIdx_at' (p := fun o => decide (readyA v o = 0)) hi (fun x hx => by simpa using h x hx) (by simpa using h0)]
  simp only [List.getElem?_eq_getElem hi]
  rfl
/-- what holds at each step holds at the end -/
theorem ordA_ind (M : List OpA → List Dot → List OpA → Prop) (hs : ∀ done v rest i, (hi : i < rest.length) → (∀ o ∈ rest.take i, readyA v o ≠ 0) → readyA v rest[i] = 0 → M done v rest → M (done ++ [rest[i]]) (withV v rest[i].id) (rest.take i ++ rest.drop (i + 1))) :
    ∀ n done v rest, rest.length = n → M done v rest → ∃ v', M (ordA done v rest).1 v' (ordA done v rest).2 ∧ ∀ o ∈ (ordA done v rest).2, readyA v' o ≠ 0 := by
  intro n
  induction n with
  | zero =>
    intro done v rest hl hm
    have hr := List.eq_nil_of_length_eq_zero hl
    subst hr
    exact ⟨v, hm, by simp [ordA, ordN]⟩
  | succ n ih =>
    intro done v rest hl hm
    by_cases hx : ∃ o ∈ rest, readyA v o = 0
    · obtain ⟨i, hi, h1, h2⟩ : ∃ i, ∃ hi : i < rest.length, (∀ o ∈ rest.take i, readyA v o ≠ 0) ∧ readyA v rest[i] = 0 := by
        cases hf : rest.findIdx? (fun o => decide (readyA v o = 0)) with
        | none =>
          rw [List.findIdx?_eq_none_iff] at hf
          obtain ⟨o, ho, h0⟩ := hx
          exact absurd h0 (by simpa using hf o ho)
        | some i =>
          obtain ⟨hi, h1, h2⟩ := List.findIdx?_eq_some_iff_getElem.1 hf
          refine ⟨i, hi, fun o ho => ?_, by simpa using h1⟩
          obtain ⟨j, hj, rfl⟩ := List.mem_take_iff_getElem.1 ho
          simpa using h2 j (by omega)
      rw [ordA_step hi h1 h2]
      exact ih _ _ _ (by simp; omega) (hs _ _ _ i hi h1 h2 hm)
    · have hx' : ∀ o ∈ rest, readyA v o ≠ 0 := fun o ho h => hx ⟨o, ho, h⟩
      rw [ordA_none hx']
      exact ⟨v, hm, hx'⟩
def orderA (l : List OpA) : List OpA × List OpA := ordA [] [] (countedA l)
def rightA (l : List OpA) : Prop := (orderA l).1.length = l.length ∧ ∀ o ∈ l, ∀ p ∈ l, hasP o.deps p.id → p.time < o.time
/-! ### what it is like -/
theorem take_drop_perm {α : Type} {l : List α} {i : Nat} (hi : i < l.length) : (l[i] :: (l.take i ++ l.drop (i + 1))).Perm l := by
  have e : l = l.take i ++ l[i] :: l.drop (i + 1) := by rw [← List.drop_eq_getElem_cons hi, List.take_append_drop]
  conv => rhs; rw [e]
  exact List.perm_middle.symm
structure OrdI (c : List OpA) (done : List OpA) (v : List Dot) (rest : List OpA) : Prop where
  perm : (done ++ rest).Perm c
  ver : v = done.foldl (fun v o => withV v o.id) []
  is : isV v
  len : v.length ≤ done.length
  has : ∀ d, hasP v d ↔ d ∈ done.map OpA.id
  dep : ∀ o ∈ done, ∀ d, hasP o.deps d → d ∈ done.map OpA.id
  behind : done.Pairwise fun a b => ¬ hasP a.deps b.id ∧ a.id ≠ b.id
theorem hasP_nil (d : Dot) : ¬ hasP [] d := by
  rw [hasP_iff isV_nil]
  simp only [getV]
  omega
theorem OrdI.init (c : List OpA) : OrdI c [] [] c := ⟨.refl _, rfl, isV_nil, Nat.le_refl _, fun d => by simp [hasP_nil], by simp, .nil⟩
theorem hasP_with' {v : List Dot} (hv : isV v) {o : OpA} (h1 : mayO o) (h3 : belowP o.deps v) (d : Dot) : hasP (withV v o.id) d ↔ hasP v d ∨ d = o.id := by
  obtain ⟨hp, -, -, hd, hg⟩ := h1.1
  have h4 := (belowP_iff hd hv).1 h3 o.id.1
  rw [hasP_iff (withV_is hv _), hasP_iff hv, getV_with hv hp]
  have hp' := hp.2.2
  obtain ⟨d1, d2⟩ := d
  have e : (d1, d2) = o.id ↔ d1 = o.id.1 ∧ d2 = o.id.2 := ⟨fun h => by rw [← h]; exact ⟨rfl, rfl⟩, fun h => Prod.ext h.1 h.2⟩
  rw [e]
  dsimp only
  by_cases he : o.id.1 = d1
  · rw [if_pos he]
    rw [he] at h4 hg
    omega
  · rw [if_neg he]
    omega
theorem hasP_with {v : List Dot} (hv : isV v) {o : OpA} (h : readyA v o = 0) (d : Dot) : hasP (withV v o.id) d ↔ hasP v d ∨ d = o.id := by
  obtain ⟨h1, h2, h3⟩ := readyA_zero.1 h
  exact hasP_with' hv h1 h3 d
theorem OrdI.step {c done rest : List OpA} {v : List Dot} {i : Nat} (hi : i < rest.length) (h0 : readyA v rest[i] = 0) (M : OrdI c done v rest) : OrdI c (done ++ [rest[i]]) (withV v rest[i].id) (rest.take i ++ rest.drop (i + 1)) := by
  have hp : (done ++ [rest[i]] ++ (rest.take i ++ rest.drop (i + 1))).Perm c := by
    rw [List.append_assoc]
    exact (List.Perm.append_left done (take_drop_perm hi)).trans M.perm
  obtain ⟨h1, h2, h3⟩ := readyA_zero.1 h0
  have hd := h1.1.2.2.2.1
  have hdep : ∀ d, hasP rest[i].deps d → hasP v d := fun d h => by
    rw [hasP_iff hd] at h
    have := (belowP_iff hd M.is).1 h3 d.1
    exact (hasP_iff M.is).2 ⟨h.1, Int.le_trans h.2 this⟩
  generalize rest[i] = o at *
  refine ⟨hp, by rw [List.foldl_append, ← M.ver]; rfl, withV_is M.is _, ?_, fun d => ?_, fun x hx d h => ?_, ?_⟩
  · have := withV_len v o.id
    have := M.len
    simp only [List.length_append, List.length_singleton]
    omega
  · rw [hasP_with M.is h0, M.has, List.map_append, List.mem_append]
    simp
  · rw [List.map_append, List.mem_append]
    rcases List.mem_append.1 hx with hx | hx
    · exact .inl (M.dep x hx d h)
    · obtain rfl : x = o := by simpa using hx
      exact .inl ((M.has d).1 (hdep d h))
  · refine List.pairwise_append.2 ⟨M.behind, by simp, fun x hx y hy => ?_⟩
    obtain rfl : y = o := by simpa using hy
    refine ⟨fun h => h2 ((M.has _).2 (M.dep x hx _ h)), fun h => h2 ?_⟩
    rw [M.has]
    exact List.mem_map.2 ⟨x, hx, h⟩
theorem orderI (c : List OpA) : ∃ v, OrdI c (ordA [] [] c).1 v (ordA [] [] c).2 ∧ ∀ o ∈ (ordA [] [] c).2, readyA v o ≠ 0 :=
  ordA_ind (OrdI c) (fun _ _ _ _ hi _ h0 M => M.step hi h0) _ [] [] c rfl (.init c)
theorem order_perm (l : List OpA) : ((orderA l).1 ++ (orderA l).2).Perm (countedA l) := by
  obtain ⟨v, h, -⟩ := orderI (countedA l)
  exact h.perm
theorem order_may {l : List OpA} {o : OpA} (h : o ∈ (orderA l).1 ∨ o ∈ (orderA l).2) : mayO o ∧ o ∈ l := by
  have K := keptI l
  exact K.may o (K.perm.mem_iff.1 ((order_perm l).mem_iff.1 (List.mem_append.2 h)))
theorem order_len (l : List OpA) : (orderA l).1.length + (orderA l).2.length = (countedA l).length := by
  rw [← List.length_append]
  exact (order_perm l).length_eq
theorem counted_len (l : List OpA) : (countedA l).length ≤ l.length := by
  have K := keptI l
  rw [K.perm.length_eq]
  exact K.len
theorem order_all {l : List OpA} (h : (orderA l).1.length = l.length) : (orderA l).1.Perm l ∧ (orderA l).2 = [] ∧ keptA l = l := by
  have K := keptI l
  have h1 := order_len l
  have h2 := counted_len l
  have h3 := K.perm.length_eq
  have h4 : keptA l = l := K.all (by omega)
  have h5 : (orderA l).2 = [] := List.eq_nil_of_length_eq_zero (by omega)
  have h6 := (order_perm l).trans K.perm
  rw [h4, h5, List.append_nil] at h6
  exact ⟨h6, h5, h4⟩
/-- whether they are right, told by those that were put in order -/
theorem right_iff (l : List OpA) : rightA l ↔ (orderA l).1.length = l.length ∧ ∀ o ∈ (orderA l).1, ∀ p ∈ (orderA l).1, hasP o.deps p.id → p.time < o.time := by
  unfold rightA
  refine and_congr_right fun h => ?_
  have hp := (order_all h).1
  constructor
  · exact fun k o ho p hp' => k o (hp.mem_iff.1 ho) p (hp.mem_iff.1 hp')
  · exact fun k o ho p hp' => k o (hp.mem_iff.2 ho) p (hp.mem_iff.2 hp')
end Go.Osj
