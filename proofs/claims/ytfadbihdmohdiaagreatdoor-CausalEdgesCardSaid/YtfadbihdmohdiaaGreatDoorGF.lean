/- Stories: plain facts. -/
import Derived.Test.YtfadbihdmohdiaaGreatDoorGE
set_option linter.unusedVariables false
set_option linter.unusedSimpArgs false
namespace Go.Osj
theorem latestA_ge {v : List Dot} {l : List OpA} {c : OpA} (hc : c ∈ l) (hv : hasP v c.id) : c.time ≤ latestA l v := by
  have key : ∀ (l : List OpA) (t : Int), t ≤ l.foldl (fun t o => if hasP v o.id ∧ t < o.time then o.time else t) t ∧ ∀ c ∈ l, hasP v c.id → c.time ≤ l.foldl (fun t o => if hasP v o.id ∧ t < o.time then o.time else t) t := by
    intro l
    induction l with
    | nil => exact fun t => ⟨Int.le_refl _, fun c hc => by simp at hc⟩
    | cons o l ih =>
      intro t
      rw [List.foldl_cons]
      have h1 := ih (if hasP v o.id ∧ t < o.time then o.time else t)
      generalize ht : (if hasP v o.id ∧ t < o.time then o.time else t) = t' at *
      have h2 : t ≤ t' ∧ (hasP v o.id → o.time ≤ t') := by
        rw [← ht]
        split
        · rename_i h; exact ⟨by omega, fun _ => Int.le_refl _⟩
        · rename_i h; exact ⟨Int.le_refl _, fun hh => by
            by_cases h3 : t < o.time
            · exact absurd ⟨hh, h3⟩ h
            · omega⟩
      refine ⟨by omega, fun c hc hv => ?_⟩
      rcases List.mem_cons.1 hc with rfl | hc
      · have := h2.2 hv; omega
      · exact h1.2 c hc hv
  exact (key l 0).2 c hc hv
theorem mem_blocksA {l : List OpA} {v : List Dot} {b : Dot} : b ∈ blocksA l v ↔ ∃ c ∈ l, hasP v c.id ∧ c.kind = 3 ∧ c.block = c.id ∧ c.id = b := by
  unfold blocksA
  simp only [List.mem_map, List.mem_filter, decide_eq_true_eq]
  constructor
  · rintro ⟨c, ⟨h1, h2, h3, h4⟩, h5⟩; exact ⟨c, h1, h2, h3, h4, h5⟩
  · rintro ⟨c, h1, h2, h3, h4, h5⟩; exact ⟨c, ⟨h1, h2, h3, h4⟩, h5⟩
theorem pickA_mem {B : List Dot} (h : B ≠ []) (n : Int) : pickA B n ∈ B := by
  have hp : 0 < B.length := List.length_pos_iff.2 h
  obtain ⟨k, hk, hkl⟩ := tmod_nat (a := absZ n) (n := B.length) (absZ_nonneg _) hp
  rw [pickA, hk]
  show B.getD k (0, 0) ∈ B
  rw [List.getD_eq_getElem?_getD, List.getElem?_eq_getElem hkl]
  exact List.getElem_mem hkl
theorem insA_same (o : OpA) (m : Mk) : (insA o m).id = o.id ∧ (insA o m).time = o.time ∧ (insA o m).kind = o.kind := by
  unfold insA
  simp only
  split <;> exact ⟨rfl, rfl, rfl⟩
theorem oneA_same (l : List OpA) (v : List Dot) (act : Int) (m : Mk) : (oneA l v act m).id = (act, getV v act + 1) ∧ (oneA l v act m).time = latestA l v + 1 := by
  unfold oneA
  simp only
  split
  · exact ⟨rfl, rfl⟩
  · split
    · split
      · have := insA_same { baseA l v act m with block := pickA (blocksA l v) m.a, kind := 1 } m
        exact ⟨this.1, this.2.1⟩
      · exact ⟨rfl, rfl⟩
    · split
      · have := insA_same { baseA l v act m with block := pickA (blocksA l v) m.a, at_ := pickA (charsA l v (pickA (blocksA l v) m.a)) m.b } m
        exact ⟨this.1, this.2.1⟩
      · exact ⟨rfl, rfl⟩
theorem oneA_move {l : List OpA} {v : List Dot} {act : Int} {m : Mk} (h : (oneA l v act m).kind = 3) :
    ((oneA l v act m).block = (oneA l v act m).id ∨ (oneA l v act m).block ∈ blocksA l v) ∧ (alwaysP (oneA l v act m).parent ∨ (oneA l v act m).parent ∈ blocksA l v) := by
  have hcase : (oneA l v act m) = movedA { baseA l v act m with kind := 3 } (blocksA l v) m := by
    unfold oneA at h ⊢
    simp only at h ⊢
    split
    · rfl
    · rename_i hn
      rw [if_neg hn] at h
      exfalso
      split at h
      · split at h
        · rename_i h2
          have := (insA_same { baseA l v act m with block := pickA (blocksA l v) m.a, kind := 1 } m).2.2
          rw [this] at h
          cases h
        · rename_i h2; exact h2 rfl
      · split at h
        · rename_i h2
          have := (insA_same { baseA l v act m with block := pickA (blocksA l v) m.a, at_ := pickA (charsA l v (pickA (blocksA l v) m.a)) m.b } m).2.2
          rw [this] at h
          exact hn (.inr h)
        · exact hn (.inr h)
  rw [hcase]
  unfold movedA
  simp only
  refine ⟨?_, ?_⟩
  · split
    · rename_i hb
      exact .inr (pickA_mem (List.length_pos_iff.1 hb.1) _)
    · exact .inl rfl
  · generalize hk : ((absZ m.b).tmod (([(0, -1), (0, -2)] ++ blocksA l v : List Dot).length + 2)).toNat = k
    generalize hq : (if k < ([(0, -1), (0, -2)] ++ blocksA l v : List Dot).length then k else 0) = q
    have hql : q < ([(0, -1), (0, -2)] ++ blocksA l v : List Dot).length := by
      rw [← hq]
      split
      · assumption
      · simp
    have hm : ([(0, -1), (0, -2)] ++ blocksA l v : List Dot).getD q (0, 0) ∈ ([(0, -1), (0, -2)] ++ blocksA l v : List Dot) := by
      rw [List.getD_eq_getElem?_getD, List.getElem?_eq_getElem hql]
      exact List.getElem_mem hql
    rcases List.mem_append.1 hm with hm | hm
    · left
      simp only [List.mem_cons, List.not_mem_nil, or_false] at hm
      exact hm
    · exact .inr hm
theorem getV_with_le {v : List Dot} (h : isV v) (d : Dot) (a : Int) : getV v a ≤ getV (withV v d) a := by
  by_cases hd : mayP d
  · rw [getV_with h hd]
    split
    · exact Int.le_max_left _ _
    · exact Int.le_refl _
  · unfold withV
    rw [if_neg hd]
    exact Int.le_refl _
theorem getV_learn_le {v : List Dot} (h : isV v) (a : Int) : ∀ l, getV v a ≤ getV (learnA l v) a := by
  intro l
  unfold learnA
  induction l generalizing v with
  | nil => exact Int.le_refl _
  | cons o l ih =>
    rw [List.foldl_cons]
    split
    · exact Int.le_trans (getV_with_le h _ _) (ih (withV_is h _))
    · exact ih h
theorem actA_inj {w u : Nat} (h : actA w = actA u) : w = u := by unfold actA at h; omega
/-- what holds of a tale -/
structure TaleF (s : Tale) : Prop where
  ids : (s.out.map OpA.id).Nodup
  act : ∀ o ∈ s.out, ∃ w, w < 4 ∧ o.id.1 = actA w ∧ o.id.2 ≤ getV (s.knows w) (actA w)
  isv : ∀ w, isV (s.knows w)
  may : ∀ o ∈ s.out, mayO o
  mv : ∀ k o, s.out[k]? = some o → o.kind = 3 → (o.block = o.id ∨ ∃ c ∈ s.out.take k, c.kind = 3 ∧ c.block = c.id ∧ c.id = o.block ∧ c.time < o.time) ∧ (alwaysP o.parent ∨ ∃ c ∈ s.out.take k, c.kind = 3 ∧ c.block = c.id ∧ c.id = o.parent ∧ c.time < o.time)
theorem tale0_F : TaleF tale0 := ⟨List.nodup_nil, fun o h => by simp [tale0] at h, fun _ => isV_nil, fun o h => by simp [tale0] at h, fun k o h => by simp [tale0] at h⟩
theorem whoA_lt (m : Mk) : whoA m < 4 := by
  have := tmod_rng (n := 4) (absZ_nonneg m.act) (by decide)
  unfold whoA
  omega
theorem stepA_F {s : Tale} (h : TaleF s) (m : Mk) : TaleF (stepA s m) := by
  unfold stepA
  simp only
  generalize hv : learnA (s.out.take ((absZ m.knows).tmod (s.out.length + 1)).toNat) (s.knows (whoA m)) = v
  have hvi : isV v := hv ▸ learnA_is (h.isv _) _
  have hvg : ∀ a, getV (s.knows (whoA m)) a ≤ getV v a := fun a => hv ▸ getV_learn_le (h.isv _) a _
  have hw := whoA_lt m
  generalize whoA m = w at *
  obtain ⟨oid, otm⟩ := oneA_same s.out v (actA w) m
  have omv : (oneA s.out v (actA w) m).kind = 3 → _ := oneA_move
  generalize oneA s.out v (actA w) m = o at *
  split
  · rename_i hm
    have hmid := hm.1.1
    have hnew : ∀ c ∈ s.out, c.id ≠ o.id := fun c hc he => by
      obtain ⟨u, hu, h1, h2⟩ := h.act c hc
      rw [he, oid] at h1 h2
      have hwu : w = u := actA_inj h1
      subst hwu
      have := hvg (actA w)
      simp only at h2
      omega
    refine ⟨?_, ?_, ?_, ?_, ?_⟩
    · rw [List.map_append, List.nodup_append]
      refine ⟨h.ids, by simp, fun a ha b hb => ?_⟩
      obtain ⟨c, hc, rfl⟩ := List.mem_map.1 ha
      obtain rfl : b = o.id := by simpa using hb
      exact hnew c hc
    · intro c hc
      rcases List.mem_append.1 hc with hc | hc
      · obtain ⟨u, hu, h1, h2⟩ := h.act c hc
        refine ⟨u, hu, h1, ?_⟩
        simp only
        split
        · rename_i huw
          subst huw
          exact Int.le_trans h2 (Int.le_trans (hvg _) (getV_with_le hvi _ _))
        · exact h2
      · obtain rfl : c = o := by simpa using hc
        refine ⟨w, hw, by rw [oid], ?_⟩
        simp only [if_true]
        rw [getV_with hvi hmid, if_pos (by rw [oid])]
        exact Int.le_max_right _ _
    · intro u
      simp only
      split
      · exact withV_is hvi _
      · exact h.isv u
    · intro c hc
      rcases List.mem_append.1 hc with hc | hc
      · exact h.may c hc
      · obtain rfl : c = o := by simpa using hc
        exact hm
    · intro k c hc hk
      simp only at hc ⊢
      by_cases hkl : k < s.out.length
      · rw [List.getElem?_append_left hkl] at hc
        rw [List.take_append_of_le_length (by omega)]
        exact h.mv k c hc hk
      · have hkl2 : k = s.out.length := by
          have := (List.getElem?_eq_some_iff.1 hc).1
          rw [List.length_append, List.length_singleton] at this
          omega
        subst hkl2
        rw [List.getElem?_append_right (Nat.le_refl _), Nat.sub_self] at hc
        obtain rfl : o = c := by simpa using hc
        rw [List.take_append_of_le_length (Nat.le_refl _), List.take_length]
        have hB : ∀ b, b ∈ blocksA s.out v → ∃ c ∈ s.out, c.kind = 3 ∧ c.block = c.id ∧ c.id = b ∧ c.time < o.time := fun b hb => by
          obtain ⟨c, h1, h2, h3, h4, h5⟩ := mem_blocksA.1 hb
          have := latestA_ge h1 h2
          exact ⟨c, h1, h3, h4, h5, by omega⟩
        obtain ⟨m1, m2⟩ := omv hk
        exact ⟨m1.imp_right (hB _), m2.imp_right (hB _)⟩
  · refine ⟨h.ids, fun c hc => ?_, fun u => ?_, h.may, h.mv⟩
    · obtain ⟨u, hu, h1, h2⟩ := h.act c hc
      refine ⟨u, hu, h1, ?_⟩
      simp only
      split
      · rename_i huw
        subst huw
        exact Int.le_trans h2 (hvg _)
      · exact h2
    · simp only
      split
      · exact hvi
      · exact h.isv u
theorem taleA_F (l : List Mk) : TaleF (taleA l) := by
  have : ∀ (l : List Mk) (s : Tale), TaleF s → TaleF (l.foldl stepA s) := by
    intro l
    induction l with
    | nil => exact fun s h => h
    | cons m l ih => exact fun s h => ih _ (stepA_F h m)
  exact this _ _ tale0_F
end Go.Osj
