/- Operations that are right, plain. -/
import Derived.Test.YtfadbihdmohdiaaGreatDoorLA
set_option linter.unusedSimpArgs false
set_option linter.unusedVariables false
namespace Go.Osj
structure GoodL (l : List OpA) : Prop where
  may : ∀ o ∈ l, mayO o
  nodup : (l.map OpA.id).Nodup
  dep : ∀ o ∈ l, ∀ d, hasP o.deps d → ∃ p ∈ l, p.id = d ∧ p.time < o.time
theorem GoodL.perm {l m : List OpA} (G : GoodL l) (p : m.Perm l) : GoodL m :=
  ⟨fun o h => G.may o (p.mem_iff.1 h), (p.map OpA.id).nodup_iff.2 G.nodup, fun o h d hd => by
    obtain ⟨q, h1, h2⟩ := G.dep o (p.mem_iff.1 h) d hd
    exact ⟨q, p.mem_iff.2 h1, h2⟩⟩
theorem kept_all (l : List OpA) : (∀ o ∈ l, mayO o) → (l.map OpA.id).Nodup → keptA l = l := by
  refine rev_ind (M := fun l => (∀ o ∈ l, mayO o) → (l.map OpA.id).Nodup → keptA l = l) (fun _ _ => rfl) ?_ l
  intro l o ih hm hn
  rw [List.map_append, List.nodup_append] at hn
  have h1 := ih (fun x hx => hm x (List.mem_append_left _ hx)) hn.1
  rw [keptA_snoc, h1, if_pos]
  refine ⟨hm o (by simp), fun h => hn.2.2 o.id h o.id (by simp) rfl⟩
theorem GoodL.counted {l : List OpA} (G : GoodL l) : (countedA l).Perm l := by
  have := (keptI l).perm
  rwa [kept_all l G.may G.nodup] at this
theorem counted_perm {l m : List OpA} (G : GoodL l) (p : m.Perm l) : countedA m = countedA l :=
  sortedO_unique (keptI m).sorted (keptI l).sorted (((G.perm p).counted.trans p).trans G.counted.symm)
theorem has_of_mem {v : List Dot} (h : isV v) {d : Dot} (hd : d ∈ v) : hasP v d := ⟨h.2 d hd, by rw [getV_mem h hd]; exact Int.le_refl _⟩
theorem hasP_le {v : List Dot} {d : Dot} (h : hasP v d) : d.2 ≤ getV v d.1 := h.2
theorem good_run {c : List OpA} (G : GoodL c) (hs : c.Pairwise lessO) : ∀ (rest done : List OpA) (v : List Dot), c = done ++ rest → OrdI c done v rest → ordA done v rest = (c, [])
  | [], done, v, he, _ => by
    rw [List.append_nil] at he
    rw [ordA_none (by simp), he]
  | o :: rest, done, v, he, M => by
    have hoc : o ∈ c := by rw [he]; simp
    have hm := G.may o hoc
    have hlt : ∀ y ∈ rest, lessO o y := by
      rw [he] at hs
      exact (List.pairwise_cons.1 (List.pairwise_append.1 hs).2.1).1
    have h0 : readyA v o = 0 := by
      rw [readyA_zero]
      refine ⟨hm, fun h => ?_, fun d hd => ?_⟩
      · have hn := G.nodup
        rw [he, List.map_append, List.nodup_append] at hn
        exact hn.2.2 o.id ((M.has _).1 h) o.id (by simp) rfl
      · obtain ⟨p, hp, h1, h2⟩ := G.dep o hoc d (has_of_mem hm.1.2.2.2.1 hd)
        have hpd : p ∈ done := by
          rw [he] at hp
          rcases List.mem_append.1 hp with hp | hp
          · exact hp
          · rcases List.mem_cons.1 hp with rfl | hp
            · exact absurd h2 (Int.lt_irrefl _)
            · have := hlt p hp
              unfold lessO at this
              omega
        exact hasP_le ((M.has d).2 (List.mem_map.2 ⟨p, hpd, h1⟩))
    have hi : 0 < (o :: rest).length := by simp
    have M' := M.step hi h0
    have e := ordA_step (done := done) (v := v) (rest := o :: rest) (i := 0) hi (by simp) h0
    simp only [List.getElem_cons_zero, List.take_zero, List.nil_append, Nat.zero_add, List.drop_succ_cons, List.drop_zero] at e M'
    rw [e]
    exact good_run G hs rest (done ++ [o]) _ (by rw [he]; simp) M'
theorem good_order {l : List OpA} (G : GoodL l) : orderA l = (countedA l, []) :=
  good_run (G.perm G.counted) (keptI l).sorted _ [] [] rfl (.init _)
theorem good_same {l : List OpA} (hn : (l.map OpA.id).Nodup) {a b : OpA} (ha : a ∈ l) (hb : b ∈ l) (h : a.id = b.id) : a = b := by
  induction l with
  | nil => simp at ha
  | cons x l ih =>
    rw [List.map_cons, List.nodup_cons] at hn
    rcases List.mem_cons.1 ha with ha1 | ha1
    · rcases List.mem_cons.1 hb with hb1 | hb1
      · rw [ha1, hb1]
      · exact absurd (List.mem_map.2 ⟨b, hb1, by rw [← h, ha1]⟩) hn.1
    · rcases List.mem_cons.1 hb with hb1 | hb1
      · exact absurd (List.mem_map.2 ⟨a, ha1, by rw [h, hb1]⟩) hn.1
      · exact ih hn.2 ha1 hb1
theorem GoodL.right {l : List OpA} (G : GoodL l) : rightA l := by
  refine ⟨by rw [good_order G]; exact G.counted.length_eq, fun o ho p hp h => ?_⟩
  obtain ⟨q, hq, h1, h2⟩ := G.dep o ho _ h
  rw [← good_same G.nodup hq hp h1]
  exact h2
theorem right_good {l : List OpA} (h : rightA l) : GoodL l := by
  obtain ⟨hl, ht⟩ := h
  obtain ⟨hp, h2, hk⟩ := order_all hl
  have K := keptI l
  refine ⟨fun o ho => (order_may (.inl (hp.mem_iff.2 ho))).1, by rw [← hk]; exact K.nodup, fun o ho d hd => ?_⟩
  obtain ⟨v, M, -⟩ := orderI (countedA l)
  obtain ⟨p, h3, h4⟩ := List.mem_map.1 (M.dep o (hp.mem_iff.2 ho) d hd)
  have h5 := hp.mem_iff.1 h3
  exact ⟨p, h5, h4, ht o ho p h5 (by rw [h4]; exact hd)⟩
/-! ### what comes behind what -/
theorem order_behind (l : List OpA) : (orderA l).1.Pairwise fun a b => ¬ hasP a.deps b.id ∧ a.id ≠ b.id := by
  obtain ⟨v, M, -⟩ := orderI (countedA l)
  exact M.behind
theorem order_times {l : List OpA} (h : rightA l) : (orderA l).1.Pairwise fun a b => ¬ b.time < a.time := by
  rw [good_order (right_good h)]
  refine (keptI l).sorted.imp fun {a b} hab => ?_
  unfold lessO at hab
  omega
def versionA (l : List OpA) : List Dot := l.foldl (fun v o => withV v o.id) []
theorem versionA_snoc (l : List OpA) (o : OpA) : versionA (l ++ [o]) = withV (versionA l) o.id := by
  unfold versionA
  rw [List.foldl_append]
  rfl
theorem versionA_is (l : List OpA) : isV (versionA l) ∧ (versionA l).length ≤ l.length := by
  refine rev_ind (M := fun l => isV (versionA l) ∧ (versionA l).length ≤ l.length) ⟨isV_nil, Nat.le_refl _⟩ (fun l o ih => ?_) l
  rw [versionA_snoc]
  have := withV_len (versionA l) o.id
  exact ⟨withV_is ih.1 _, by simp only [List.length_append, List.length_singleton]; omega⟩
theorem order_early (l : List OpA) : ∀ o ∈ (orderA l).2, readyA (versionA (orderA l).1) o = 31 := by
  intro o ho
  obtain ⟨v, M, hv⟩ := orderI (countedA l)
  have h1 := hv o ho
  have e : versionA (orderA l).1 = v := M.ver.symm
  rw [e]
  have hm := (order_may (.inr ho)).1
  have hn : ¬ hasP v o.id := fun h => by
    have h2 := (M.has _).1 h
    have K := keptI l
    have hnd := ((M.perm.trans K.perm).map OpA.id).nodup_iff.2 K.nodup
    rw [List.map_append, List.nodup_append] at hnd
    exact hnd.2.2 o.id h2 o.id (List.mem_map.2 ⟨o, ho, rfl⟩) rfl
  rw [Ne, readyA_zero] at h1
  unfold readyA
  rw [if_pos hm, if_neg hn, if_neg fun h => h1 ⟨hm, hn, h⟩]
/-! ### the edge -/
def frontA (l : List OpA) : List Dot := risen ((l.filter fun o => decide (∀ p ∈ l, ¬ (p.id ≠ o.id ∧ hasP p.deps o.id))).map OpA.id)
theorem mem_frontA {l : List OpA} {d : Dot} : d ∈ frontA l ↔ ∃ o ∈ l, (∀ p ∈ l, ¬ (p.id ≠ o.id ∧ hasP p.deps o.id)) ∧ o.id = d := by
  unfold frontA
  rw [(risen_ris _).2]
  simp only [List.mem_map, List.mem_filter, decide_eq_true_eq]
  constructor
  · rintro ⟨o, ⟨h1, h2⟩, h3⟩; exact ⟨o, h1, h2, h3⟩
  · rintro ⟨o, h1, h2, h3⟩; exact ⟨o, ⟨h1, h2⟩, h3⟩
theorem not_has_own {o : OpA} (h : mayO o) : ¬ hasP o.deps o.id := fun h2 => by
  have h3 := h.1.2.2.2.2
  have := h2.2
  omega
theorem front_apart {l : List OpA} (hm : ∀ o ∈ l, mayO o) {a b : OpA} (ha : a ∈ l) (hb : b ∈ l) (h : hasP b.deps a.id) : a.id ∉ frontA l := fun hf => by
  obtain ⟨o, h1, h2, h3⟩ := mem_frontA.1 hf
  rw [h3] at h2
  refine h2 b hb ⟨fun e => not_has_own (hm b hb) ?_, h⟩
  rw [e]
  exact h
/-- what is known is closed -/
def closedL (l : List OpA) : Prop := ∀ o ∈ l, ∀ p ∈ l, hasP o.deps p.id → belowP p.deps o.deps
theorem front_covers {l : List OpA} (G : GoodL l) (hc : closedL l) (N : Int) (hN : ∀ o ∈ l, o.time ≤ N) : ∀ (n : Nat) (o : OpA), o ∈ l → N - o.time < n → o.id ∈ frontA l ∨ ∃ p ∈ l, p.id ∈ frontA l ∧ hasP p.deps o.id := by
  intro n
  induction n with
  | zero => intro o ho h; have := hN o ho; omega
  | succ n ih =>
    intro o ho h
    by_cases hf : o.id ∈ frontA l
    · exact .inl hf
    · obtain ⟨p, hp, hpo⟩ : ∃ p ∈ l, hasP p.deps o.id := by
        apply Classical.byContradiction
        intro hx
        exact hf (mem_frontA.2 ⟨o, ho, fun p hp h => hx ⟨p, hp, h.2⟩, rfl⟩)
      obtain ⟨q, hq, h1, h2⟩ := G.dep p hp _ hpo
      rw [good_same G.nodup hq ho h1] at h2
      rcases ih p hp (by omega) with h3 | ⟨q, hq, h3, h4⟩
      · exact .inr ⟨p, hp, h3, hpo⟩
      · refine .inr ⟨q, hq, h3, ?_⟩
        have hb := hc q hq p hp h4
        have hd1 := (G.may p hp).1.2.2.2.1
        have hd2 := (G.may q hq).1.2.2.2.1
        rw [hasP_iff hd1] at hpo
        have := (belowP_iff hd1 hd2).1 hb o.id.1
        exact (hasP_iff hd2).2 ⟨hpo.1, Int.le_trans hpo.2 this⟩
theorem front_all {l : List OpA} (G : GoodL l) (hc : closedL l) {o : OpA} (ho : o ∈ l) : o.id ∈ frontA l ∨ ∃ p ∈ l, p.id ∈ frontA l ∧ hasP p.deps o.id := by
  have hN : ∀ o ∈ l, o.time ≤ 1099511627776 := fun o ho => (G.may o ho).1.2.2.1
  exact front_covers G hc 1099511627776 hN (1099511627776 - o.time).toNat.succ o ho (by have := hN o ho; omega)
theorem front_nil {l : List OpA} (G : GoodL l) (hc : closedL l) : (frontA l).length = 0 ↔ l.length = 0 := by
  constructor
  · intro h
    cases l with
    | nil => rfl
    | cons o l =>
      have h0 := List.eq_nil_of_length_eq_zero h
      rcases front_all G hc (List.mem_cons_self ..) with h1 | ⟨p, -, h1, -⟩
      · rw [h0] at h1; simp at h1
      · rw [h0] at h1; simp at h1
  · intro h
    have := List.eq_nil_of_length_eq_zero h
    subst this
    rfl
theorem frontA_len (l : List OpA) : (frontA l).length ≤ l.length := by
  unfold frontA
  refine Nat.le_trans (risen_len _) ?_
  rw [List.length_map]
  exact List.length_filter_le _ _
end Go.Osj
