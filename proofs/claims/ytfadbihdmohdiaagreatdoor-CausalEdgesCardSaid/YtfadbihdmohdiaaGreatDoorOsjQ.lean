/- Ranging over a map. -/
import Derived.Test.YtfadbihdmohdiaaGreatDoorOsjP
namespace Go.Osj
open Go.RowKit
section
variable {α β : Type} [DecidableEq α] (KE : KeyE α) (VE : β → Value)

/-- an iterator at block r over the map at b, of which 'vis' has been visited -/
def IterT (rw : Bool) (S : St) (r b : Nat) (m vis : List (α × β)) : Prop :=
  r < S.n ∧ b < S.n ∧ (m.map Prod.fst).Nodup ∧ ∃ es clock, S.obj b = some (.map rw es clock) ∧ kv es = encM KE VE m ∧ (es.map (·.born)).Nodup ∧ (∀ e ∈ es, e.born < clock) ∧
    ∃ idx : List Nat, idx.Nodup ∧ (∀ i ∈ idx, i < es.length) ∧ S.obj r = some (.iter (some b) clock (idx.map fun i => ((es[i]?).map (·.born)).getD 0).toArray clock) ∧ vis = idx.filterMap fun i => m[i]?

theorem IterT.map {rw : Bool} {S : St} {r b : Nat} {m vis : List (α × β)} (h : IterT KE VE rw S r b m vis) : MapT KE VE rw S b m := by
  obtain ⟨h1, h2, h3, es, clock, h4, h5, h6, h7, -⟩ := h
  exact ⟨h2, h3, es, clock, h4, h5, h6, h7⟩
theorem IterT.congr {rw : Bool} {S S' : St} {r b : Nat} {m vis : List (α × β)} (h : IterT KE VE rw S r b m vis) (hn : S.n ≤ S'.n) (ho : S'.obj b = S.obj b) (hr : S'.obj r = S.obj r) : IterT KE VE rw S' r b m vis := by
  obtain ⟨h1, h2, h3, es, clock, h4, h5, h6, h7, idx, h8, h9, h10, h11⟩ := h
  exact ⟨by omega, by omega, h3, es, clock, by rw [ho]; exact h4, h5, h6, h7, idx, h8, h9, by rw [hr]; exact h10, h11⟩

theorem wE_rng {P : Program} {fr : Fr} {S : St} {k : KV} {rw : Bool} {b : Nat} {m : List (α × β)} {x : Operand} (h : MapT KE VE rw S b m) (hx : ev fr x = .map (some b))
    (hk : ∀ r S', S.n ≤ r → IterT KE VE rw S' r b m [] → S.Ext S' → k.run (.pointer (some ⟨r, 0, none⟩)) S') : @wE P (.rng false x) fr S k := by
  obtain ⟨h1, h2, es, clock, h3, h4, h5, h6⟩ := h
  unfold wE
  simp only [JE, hx, h3]
  intro r hr
  refine hk r _ hr ⟨St.lt_put_self _ _ _, St.lt_put h1 _ _, h2, es, clock, ?_, h4, h5, h6, [], by simp, by simp, St.put_same _ _ _, rfl⟩ ((St.Ext.refl S).put hr _)
  rw [St.put_other _ _ _ (by omega)]
  exact h3

theorem kv_len {es : List MapEntry} {m : List (α × β)} (h : kv es = encM KE VE m) : es.length = m.length := by
  have := congrArg List.length h
  simpa [kv, encM] using this
theorem kv_at {es : List MapEntry} {m : List (α × β)} (h : kv es = encM KE VE m) {j : Nat} {e : MapEntry} (he : es[j]? = some e) : ∃ p, m[j]? = some p ∧ e.key = KE.val p.1 ∧ e.val = VE p.2 := by
  have h1 : (kv es)[j]? = (encM KE VE m)[j]? := by rw [h]
  simp only [kv, encM, List.getElem?_map, he, Option.map_some] at h1
  cases hm : m[j]? with
  | none => simp [hm] at h1
  | some p =>
    simp [hm] at h1
    exact ⟨p, rfl, h1.1, h1.2⟩

theorem nodup_at {γ : Type} {l : List γ} (h : l.Nodup) {i j : Nat} {x : γ} (hi : l[i]? = some x) (hj : l[j]? = some x) : i = j := by
  obtain ⟨h1, h2⟩ := List.getElem?_eq_some_iff.1 hi
  obtain ⟨h3, h4⟩ := List.getElem?_eq_some_iff.1 hj
  exact (List.getElem_inj h).1 (h2.trans h4.symm)

theorem range_all {γ : Type} : ∀ m : List γ, (List.range m.length).filterMap (fun i => m[i]?) = m
  | [] => rfl
  | x :: m => by
    rw [List.length_cons, List.range_succ_eq_map, List.filterMap_cons]
    simp only [List.getElem?_cons_zero, List.filterMap_map]
    congr 1
    exact range_all m

theorem wE_nxt {P : Program} {fr : Fr} {S : St} {k : KV} {rw : Bool} {r b : Nat} {m vis : List (α × β)} {x : Operand} (h : IterT KE VE rw S r b m vis) (hx : ev fr x = .pointer (some ⟨r, 0, none⟩))
    (hdone : vis.Perm m → k.run (.tuple #[.bool false]) S)
    (hstep : ∀ p S', p ∈ m → p ∉ vis → IterT KE VE rw S' r b m (vis ++ [p]) → St.But (.pointer (some ⟨r, 0, none⟩)) S S' → k.run (.tuple #[.bool true, KE.val p.1, VE p.2]) S') : @wE P (.nxt false x) fr S k := by
  obtain ⟨h1, h2, h3, es, clock, h4, h5, h6, h7, idx, h8, h9, h10, h11⟩ := h
  unfold wE
  simp only [JE, hx, h10, h4]
  have hseen : ∀ i e, es[i]? = some e → ((idx.map fun i => ((es[i]?).map (·.born)).getD 0).toArray.contains e.born = true ↔ i ∈ idx) := by
    intro i e he
    simp only [List.contains_toArray, List.contains_eq_mem, decide_eq_true_eq, List.mem_map]
    constructor
    · rintro ⟨j, hj, hb⟩
      have hjl := h9 j hj
      have hje : es[j]? = some es[j] := by simp [hjl]
      rw [hje] at hb
      simp only [Option.map_some, Option.getD_some] at hb
      have := nodup_at h6 (i := i) (j := j) (x := e.born) (by simp [he]) (by simp [hje, hb])
      subst this
      exact hj
    · intro hi
      exact ⟨i, hi, by simp [he]⟩
  refine ⟨?_, fun hall => hdone ?_, fun e he => ?_⟩
  · cases hes : es with
    | nil => simp
    | cons e es' =>
      have := h7 e (by simp [hes])
      simp only [List.all_cons]
      have hlt : decide (clock ≤ e.born) = false := decide_eq_false (by omega)
      rw [hlt]
      simp
  · have hsub : ∀ i, i < es.length → i ∈ idx := by
      intro i hi
      have hie : es[i]? = some es[i] := by simp [hi]
      by_cases hm : i ∈ idx
      · exact hm
      · exfalso
        have hu : es[i] ∈ unborn (idx.map fun i => ((es[i]?).map (·.born)).getD 0).toArray es := by
          unfold unborn
          rw [List.mem_filter]
          refine ⟨List.getElem_mem hi, ?_⟩
          cases hc : (idx.map fun i => ((es[i]?).map (·.born)).getD 0).toArray.contains es[i].born with
          | false => rfl
          | true => exact absurd ((hseen i _ hie).1 hc) hm
        have := List.all_eq_true.1 hall _ hu
        have hb := h7 es[i] (List.getElem_mem hi)
        simp at this
        omega
    have hperm : idx.Perm (List.range m.length) := by
      rw [List.perm_ext_iff_of_nodup h8 List.nodup_range]
      intro i
      rw [List.mem_range, ← kv_len KE VE h5]
      exact ⟨h9 i, hsub i⟩
    rw [h11]
    refine (hperm.filterMap _).trans ?_
    rw [range_all]
  · unfold unborn at he
    rw [List.mem_filter] at he
    obtain ⟨he, hun⟩ := he
    obtain ⟨j, hj, rfl⟩ := List.mem_iff_getElem.1 he
    have hje : es[j]? = some es[j] := by simp [hj]
    have hjn : j ∉ idx := by
      intro hm
      rw [(hseen j _ hje).2 hm] at hun
      simp at hun
    obtain ⟨p, hp, hpk, hpv⟩ := kv_at KE VE h5 hje
    rw [hpk, hpv]
    refine hstep p _ (List.mem_of_getElem? hp) ?_ ⟨St.lt_put_self _ _ _, St.lt_put h2 _ _, h3, es, clock, ?_, h5, h6, h7, idx ++ [j], ?_, ?_, ?_, ?_⟩ ⟨by rw [St.put_n]; omega, fun i hi hne => St.put_other _ _ _ (fun e => hne (by rw [e]; rfl))⟩
    · rw [h11, List.mem_filterMap]
      rintro ⟨i, hi, hip⟩
      have hk1 : (m.map Prod.fst)[i]? = some p.1 := by simp [hip]
      have hk2 : (m.map Prod.fst)[j]? = some p.1 := by simp [hp]
      have := nodup_at h3 hk1 hk2
      subst this
      exact hjn hi
    · rw [St.put_other _ _ _ (fun e => by subst e; rw [h4] at h10; cases h10)]
      exact h4
    · rw [List.nodup_append]
      exact ⟨h8, by simp, fun a ha c hc => by simp at hc; subst hc; exact fun e => hjn (e ▸ ha)⟩
    · intro i hi
      rcases List.mem_append.1 hi with hi | hi
      · exact h9 i hi
      · simp at hi; subst hi; exact hj
    · rw [St.put_same]
      congr 2
      simp [hje]
    · rw [h11, List.filterMap_append]
      simp [hp]

theorem wE_ent {P : Program} {fr : Fr} {S : St} {k : KV} {rw : Bool} {r b : Nat} {m vis : List (α × β)} {p : α × β} {x : Operand} (h : IterT KE VE rw S r b m (vis ++ [p])) (hx : ev fr x = .pointer (some ⟨r, 0, none⟩))
    (hk : k.run (.tuple #[KE.val p.1, VE p.2]) S) : @wE P (.ent x) fr S k := by
  obtain ⟨h1, h2, h3, es, clock, h4, h5, h6, h7, idx, h8, h9, h10, h11⟩ := h
  unfold wE
  simp only [JE, hx, h10, h4]
  rcases List.eq_nil_or_concat idx with rfl | ⟨idx', j, rfl⟩
  · simp at h11
  · simp only [List.concat_eq_append] at *
    have hj := h9 j (by simp)
    have hje : es[j]? = some es[j] := by simp [hj]
    obtain ⟨q, hq, hqk, hqv⟩ := kv_at KE VE h5 hje
    have hpq : p = q := by
      rw [List.filterMap_append] at h11
      simp only [List.filterMap_cons, hq, List.filterMap_nil] at h11
      have := (List.append_inj' h11 rfl).2
      simpa using this
    subst hpq
    refine ⟨es[j].born, es[j], by simp [hje], trivial, ?_, by rw [hqk, hqv]; exact hk⟩
    rw [List.find?_eq_some_iff_getElem]
    refine ⟨by simp, j, hj, rfl, fun i hi => ?_⟩
    simp only [Bool.not_eq_true', beq_eq_false_iff_ne, ne_eq]
    intro hb
    have hie : es[i]? = some es[i] := by simp [show i < es.length by omega]
    have := nodup_at h6 (i := i) (j := j) (x := es[j].born) (by simp [hie, hb]) (by simp [hje])
    omega

theorem IterT.len {rw : Bool} {S : St} {r b : Nat} {m vis : List (α × β)} (h : IterT KE VE rw S r b m vis) : vis.length ≤ m.length := by
  obtain ⟨h1, h2, h3, es, clock, h4, h5, h6, h7, idx, h8, h9, h10, h11⟩ := h
  have h12 : idx.length ≤ (List.range m.length).length := h8.length_le_of_subset fun i hi => by
    have := h9 i hi
    rw [kv_len KE VE h5] at this
    simpa using this
  rw [h11]
  have := List.length_filterMap_le (fun i => m[i]?) idx
  simp at h12
  omega
end
end Go.Osj
