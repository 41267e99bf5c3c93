/- Maps in a view: as lists of keys and values; iterators. -/
import Derived.Test.YtfadbihdmohdiaaGreatDoorOsjO
namespace Go.Osj
open Go.RowKit

structure KeyE (α : Type) [DecidableEq α] where
  val : α → Value
  ks : List PK
  agg : Bool
  eq : ∀ x y, eqV ks agg (val x) (val y) = some (decide (x = y))

section
variable {α β : Type} [DecidableEq α]

def alook (k : α) : List (α × β) → Option β
  | [] => none
  | p :: r => if k = p.1 then some p.2 else alook k r
def aset (k : α) (v : β) : List (α × β) → List (α × β)
  | [] => [(k, v)]
  | p :: r => if k = p.1 then (k, v) :: r else p :: aset k v r
def adel (k : α) : List (α × β) → List (α × β)
  | [] => []
  | p :: r => if k = p.1 then r else p :: adel k r
/-- where a key stands -/
def afind (k : α) : List (α × β) → Option Nat
  | [] => none
  | p :: r => if k = p.1 then some 0 else (afind k r).map (· + 1)

theorem afind_none {k : α} : ∀ {m : List (α × β)}, afind k m = none → alook k m = none ∧ ∀ v, aset k v m = m ++ [(k, v)]
  | [], _ => ⟨rfl, fun _ => rfl⟩
  | p :: r, h => by
    simp only [afind] at h
    split at h
    · cases h
    · rename_i hk
      have hr : afind k r = none := by simpa using h
      obtain ⟨h1, h2⟩ := afind_none hr
      exact ⟨by simp [alook, hk, h1], fun v => by simp [aset, hk, h2]⟩
theorem afind_some {k : α} : ∀ {m : List (α × β)} {i : Nat}, afind k m = some i → ∃ v, m[i]? = some (k, v) ∧ alook k m = some v ∧ (∀ u, aset k u m = m.set i (k, u)) ∧ adel k m = m.eraseIdx i
  | [], i, h => by simp [afind] at h
  | p :: r, i, h => by
    simp only [afind] at h
    split at h
    · rename_i hk
      injection h with h
      subst h hk
      exact ⟨p.2, rfl, by simp [alook], fun u => by simp [aset], by simp [adel]⟩
    · rename_i hk
      cases hr : afind k r with
      | none => simp [hr] at h
      | some j =>
        simp [hr] at h
        subst h
        obtain ⟨v, h1, h2, h3, h4⟩ := afind_some hr
        exact ⟨v, by simpa using h1, by simp [alook, hk, h2], fun u => by simp [aset, hk, h3], by simp [adel, hk, h4]⟩
theorem adel_none {k : α} : ∀ {m : List (α × β)}, afind k m = none → adel k m = m
  | [], _ => rfl
  | p :: r, h => by
    simp only [afind] at h
    split at h
    · cases h
    · rename_i hk
      simp [adel, hk, adel_none (m := r) (by simpa using h)]

variable (KE : KeyE α) (VE : β → Value)
def encM (m : List (α × β)) : List (Value × Value) := m.map fun p => (KE.val p.1, VE p.2)

theorem mfind_enc (k : α) : ∀ m : List (α × β), mfind KE.ks KE.agg (KE.val k) (encM KE VE m) = some ((afind k m).bind fun i => (m[i]?).map fun p => (i, VE p.2))
  | [] => rfl
  | p :: r => by
    simp only [encM, List.map_cons, mfind, KE.eq, afind]
    by_cases h : k = p.1
    · simp [h]
    · simp only [h, decide_false, if_false]
      have := mfind_enc k r
      simp only [encM] at this
      rw [this]
      cases afind k r with
      | none => rfl
      | some i => cases hr : r[i]? <;> simp [hr]
theorem okV_enc (k : α) : okV KE.ks KE.agg (KE.val k) = true := by simp [okV, KE.eq]

/-- a map: these keys and values -/
def MapT (rw : Bool) (S : St) (b : Nat) (m : List (α × β)) : Prop :=
  b < S.n ∧ (m.map Prod.fst).Nodup ∧ ∃ es clock, S.obj b = some (.map rw es clock) ∧ kv es = encM KE VE m ∧ (es.map (·.born)).Nodup ∧ ∀ e ∈ es, e.born < clock

theorem MapT.congr {rw : Bool} {S S' : St} {b : Nat} {m : List (α × β)} (h : MapT KE VE rw S b m) (hn : S.n ≤ S'.n) (ho : S'.obj b = S.obj b) : MapT KE VE rw S' b m := by
  obtain ⟨h1, h2, es, clock, h3, h4⟩ := h
  exact ⟨by omega, h2, es, clock, by rw [ho]; exact h3, h4⟩
theorem MapT.ext {rw : Bool} {S S' : St} {b : Nat} {m : List (α × β)} (h : MapT KE VE rw S b m) (he : S.Ext S') : MapT KE VE rw S' b m := h.congr KE VE he.n (he.obj b h.1)
theorem MapT.new {S : St} {b : Nat} : MapT KE VE true (S.put b (.map true [] 0)) b ([] : List (α × β)) :=
  ⟨St.lt_put_self _ _ _, by simp, [], 0, St.put_same _ _ _, rfl, by simp, by simp⟩

theorem MapT.len {rw : Bool} {S : St} {fr : Fr} {b : Nat} {m : List (α × β)} {x : Operand} (h : MapT KE VE rw S b m) (hx : ev fr x = .map (some b)) : evR S fr (.len .mp x) = some (.int .i64 m.length) := by
  obtain ⟨h1, h2, es, clock, h3, h4, -⟩ := h
  have : es.length = m.length := by
    have := congrArg List.length h4
    simpa [kv, encM] using this
  simp [evR, hx, h3, this]

theorem MapT.look {rw : Bool} {S : St} {fr : Fr} {b : Nat} {m : List (α × β)} {z : Value} {ok : Bool} {x y : Operand} {k : α} (h : MapT KE VE rw S b m) (hx : ev fr x = .map (some b)) (hy : ev fr y = KE.val k) :
    evR S fr (.look KE.ks KE.agg z ok x y) = some (if ok then .tuple #[((alook k m).map VE).getD z, .bool (alook k m).isSome] else ((alook k m).map VE).getD z) := by
  obtain ⟨h1, h2, es, clock, h3, h4, -⟩ := h
  simp only [evR, hx, hy, okV_enc, h3, h4, mfind_enc, if_true]
  cases hf : afind k m with
  | none => simp [(afind_none hf).1]
  | some i =>
    obtain ⟨v, g1, g2, -⟩ := afind_some hf
    simp [g1, g2]

theorem MapT.lookV {rw : Bool} {S : St} {b : Nat} {m : List (α × β)} (h : MapT KE VE rw S b m) (z : Value) (ok : Bool) (k : α) :
    lookV S KE.ks KE.agg z ok (.map (some b)) (KE.val k) = some (if ok then .tuple #[((alook k m).map VE).getD z, .bool (alook k m).isSome] else ((alook k m).map VE).getD z) :=
  h.look KE VE rfl rfl
theorem MapT.mlenV {rw : Bool} {S : St} {b : Nat} {m : List (α × β)} (h : MapT KE VE rw S b m) : mlenV S (.map (some b)) = some (.int .i64 m.length) := h.len KE VE rfl

theorem aset_keys {k : α} {v : β} : ∀ {m : List (α × β)}, (m.map Prod.fst).Nodup → ((aset k v m).map Prod.fst).Nodup ∧ ∀ x, x ∈ (aset k v m).map Prod.fst ↔ x = k ∨ x ∈ m.map Prod.fst
  | [], _ => by simp [aset]
  | p :: r, h => by
    simp only [List.map_cons, List.nodup_cons] at h
    simp only [aset]
    split
    · rename_i hk
      subst hk
      exact ⟨by simpa using h, fun x => by simp⟩
    · rename_i hk
      obtain ⟨h1, h2⟩ := aset_keys (k := k) (v := v) h.2
      refine ⟨?_, fun x => ?_⟩
      · simp only [List.map_cons, List.nodup_cons, h2, not_or]
        exact ⟨⟨fun e => hk e.symm, h.1⟩, h1⟩
      · simp only [List.map_cons, List.mem_cons, h2]
        constructor
        · rintro (h | h | h)
          · exact .inr (.inl h)
          · exact .inl h
          · exact .inr (.inr h)
        · rintro (h | h | h)
          · exact .inr (.inl h)
          · exact .inl h
          · exact .inr (.inr h)

theorem wE_mset {P : Program} {fr : Fr} {S : St} {kk : KV} {b : Nat} {m : List (α × β)} {x y z : Operand} {k : α} {v : β} (h : MapT KE VE true S b m) (hx : ev fr x = .map (some b)) (hy : ev fr y = KE.val k) (hz : ev fr z = VE v)
    (hk : ∀ S', MapT KE VE true S' b (aset k v m) → St.But (.map (some b)) S S' → kk.run undef S') : @wE P (.mset KE.ks KE.agg x y z) fr S kk := by
  obtain ⟨h1, h2, es, clock, h3, h4, h5, h6⟩ := h
  have hkeys := (aset_keys (v := v) (k := k) h2).1
  have hbut : ∀ o, St.But (.map (some b)) S (S.put b o) := fun o => ⟨by rw [St.put_n]; omega, fun i hi hne => St.put_other _ _ _ (fun e => hne (by rw [e]; rfl))⟩
  unfold wE
  simp only [JE, hx, hy, hz, h3]
  refine ⟨okV_enc KE k, _, by rw [h4]; exact mfind_enc KE VE k m, ?_⟩
  cases hf : afind k m with
  | none =>
    simp only [Option.bind_none]
    refine hk _ ⟨St.lt_put_self _ _ _, hkeys, _, _, St.put_same _ _ _, ?_, ?_, ?_⟩ (hbut _)
    · rw [(afind_none hf).2]
      simp only [kv, encM, List.map_append, List.map_cons, List.map_nil] at h4 ⊢
      rw [h4]
    · simp only [List.map_append, List.map_cons, List.map_nil]
      rw [List.nodup_append]
      refine ⟨h5, by simp, fun a ha c hc => ?_⟩
      simp at hc
      subst hc
      obtain ⟨e, he, rfl⟩ := List.mem_map.1 ha
      have := h6 e he
      omega
    · intro e he
      rcases List.mem_append.1 he with he | he
      · have := h6 e he; omega
      · simp at he; subst he; exact Nat.lt_succ_self _
  | some i =>
    obtain ⟨u, g1, g2, g3, -⟩ := afind_some hf
    simp only [Option.bind_some, g1, Option.map_some]
    refine hk _ ⟨St.lt_put_self _ _ _, hkeys, _, _, St.put_same _ _ _, ?_, ?_, ?_⟩ (hbut _)
    · rw [g3]
      simp only [kv, encM] at h4 ⊢
      rw [List.map_set, ← h4]
      apply List.ext_getElem?
      intro j
      simp only [List.getElem?_map, List.getElem?_modify, List.getElem?_set, List.length_map]
      by_cases hij : i = j
      · subst hij
        have hl : i < es.length := by
          have := congrArg List.length h4
          simp only [List.length_map] at this
          have := (List.getElem?_eq_some_iff.1 g1).1
          omega
        simp [hl]
      · simp [hij]
    · have : (es.modify i fun e => { e with key := KE.val k, val := VE v }).map (·.born) = es.map (·.born) := by
        apply List.ext_getElem?
        intro j
        simp only [List.getElem?_map, List.getElem?_modify]
        by_cases hij : i = j
        · subst hij; cases es[i]? <;> simp
        · simp [hij]
      rw [this]
      exact h5
    · intro e he
      rw [List.mem_iff_getElem?] at he
      obtain ⟨j, hj⟩ := he
      simp only [List.getElem?_modify] at hj
      by_cases hij : i = j
      · subst hij
        simp only [if_true] at hj
        cases hq : es[i]? with
        | none => simp [hq] at hj
        | some q => simp [hq] at hj; subst hj; exact h6 q (List.mem_of_getElem? hq)
      · simp [hij] at hj
        exact h6 e (List.mem_of_getElem? hj)

theorem adel_keys {k : α} : ∀ {m : List (α × β)}, (m.map Prod.fst).Nodup → ((adel k m).map Prod.fst).Nodup ∧ ∀ x, x ∈ (adel k m).map Prod.fst ↔ x ≠ k ∧ x ∈ m.map Prod.fst
  | [], _ => by simp [adel]
  | p :: r, h => by
    simp only [List.map_cons, List.nodup_cons] at h
    simp only [adel]
    split
    · rename_i hk
      refine ⟨h.2, fun x => ?_⟩
      simp only [List.map_cons, List.mem_cons]
      constructor
      · intro hx
        exact ⟨fun e => h.1 (by rw [← hk, ← e]; exact hx), .inr hx⟩
      · rintro ⟨h1, h2 | h2⟩
        · exact absurd (h2.trans hk.symm) h1
        · exact h2
    · rename_i hk
      obtain ⟨h1, h2⟩ := adel_keys (k := k) h.2
      refine ⟨?_, fun x => ?_⟩
      · simp only [List.map_cons, List.nodup_cons, h2, not_and]
        exact ⟨fun _ hx => h.1 hx, h1⟩
      · simp only [List.map_cons, List.mem_cons, h2]
        constructor
        · rintro (h3 | h3)
          · exact ⟨fun e => hk (by rw [← e, h3]), .inl h3⟩
          · exact ⟨h3.1, .inr h3.2⟩
        · rintro ⟨h3, h4 | h4⟩
          · exact .inl h4
          · exact .inr ⟨h3, h4⟩

theorem map_eraseIdx' {γ δ : Type} (f : γ → δ) : ∀ (l : List γ) (i : Nat), (l.eraseIdx i).map f = (l.map f).eraseIdx i
  | [], i => by simp
  | x :: l, 0 => rfl
  | x :: l, i + 1 => by simp only [List.eraseIdx_cons_succ, List.map_cons, map_eraseIdx' f l i]

theorem wE_mdel {P : Program} {fr : Fr} {S : St} {kk : KV} {b : Nat} {m : List (α × β)} {x y : Operand} {k : α} (h : MapT KE VE true S b m) (hx : ev fr x = .map (some b)) (hy : ev fr y = KE.val k)
    (hk : ∀ S', MapT KE VE true S' b (adel k m) → St.But (.map (some b)) S S' → kk.run (.tuple #[]) S') : @wE P (.mdel KE.ks KE.agg x y) fr S kk := by
  obtain ⟨h1, h2, es, clock, h3, h4, h5, h6⟩ := h
  have hkeys := (adel_keys (k := k) h2).1
  have hbut : ∀ o, St.But (.map (some b)) S (S.put b o) := fun o => ⟨by rw [St.put_n]; omega, fun i hi hne => St.put_other _ _ _ (fun e => hne (by rw [e]; rfl))⟩
  unfold wE
  simp only [JE, hx, hy, h3]
  refine ⟨okV_enc KE k, _, by rw [h4]; exact mfind_enc KE VE k m, ?_⟩
  cases hf : afind k m with
  | none =>
    simp only [Option.bind_none]
    refine hk _ ⟨St.lt_put_self _ _ _, hkeys, _, _, St.put_same _ _ _, ?_, h5, h6⟩ (hbut _)
    rw [adel_none hf]
    exact h4
  | some i =>
    obtain ⟨u, g1, g2, -, g4⟩ := afind_some hf
    simp only [Option.bind_some, g1, Option.map_some]
    refine hk _ ⟨St.lt_put_self _ _ _, hkeys, _, _, St.put_same _ _ _, ?_, ?_, ?_⟩ (hbut _)
    · rw [g4]
      simp only [kv, encM] at h4 ⊢
      rw [map_eraseIdx', map_eraseIdx', h4]
    · rw [map_eraseIdx']
      exact h5.sublist (List.eraseIdx_sublist _ _)
    · exact fun e he => h6 e (List.mem_of_mem_eraseIdx he)
end
/-! ### looking up -/
section
variable {α β : Type} [DecidableEq α]
theorem alook_aset (k x : α) (v : β) : ∀ m : List (α × β), alook x (aset k v m) = if x = k then some v else alook x m
  | [] => by simp [aset, alook]
  | p :: r => by
    unfold aset
    by_cases hk : k = p.1
    · rw [if_pos hk]
      simp only [alook]
      by_cases hx : x = k
      · rw [if_pos hx, if_pos hx]
      · rw [if_neg hx, if_neg hx, if_neg (by rw [← hk]; exact hx)]
    · rw [if_neg hk]
      simp only [alook, alook_aset k x v r]
      by_cases hx : x = p.1
      · rw [if_pos hx, if_pos hx, if_neg (by intro e; exact hk (e ▸ hx))]
      · rw [if_neg hx, if_neg hx]
theorem alook_none {x : α} : ∀ {m : List (α × β)}, alook x m = none ↔ x ∉ m.map Prod.fst
  | [] => by simp [alook]
  | p :: r => by
    simp only [alook, List.map_cons, List.mem_cons, not_or]
    by_cases hx : x = p.1
    · simp [hx]
    · rw [if_neg hx, alook_none (m := r)]
      simp [hx]
theorem alook_isSome {x : α} {m : List (α × β)} : (alook x m).isSome = true ↔ x ∈ m.map Prod.fst := by
  have := alook_none (x := x) (m := m)
  cases h : alook x m with
  | none => simp [h] at this; simpa using this
  | some v =>
    simp only [h, reduceCtorEq, false_iff, Decidable.not_not] at this
    simpa using this
theorem alook_adel (k x : α) : ∀ {m : List (α × β)}, (m.map Prod.fst).Nodup → alook x (adel k m) = if x = k then none else alook x m
  | [], _ => by simp [adel, alook]
  | p :: r, h => by
    simp only [List.map_cons, List.nodup_cons] at h
    unfold adel
    by_cases hk : k = p.1
    · rw [if_pos hk]
      by_cases hx : x = k
      · rw [if_pos hx, alook_none]
        rw [hx, hk]
        exact h.1
      · rw [if_neg hx]
        simp only [alook]
        rw [if_neg (by rw [← hk]; exact hx)]
    · rw [if_neg hk]
      simp only [alook, alook_adel k x h.2]
      by_cases hx : x = p.1
      · rw [if_pos hx, if_pos hx, if_neg (by intro e; exact hk (e ▸ hx))]
      · rw [if_neg hx, if_neg hx]
theorem alook_mem {x : α} {v : β} : ∀ {m : List (α × β)}, alook x m = some v → (x, v) ∈ m
  | [], h => by simp [alook] at h
  | p :: r, h => by
    simp only [alook] at h
    split at h
    · rename_i hx
      injection h with h
      subst h hx
      simp
    · exact List.mem_cons_of_mem _ (alook_mem h)
theorem mem_alook {x : α} {v : β} : ∀ {m : List (α × β)}, (m.map Prod.fst).Nodup → (x, v) ∈ m → alook x m = some v
  | [], _, h => by simp at h
  | p :: r, hn, h => by
    simp only [List.map_cons, List.nodup_cons] at hn
    simp only [alook]
    rcases List.mem_cons.1 h with h | h
    · subst h; simp
    · rw [if_neg, mem_alook hn.2 h]
      intro e
      exact hn.1 (e ▸ List.mem_map_of_mem (f := Prod.fst) h)
end
end Go.Osj
