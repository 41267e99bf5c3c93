/- Stories: what is known is closed. -/
import Derived.Test.YtfadbihdmohdiaaGreatDoorLB
import Derived.Test.YtfadbihdmohdiaaGreatDoorGF
set_option linter.unusedSimpArgs false
set_option linter.unusedVariables false
namespace Go.Osj
structure ClosedP (out : List OpA) (v : List Dot) : Prop where
  is : isV v
  known : ∀ d, hasP v d → ∃ p ∈ out, p.id = d
  closed : ∀ p ∈ out, hasP v p.id → belowP p.deps v
theorem belowP_with {u v : List Dot} (hu : isV u) (hv : isV v) (d : Dot) (h : belowP u v) : belowP u (withV v d) := by
  rw [belowP_iff hu (withV_is hv _)]
  intro a
  exact Int.le_trans ((belowP_iff hu hv).1 h a) (getV_with_le hv _ _)
theorem ClosedP.with {out : List OpA} {v : List Dot} {o : OpA} (hn : (out.map OpA.id).Nodup) (hmo : ∀ p ∈ out, mayO p) (ho : o ∈ out) (C : ClosedP out v) (hb : belowP o.deps v) : ClosedP out (withV v o.id) := by
  refine ⟨withV_is C.is _, fun d h => ?_, fun p hp h => ?_⟩
  · rcases (hasP_with' C.is (hmo o ho) hb d).1 h with h | h
    · exact C.known d h
    · exact ⟨o, ho, h.symm⟩
  · have hd := (hmo p hp).1.2.2.2.1
    rcases (hasP_with' C.is (hmo o ho) hb _).1 h with h | h
    · exact belowP_with hd C.is _ (C.closed p hp h)
    · obtain rfl := good_same hn hp ho h
      exact belowP_with hd C.is _ hb
theorem ClosedP.more {out : List OpA} {v : List Dot} {o : OpA} (C : ClosedP out v) (hn : ∀ c ∈ out, c.id ≠ o.id) : ClosedP (out ++ [o]) v := by
  refine ⟨C.is, fun d h => ?_, fun p hp h => ?_⟩
  · obtain ⟨p, h1, h2⟩ := C.known d h
    exact ⟨p, List.mem_append_left _ h1, h2⟩
  · rcases List.mem_append.1 hp with hp | hp
    · exact C.closed p hp h
    · obtain rfl : p = o := by simpa using hp
      obtain ⟨q, h1, h2⟩ := C.known _ h
      exact absurd h2 (hn q h1)
theorem ClosedP.learn {out : List OpA} (hn : (out.map OpA.id).Nodup) (hmo : ∀ p ∈ out, mayO p) : ∀ (l : List OpA) (v : List Dot), (∀ o ∈ l, o ∈ out) → ClosedP out v → ClosedP out (learnA l v)
  | [], v, _, C => C
  | o :: l, v, hl, C => by
    unfold learnA
    rw [List.foldl_cons]
    split
    · rename_i hb
      exact ClosedP.learn hn hmo l _ (fun x hx => hl x (List.mem_cons_of_mem _ hx)) (C.with hn hmo (hl o (List.mem_cons_self ..)) hb)
    · exact ClosedP.learn hn hmo l _ (fun x hx => hl x (List.mem_cons_of_mem _ hx)) C
structure TaleC (s : Tale) : Prop where
  kn : ∀ w, ClosedP s.out (s.knows w)
  dp : ∀ o ∈ s.out, ClosedP s.out o.deps ∧ ∀ p ∈ s.out, hasP o.deps p.id → p.time < o.time
theorem closed_nil (out : List OpA) : ClosedP out [] := ⟨isV_nil, fun d h => absurd h (hasP_nil d), fun p _ h => absurd h (hasP_nil _)⟩
theorem tale0_C : TaleC tale0 := ⟨fun w => closed_nil _, fun o h => by simp [tale0] at h⟩
theorem belowP_refl {v : List Dot} (h : isV v) : belowP v v := (belowP_iff h h).2 fun _ => Int.le_refl _
theorem stepA_C {s : Tale} (F : TaleF s) (h : TaleC s) (m : Mk) : TaleC (stepA s m) := by
  have F' := stepA_F F m
  unfold stepA at *
  simp only at *
  generalize hv : learnA (s.out.take ((absZ m.knows).tmod (s.out.length + 1)).toNat) (s.knows (whoA m)) = v at *
  have C : ClosedP s.out v := hv ▸ ClosedP.learn F.ids F.may _ _ (fun o ho => List.mem_of_mem_take ho) (h.kn _)
  have hvg : ∀ a, getV (s.knows (whoA m)) a ≤ getV v a := fun a => hv ▸ getV_learn_le (F.isv _) a _
  generalize whoA m = w at *
  obtain ⟨oid, otm⟩ := oneA_same s.out v (actA w) m
  have odp := oneA_deps s.out v (actA w) m
  generalize oneA s.out v (actA w) m = o at *
  by_cases hm : mayO o
  · rw [if_pos hm] at F' ⊢
    have hnew : ∀ c ∈ s.out, c.id ≠ o.id := fun c hc he => by
      obtain ⟨u, hu, h1, h2⟩ := F.act c hc
      rw [he, oid] at h1 h2
      have hwu : w = u := actA_inj h1
      subst hwu
      have := hvg (actA w)
      simp only at h2
      omega
    have C' := C.more hnew
    refine ⟨fun u => ?_, fun c hc => ?_⟩
    · simp only
      split
      · exact C'.with F'.ids F'.may (by simp) (by rw [odp]; exact belowP_refl C.is)
      · exact (h.kn u).more hnew
    · simp only at hc ⊢
      rcases List.mem_append.1 hc with hc | hc
      · obtain ⟨D, ht⟩ := h.dp c hc
        refine ⟨D.more hnew, fun p hp hd => ?_⟩
        rcases List.mem_append.1 hp with hp | hp
        · exact ht p hp hd
        · obtain rfl : p = o := by simpa using hp
          obtain ⟨q, h1, h2⟩ := D.known _ hd
          exact absurd h2 (hnew q h1)
      · obtain rfl : c = o := by simpa using hc
        rw [odp]
        refine ⟨C', fun p hp hd => ?_⟩
        rcases List.mem_append.1 hp with hp | hp
        · have := latestA_ge hp hd
          omega
        · obtain rfl : p = c := by simpa using hp
          obtain ⟨q, h1, h2⟩ := C.known _ hd
          exact absurd h2 (hnew q h1)
  · rw [if_neg hm]
    refine ⟨fun u => ?_, h.dp⟩
    simp only
    split
    · exact C
    · exact h.kn u
theorem taleA_C (l : List Mk) : TaleC (taleA l) := by
  have : ∀ (l : List Mk) (s : Tale), TaleF s → TaleC s → TaleC (l.foldl stepA s) := by
    intro l
    induction l with
    | nil => exact fun s _ h => h
    | cons m l ih => exact fun s F h => ih _ (stepA_F F m) (stepA_C F h m)
  exact this _ _ tale0_F tale0_C
theorem story_good (l : List Mk) : GoodL (storyA l) ∧ closedL (storyA l) := by
  have F := taleA_F l
  have C := taleA_C l
  refine ⟨⟨F.may, F.ids, fun o ho d hd => ?_⟩, fun o ho p hp h => (C.dp o ho).1.closed p hp h⟩
  obtain ⟨p, hp, rfl⟩ := (C.dp o ho).1.known d hd
  exact ⟨p, hp, rfl, (C.dp o ho).2 p hp hd⟩
theorem story_len (l : List Mk) : (storyA l).length ≤ 60 := by
  have h := (tale_ok l 60 (Nat.le_refl _)).1
  rw [List.length_take] at h
  exact Nat.le_trans h (Nat.min_le_left _ _)
theorem story_deps (l : List Mk) : ∀ o ∈ storyA l, o.deps.length ≤ 10000 := fun o ho => ((tale_ok l 60 (Nat.le_refl _)).2.2 o ho).2
end Go.Osj
