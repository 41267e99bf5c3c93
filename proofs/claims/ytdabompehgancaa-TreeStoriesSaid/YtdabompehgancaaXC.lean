/- Trees of blocks: a move behind all others. -/
import Derived.Test.YtdabompehgancaaXB
set_option linter.unusedSimpArgs false
set_option linter.unusedVariables false
namespace Go.Osj
theorem insM_last {L : List Mv} {m : Mv} (ht : ∀ x ∈ L, x.time < m.time) : insM m L = L ++ [m] := by
  unfold insM
  have e1 : L.filter (fun x => decide (aheadM x m)) = L := List.filter_eq_self.2 fun x hx => decide_eq_true (.inl (ht x hx))
  have e2 : L.filter (fun x => !decide (aheadM x m)) = [] := List.filter_eq_nil_iff.2 fun x hx => by
    have : aheadM x m := .inl (ht x hx)
    simpa using this
  rw [e1, e2]
theorem tookP_snoc {L : List Mv} {m : Mv} (hid : m.id ∉ L.map Mv.id) : tookP (L ++ [m]) m.id ↔ takesP (runS L) m := by
  unfold tookP
  rw [runL_snoc]
  constructor
  · rintro ⟨e, he, h1, h2⟩
    rcases List.mem_append.1 he with he | he
    · exact absurd (h1 ▸ List.mem_map_of_mem (runL_took he)) hid
    · obtain rfl : e = doE (runS L) m := by simpa using he
      exact of_decide_eq_true h2
  · intro h
    exact ⟨doE (runS L) m, by simp, rfl, decide_eq_true h⟩
theorem key_block {L : List Mv} {d : Dot'} (h : (alook d (runS L)).isSome = true) : ∃ x ∈ L, x.block = d := by
  rcases look_run L d with ⟨g1, -⟩ | ⟨A, e, C, g1, g2, g3, -⟩
  · rw [g1] at h; cases h
  · exact ⟨e.mv, runL_took (by rw [g1]; simp), g3⟩
/-- moves that came in -/
def GoodM (L : List Mv) : Prop := ∀ x ∈ L, ¬ noneP x.id ∧ ¬ noneP x.block
theorem GoodM.ins {L : List Mv} {m : Mv} (h : GoodM L) (h1 : ¬ noneP m.id) (h2 : ¬ noneP m.block) : GoodM (insM m L) := fun x hx => by
  rcases List.mem_cons.1 ((insM_perm m L).mem_iff.1 hx) with rfl | hx
  · exact ⟨h1, h2⟩
  · exact h x hx
/-- the last move: what is behind it -/
theorem last_move {L : List Mv} {b p : Dot'} {key : ByteArray} {i : Dot'} {t : Int} (hb : (alook b (runS L)).isSome = true) (hp : p = trashD ∨ (alook p (runS L)).isSome = true) :
    (takesP (runS L) ⟨i, t, p, key, b⟩ ↔ p ≠ b ∧ b ∉ pathA (runS L) p) ∧
    (alook b (doS (runS L) ⟨i, t, p, key, b⟩) = if takesP (runS L) ⟨i, t, p, key, b⟩ then some (p, key) else alook b (runS L)) ∧
    ∀ d, d ∈ (doS (runS L) ⟨i, t, p, key, b⟩).map Prod.fst ↔ d ∈ (runS L).map Prod.fst := by
  refine ⟨⟨fun h => ⟨fun e => h.2.2.1 e.symm, h.2.2.2⟩, fun h => ⟨hp.imp .inr id, .inr hb, fun e => h.1 e.symm, h.2⟩⟩, ?_, fun d => ?_⟩
  · unfold doS
    split
    · rw [alook_aset, if_pos rfl]
    · rfl
  · unfold doS
    split
    · rw [(aset_keys (okS_run L).keys).2]
      constructor
      · rintro (rfl | h)
        · exact alook_isSome.1 hb
        · exact h
      · exact .inr
    · exact Iff.rfl
end Go.Osj
