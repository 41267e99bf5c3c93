/- Trees of blocks: the order in which moves come does not count. -/
import Derived.Test.YtdabompehgancaaXD
set_option linter.unusedSimpArgs false
set_option linter.unusedVariables false
namespace Go.Osj
def goodM (m : Mv) : Bool := !decide (noneP m.id) && !decide (noneP m.block)
/-- the moves that came in, of a row -/
def InM (L : List Mv) (ms : List Mv) : Prop := Srt L ∧ L.Perm (ms.filter goodM)
theorem InM.nil : InM [] [] := ⟨Srt.nil, List.Perm.refl _⟩
theorem srt_eq {L K : List Mv} (h1 : Srt L) (h2 : Srt K) (hp : L.Perm K) : L = K :=
  rises_eq aheadM_irrefl (fun a _ h g => aheadM_irrefl a (aheadM_trans h g)) h1.rises h2.rises fun _ => hp.mem_iff
theorem InM.same {L K ms ns : List Mv} (h1 : InM L ms) (h2 : InM K ns) (hp : ms.Perm ns) : L = K :=
  srt_eq h1.1 h2.1 ((h1.2.trans (hp.filter goodM)).trans h2.2.symm)
theorem InM.not {L ms : List Mv} (h : InM L ms) {m : Mv} (hm : goodM m = false) : InM L (ms ++ [m]) := by
  refine ⟨h.1, ?_⟩
  rw [List.filter_append]
  simp only [List.filter_cons, hm, List.filter_nil, Bool.false_eq_true, if_false, List.append_nil]
  exact h.2
theorem InM.fresh {L ms : List Mv} (h : InM L ms) {m : Mv} (hn : ((ms ++ [m]).map Mv.id).Nodup) : m.id ∉ L.map Mv.id := by
  intro hm
  obtain ⟨x, hx, e⟩ := List.mem_map.1 hm
  have hx2 := (List.mem_filter.1 (h.2.mem_iff.1 hx)).1
  rw [List.map_append, List.nodup_append] at hn
  exact hn.2.2 x.id (List.mem_map_of_mem hx2) m.id (by simp) e
theorem InM.add {L ms : List Mv} (h : InM L ms) {m : Mv} (hm : goodM m = true) (hf : m.id ∉ L.map Mv.id) : InM (insM m L) (ms ++ [m]) := by
  refine ⟨h.1.ins hf, ?_⟩
  rw [List.filter_append]
  simp only [List.filter_cons, hm, List.filter_nil, if_true]
  exact ((insM_perm m L).trans (List.Perm.cons m h.2)).trans (List.perm_append_singleton m _).symm
end Go.Osj
