/- The row of the law TreeStories. -/
import Derived.Test.YtdabompehgancaaRows
import Derived.Test.YtdabompehgancaaGI
import Derived.Test.YtdabompehgancaaGO
import Derived.Test.YtdabompehgancaaOsjT
import Derived.Test.YtdabompehgancaaOsjT
set_option linter.unusedSimpArgs false
namespace Go.Proofs.Ytdabompehgancaa.treeStories
open Go.ChangeShapes Go.WideShapes Go.ChangeAt Go.RowKit Go.Osj
open Go.ChangeMaps (open_string shut_string)
set_option linter.unusedVariables false
theorem own : ownKnob Try.prog.godebug = none := by kernel_rfl
theorem laidOut : laidOutB Try.prog = true := by kernel_rfl
set_option maxRecDepth 100000 in
theorem lifted (os : Os) (started : os.Started) (H : Type) (enc : TypeId × Value → H) :
    ReturnsInHanded {} Try.checked os 13 .any (Rows.treeStoriesSpec.pre6 enc Try.prog Try.f13 Rows.treeStoriesRow.domain false) (Rows.treeStoriesSpec.post enc Try.prog Try.f13 false true false false) := by
  refine returnsInHanded_of_change_sized (C := Try.checked) own started (by kernel_rfl) Try.func13
    (ChangeSpec.witness6 (enc := enc) (C := Try.checked) false ⟨#[], #[.slice none 0 0], []⟩ 8 (by kernel_rfl) (by kernel_rfl) (by kernel_rfl) (by kernel_rfl)) ?_
  intro W base args ds gs before hval0 hW hcnd hsz0 _
  have hval : ∀ (j : Nat) t v, Try.f13.params[j]? = some t → args[j]? = some v → Value.okWide Try.prog W .any base t v := hval0
  have hW' := hW
  obtain ⟨p, q, hA0, hV, rfl, hfz, hnd⟩ := hW
  have hA : DataW.TrodAll enc Try.prog W 0 (fun _ => true) true Try.f13.params.toList args.toList ds p := hA0
  rw [Try.params13] at hA hval
  obtain ⟨v0, vs0, d0, ds0, p0, q0, hargs, rfl, rfl, h0, r0⟩ := trodAll_cons hA
  obtain ⟨rfl, rfl, rfl⟩ := trodAll_nil r0
  obtain rfl : args = #[v0] := by cases args; simp_all
  obtain ⟨rfl, rfl⟩ := trodVars_none hV
  have lt0 : ∀ x ∈ p0, x.block < W.heap.size := by obtain ⟨m, hm⟩ := h0; exact DataW.trod_lt m _ _ _ hm
  obtain ⟨xs0, hs0, wl0, wd0⟩ := open_sl mkE (Pr := mkI) (fun _ => rfl) Try.underlying49 (by kernel_rfl)
    (fun fuel cs x h => trod_mk Try.underlying120 (by kernel_rfl) Try.underlying3 Try.underlying9 (by kernel_rfl) (by kernel_rfl) (by kernel_rfl) h) (hval 0 49 v0 rfl rfl) h0
  clear hA0 hval0
  refine Calls.mono ((F.osierlaw10_TreeStories.J hs0 (Nat.lt_of_le_of_lt wl0 (by decide)) (fun m hm => wd0 m hm) : J PR 13 _ (St.of W) _) W W (St.of_rel W)) fun e W' ⟨v, S', he, hrel, hv⟩ => ?_
  subst he hv
  have bel := hrel.below
  exact ⟨_, rfl, _, _, _, [], _, [], hW', trodAll_mk1 (shut_bool Try.underlying4 _), (trodAll_cons_mk (Below.trod laidOut (by kernel_rfl) (of_decide_eq_true (by kernel_rfl)) h0 bel lt0) trodAll_mk0), rfl, bel.frame _, fun h => by cases h⟩
theorem over : Rows.treeStoriesRow.holds Try.pinned (OpenSpec.ofChange Rows.treeStoriesSpec) :=
  OpenClaim.holds_of_wide 13 Try.f13 rfl rfl rfl rfl rfl rfl rfl ⟨rfl, rfl, rfl, rfl, rfl⟩ rfl rfl rfl rfl rfl (by kernel_rfl) Try.func13 (by kernel_rfl)
    (of_decide_eq_true (by kernel_rfl)) (by unfold Func.isWrapper; first | (rw [if_pos (by decide +kernel)]; kernel_rfl) | (rw [if_neg (by decide +kernel)]; exact ⟨rfl, rfl⟩))
    (fun os started H enc _ => lifted os started H enc)
theorem proved : Rows.TreeStoriesSaid := over
#print axioms proved
end Go.Proofs.Ytdabompehgancaa.treeStories
namespace Go.Proofs.Ytdabompehgancaa
/-- The row, under a short name, for the claim. -/
theorem treeStories_holds : Rows.TreeStoriesSaid := treeStories.proved
end Go.Proofs.Ytdabompehgancaa
