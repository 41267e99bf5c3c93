/- The row of the law CausalEdges. -/
import Derived.Test.YtfadbihdmohdiaaGreatDoorRows
import Derived.Test.YtfadbihdmohdiaaGreatDoorNB
import Derived.Test.YtfadbihdmohdiaaGreatDoorGO
import Derived.Test.YtfadbihdmohdiaaGreatDoorOsjT
import Derived.Test.YtfadbihdmohdiaaGreatDoorLW
import Derived.Test.YtfadbihdmohdiaaGreatDoorTie
import Derived.Test.YtfadbihdmohdiaaGreatDoorCards
import Derived.SevenTiedAt
import Derived.JoinedOf
set_option linter.unusedSimpArgs false
namespace Go.Proofs.YtfadbihdmohdiaaGreatDoor.causalEdges
open Go.ChangeShapes Go.WideShapes Go.ChangeAt Go.RowKit Go.Osj
open Go.ChangeMaps (open_string shut_string)
set_option linter.unusedVariables false
theorem own : ownKnob Tryz.prog.godebug = none := by kernel_rfl
theorem laidOut : laidOutB Tryz.prog = true := by kernel_rfl
set_option maxRecDepth 100000 in
theorem lifted (os : Os) (started : os.Started) (H : Type) (enc : TypeId × Value → H) :
    ReturnsInHanded {} Tryz.checked os 6 .any (fun w args => (Rows.causalEdgesSpec.pre enc Tryz.prog Tryz.f6 Rows.causalEdgesRow.domain false w args ∧ laidMetH Tryz.prog laidL w) ∧ sizedMet enc Tryz.prog Tryz.f6 (OpenSpec.ofChange Rows.causalEdgesSpec) false w args) (Rows.causalEdgesSpec.post enc Tryz.prog Tryz.f6 false true false false) := by
  refine returnsInHanded_of_change_and (C := Tryz.checked) (X := fun w _ => laidMetH Tryz.prog laidL w) (fun _ _ _ hh h => h.of_heap hh) own started (by kernel_rfl) Tryz.func6
    (ChangeSpec.witness_at (enc := enc) (C := Tryz.checked) (os := os) (X := fun w _ => laidMetH Tryz.prog laidL w) false (laidWorld os) #[.slice none 0 0] 8 rfl (by kernel_rfl) (by kernel_rfl) (by kernel_rfl) (by kernel_rfl) (by kernel_rfl) (laidWorld_met os _)) ?_
  intro W base args ds gs before hval0 hW hcnd hsz0 hLd _
  have hval : ∀ (j : Nat) t v, Tryz.f6.params[j]? = some t → args[j]? = some v → Value.okWide Tryz.prog W .any base t v := hval0
  have hW' := hW
  obtain ⟨p, q, hA0, hV, rfl, hfz, hnd⟩ := hW
  have hA : DataW.TrodAll enc Tryz.prog W 0 (fun _ => true) true Tryz.f6.params.toList args.toList ds p := hA0
  rw [Tryz.params6] at hA hval
  obtain ⟨v0, vs0, d0, ds0, p0, q0, hargs, rfl, rfl, h0, r0⟩ := trodAll_cons hA
  obtain ⟨rfl, rfl, rfl⟩ := trodAll_nil r0
  obtain rfl : args = #[v0] := by cases args; simp_all
  obtain ⟨rfl, rfl⟩ := trodVars_none hV
  have lt0 : ∀ x ∈ p0, x.block < W.heap.size := by obtain ⟨m, hm⟩ := h0; exact DataW.trod_lt m _ _ _ hm
  obtain ⟨xs0, hs0, wl0, wd0⟩ := open_sl mkE (Pr := mkI) (fun _ => rfl) Tryz.underlying38 (by kernel_rfl)
    (fun fuel cs x h => trod_mk Tryz.underlying56 (by kernel_rfl) Tryz.underlying3 Tryz.underlying9 (by kernel_rfl) (by kernel_rfl) (by kernel_rfl) h) (hval 0 38 v0 rfl rfl) h0
  clear hA0 hval0
  refine Calls.mono ((F.osierlaw08_CausalEdges.J hs0 (Nat.lt_of_le_of_lt wl0 (by decide)) (fun m hm => wd0 m hm) : J PR 6 _ (St.of W) _) W W (St.of_rel W)) fun e W' ⟨v, S', he, hrel, hv⟩ => ?_
  subst he hv
  have bel := hrel.below
  exact ⟨_, rfl, _, _, _, [], _, [], hW', trodAll_mk1 (shut_bool Tryz.underlying4 _), (trodAll_cons_mk (Below.trod laidOut (by kernel_rfl) (of_decide_eq_true (by kernel_rfl)) h0 bel lt0) trodAll_mk0), rfl, bel.frame _, fun h => by cases h⟩
theorem over : Rows.causalEdgesRow.holds Tryz.pinned (OpenSpec.ofChange Rows.causalEdgesSpec) :=
  OpenClaim.holds_of_wide 6 Tryz.f6 rfl rfl rfl rfl rfl rfl rfl ⟨rfl, rfl, rfl, rfl, rfl⟩ rfl rfl rfl rfl rfl (by kernel_rfl) Tryz.func6 (by kernel_rfl)
    (of_decide_eq_true (by kernel_rfl)) (by unfold Func.isWrapper; first | (rw [if_pos (by decide +kernel)]; kernel_rfl) | (rw [if_neg (by decide +kernel)]; exact ⟨rfl, rfl⟩))
    (fun os started H enc _ => lifted os started H enc)
theorem proved : Rows.CausalEdgesSaid := over
theorem card : Rows.CausalEdgesCardSaid :=
  Claim7.holds_tied_plain_at .later [] [.data, .pinned] true (true, "9fa27894cf51c99e4b46c935c9654d9e81a6372340474da77aa6f06082049d99") false
    over (fun _ h => by cases h) (by kernel_rfl) (fun _ h => by cases h) causalEdges_row_tie rfl ⟨rfl, rfl⟩ (by kernel_rfl) rfl
    (fun f fn hf hfn => by
      obtain rfl : f = 6 := Option.some.inj ((show Tryz.prog.funcNamed "osier/osierlaw08.CausalEdges" = some 6 by kernel_rfl).symm.trans hf) |>.symm
      obtain rfl : fn = Tryz.f6 := (Option.some.inj (Tryz.func6.symm.trans hfn)).symm
      exact ⟨by kernel_rfl, fun j t ht => by
        rw [Tryz.params6] at ht
        have h3 : t = 38 := by
          rcases j with _ | j
          · simpa using ht.symm
          · simp at ht
        subst h3
        exact (show Tryz.prog.wantsStandIn 38 = false by kernel_rfl)⟩)
    (by kernel_rfl)
#print axioms card
end Go.Proofs.YtfadbihdmohdiaaGreatDoor.causalEdges
namespace Go.Proofs.YtfadbihdmohdiaaGreatDoor
/-- The row, under a short name, for the claim. -/
theorem causalEdges_holds : Rows.CausalEdgesCardSaid := causalEdges.card
end Go.Proofs.YtfadbihdmohdiaaGreatDoor
