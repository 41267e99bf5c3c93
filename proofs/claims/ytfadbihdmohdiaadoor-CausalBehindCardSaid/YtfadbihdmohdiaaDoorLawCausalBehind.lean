/- The row of the law CausalBehind. -/
import Derived.Test.YtfadbihdmohdiaaDoorRows
import Derived.Test.YtfadbihdmohdiaaDoorNC
import Derived.Test.YtfadbihdmohdiaaDoorLO
import Derived.Test.YtfadbihdmohdiaaDoorOsjT
import Derived.Test.YtfadbihdmohdiaaDoorLW
import Derived.Test.YtfadbihdmohdiaaDoorTie
import Derived.Test.YtfadbihdmohdiaaDoorCards
import Derived.SevenTiedAt
import Derived.JoinedOf
set_option linter.unusedSimpArgs false
namespace Go.Proofs.YtfadbihdmohdiaaDoor.causalBehind
open Go.ChangeShapes Go.WideShapes Go.ChangeAt Go.RowKit Go.Osj
open Go.ChangeMaps (open_string shut_string)
set_option linter.unusedVariables false
theorem own : ownKnob Tryd.prog.godebug = none := by kernel_rfl
theorem laidOut : laidOutB Tryd.prog = true := by kernel_rfl
set_option maxRecDepth 100000 in
theorem lifted (os : Os) (started : os.Started) (H : Type) (enc : TypeId × Value → H) :
    ReturnsInHanded {} Tryd.checked os 8 .any (fun w args => (Rows.causalBehindSpec.pre enc Tryd.prog Tryd.f8 Rows.causalBehindRow.domain false w args ∧ laidMetH Tryd.prog laidL w) ∧ sizedMet enc Tryd.prog Tryd.f8 (OpenSpec.ofChange Rows.causalBehindSpec) false w args) (Rows.causalBehindSpec.post enc Tryd.prog Tryd.f8 false true false false) := by
  refine returnsInHanded_of_change_and (C := Tryd.checked) (X := fun w _ => laidMetH Tryd.prog laidL w) (fun _ _ _ hh h => h.of_heap hh) own started (by kernel_rfl) Tryd.func8
    (ChangeSpec.witness_at (enc := enc) (C := Tryd.checked) (os := os) (X := fun w _ => laidMetH Tryd.prog laidL w) false (laidWorld os) #[.slice none 0 0] 8 rfl (by kernel_rfl) (by kernel_rfl) (by kernel_rfl) (by kernel_rfl) (by kernel_rfl) (laidWorld_met os _)) ?_
  intro W base args ds gs before hval0 hW hcnd hsz0 hLd _
  have hval : ∀ (j : Nat) t v, Tryd.f8.params[j]? = some t → args[j]? = some v → Value.okWide Tryd.prog W .any base t v := hval0
  have hW' := hW
  obtain ⟨p, q, hA0, hV, rfl, hfz, hnd⟩ := hW
  have hA : DataW.TrodAll enc Tryd.prog W 0 (fun _ => true) true Tryd.f8.params.toList args.toList ds p := hA0
  rw [Tryd.params8] at hA hval
  obtain ⟨v0, vs0, d0, ds0, p0, q0, hargs, rfl, rfl, h0, r0⟩ := trodAll_cons hA
  obtain ⟨rfl, rfl, rfl⟩ := trodAll_nil r0
  obtain rfl : args = #[v0] := by cases args; simp_all
  obtain ⟨rfl, rfl⟩ := trodVars_none hV
  have lt0 : ∀ x ∈ p0, x.block < W.heap.size := by obtain ⟨m, hm⟩ := h0; exact DataW.trod_lt m _ _ _ hm
  obtain ⟨ps0, hs0, wl0, wd0⟩ := open_sl opE (Pr := fun p => SlT dotE (St.of W) (slOf p.2) p.1.deps) (fun _ => rfl) Tryd.underlying47 (by kernel_rfl)
    (fun fuel cs x h => trod_op (fun _ => rfl) Tryd.underlying27 (by kernel_rfl) Tryd.underlying23 (by kernel_rfl) Tryd.underlying3 Tryd.underlying25 Tryd.underlying9 (by kernel_rfl) (by kernel_rfl) (by kernel_rfl) (by kernel_rfl) (by kernel_rfl) h) (hval 0 47 v0 rfl rfl) h0
  clear hA0 hval0
  refine Calls.mono ((F.osierlaw08_CausalBehind.J hs0 (fun p hp => wd0 p hp) (Nat.lt_of_le_of_lt wl0 (by decide)) : J PR 8 _ (St.of W) _) W W (St.of_rel W)) fun e W' ⟨v, S', he, hrel, hv⟩ => ?_
  subst he hv
  have bel := hrel.below
  exact ⟨_, rfl, _, _, _, [], _, [], hW', trodAll_mk1 (shut_bool Tryd.underlying4 _), (trodAll_cons_mk (Below.trod laidOut (by kernel_rfl) (of_decide_eq_true (by kernel_rfl)) h0 bel lt0) trodAll_mk0), rfl, bel.frame _, fun h => by cases h⟩
theorem over : Rows.causalBehindRow.holds Tryd.pinned (OpenSpec.ofChange Rows.causalBehindSpec) :=
  OpenClaim.holds_of_wide 8 Tryd.f8 rfl rfl rfl rfl rfl rfl rfl ⟨rfl, rfl, rfl, rfl, rfl⟩ rfl rfl rfl rfl rfl (by kernel_rfl) Tryd.func8 (by kernel_rfl)
    (of_decide_eq_true (by kernel_rfl)) (by unfold Func.isWrapper; first | (rw [if_pos (by decide +kernel)]; kernel_rfl) | (rw [if_neg (by decide +kernel)]; exact ⟨rfl, rfl⟩))
    (fun os started H enc _ => lifted os started H enc)
theorem proved : Rows.CausalBehindSaid := over
theorem card : Rows.CausalBehindCardSaid :=
  Claim7.holds_tied_plain_at .later [] [.data, .pinned] true (true, "ee77e28979b90fe2351df2660a370684bee302d8b77cc1470207eff575b4dd9c") false
    over (fun _ h => by cases h) (by kernel_rfl) (fun _ h => by cases h) causalBehind_row_tie rfl ⟨rfl, rfl⟩ (by kernel_rfl) rfl
    (fun f fn hf hfn => by
      obtain rfl : f = 8 := Option.some.inj ((show Tryd.prog.funcNamed "osier/osierlaw08.CausalBehind" = some 8 by kernel_rfl).symm.trans hf) |>.symm
      obtain rfl : fn = Tryd.f8 := (Option.some.inj (Tryd.func8.symm.trans hfn)).symm
      exact ⟨by kernel_rfl, fun j t ht => by
        rw [Tryd.params8] at ht
        have h3 : t = 47 := by
          rcases j with _ | j
          · simpa using ht.symm
          · simp at ht
        subst h3
        exact (show Tryd.prog.wantsStandIn 47 = false by kernel_rfl)⟩)
    (by kernel_rfl)
#print axioms card
end Go.Proofs.YtfadbihdmohdiaaDoor.causalBehind
namespace Go.Proofs.YtfadbihdmohdiaaDoor
/-- The row, under a short name, for the claim. -/
theorem causalBehind_holds : Rows.CausalBehindCardSaid := causalBehind.card
end Go.Proofs.YtfadbihdmohdiaaDoor
