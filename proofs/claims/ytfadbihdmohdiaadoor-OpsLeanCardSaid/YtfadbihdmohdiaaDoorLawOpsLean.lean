/- The row of the law OpsLean. -/
import Derived.Test.YtfadbihdmohdiaaDoorRows
import Derived.Test.YtfadbihdmohdiaaDoorKR
import Derived.Test.YtfadbihdmohdiaaDoorKO
import Derived.Test.YtfadbihdmohdiaaDoorOsjT
import Derived.Test.YtfadbihdmohdiaaDoorLW
import Derived.Test.YtfadbihdmohdiaaDoorTie
import Derived.Test.YtfadbihdmohdiaaDoorCards
import Derived.SevenTiedAt
import Derived.JoinedOf
set_option linter.unusedSimpArgs false
namespace Go.Proofs.YtfadbihdmohdiaaDoor.opsLean
open Go.ChangeShapes Go.WideShapes Go.ChangeAt Go.RowKit Go.Osj
open Go.ChangeMaps (open_string shut_string)
set_option linter.unusedVariables false
theorem own : ownKnob Tryd.prog.godebug = none := by kernel_rfl
theorem laidOut : laidOutB Tryd.prog = true := by kernel_rfl
set_option maxRecDepth 100000 in
theorem lifted (os : Os) (started : os.Started) (H : Type) (enc : TypeId × Value → H) :
    ReturnsInHanded {} Tryd.checked os 7 .any (fun w args => (Rows.opsLeanSpec.pre enc Tryd.prog Tryd.f7 Rows.opsLeanRow.domain false w args ∧ laidMetH Tryd.prog laidL w) ∧ sizedMet enc Tryd.prog Tryd.f7 (OpenSpec.ofChange Rows.opsLeanSpec) false w args) (Rows.opsLeanSpec.post enc Tryd.prog Tryd.f7 false true false false) := by
  refine returnsInHanded_of_change_and (C := Tryd.checked) (X := fun w _ => laidMetH Tryd.prog laidL w) (fun _ _ _ hh h => h.of_heap hh) own started (by kernel_rfl) Tryd.func7
    (ChangeSpec.witness_at (enc := enc) (C := Tryd.checked) (os := os) (X := fun w _ => laidMetH Tryd.prog laidL w) false (laidWorld os) #[.agg #[.int .i64 0, .int .i64 0, .int .i64 0, .slice none 0 0, .int .i64 0, .int .i64 0, .int .i64 0, .int .i64 0, .int .i64 0, .int .i64 0, .int .i64 0, .int .i64 0, .int .i64 0, .string ByteArray.empty]] 8 rfl (by kernel_rfl) (by kernel_rfl) (by kernel_rfl) (by kernel_rfl) (by kernel_rfl) (laidWorld_met os _)) ?_
  intro W base args ds gs before hval0 hW hcnd hsz0 hLd _
  have hval : ∀ (j : Nat) t v, Tryd.f7.params[j]? = some t → args[j]? = some v → Value.okWide Tryd.prog W .any base t v := hval0
  have hW' := hW
  obtain ⟨p, q, hA0, hV, rfl, hfz, hnd⟩ := hW
  have hA : DataW.TrodAll enc Tryd.prog W 0 (fun _ => true) true Tryd.f7.params.toList args.toList ds p := hA0
  rw [Tryd.params7] at hA hval
  obtain ⟨v0, vs0, d0, ds0, p0, q0, hargs, rfl, rfl, h0, r0⟩ := trodAll_cons hA
  obtain ⟨rfl, rfl, rfl⟩ := trodAll_nil r0
  obtain rfl : args = #[v0] := by cases args; simp_all
  obtain ⟨rfl, rfl⟩ := trodVars_none hV
  have lt0 : ∀ x ∈ p0, x.block < W.heap.size := by obtain ⟨m, hm⟩ := h0; exact DataW.trod_lt m _ _ _ hm
  obtain ⟨o0, dv0, rfl, hd0, wl0⟩ := open_op (fun _ => rfl) Tryd.underlying27 (by kernel_rfl) Tryd.underlying23 (by kernel_rfl) Tryd.underlying3 Tryd.underlying25 Tryd.underlying9 (by kernel_rfl) (by kernel_rfl) (by kernel_rfl) (by kernel_rfl) (by kernel_rfl) (hval 0 27 v0 rfl rfl) h0
  clear hA0 hval0
  refine Calls.mono ((F.osierlaw07_OpsLean.J hd0 : J PR 7 _ (St.of W) _) W W (St.of_rel W)) fun e W' ⟨v, S', he, hrel, hv⟩ => ?_
  subst he hv
  have bel := hrel.below
  exact ⟨_, rfl, _, _, _, [], _, [], hW', trodAll_mk1 (shut_bool Tryd.underlying4 _), (trodAll_cons_mk (Below.trod laidOut (by kernel_rfl) (of_decide_eq_true (by kernel_rfl)) h0 bel lt0) trodAll_mk0), rfl, bel.frame _, fun h => by cases h⟩
theorem over : Rows.opsLeanRow.holds Tryd.pinned (OpenSpec.ofChange Rows.opsLeanSpec) :=
  OpenClaim.holds_of_wide 7 Tryd.f7 rfl rfl rfl rfl rfl rfl rfl ⟨rfl, rfl, rfl, rfl, rfl⟩ rfl rfl rfl rfl rfl (by kernel_rfl) Tryd.func7 (by kernel_rfl)
    (of_decide_eq_true (by kernel_rfl)) (by unfold Func.isWrapper; first | (rw [if_pos (by decide +kernel)]; kernel_rfl) | (rw [if_neg (by decide +kernel)]; exact ⟨rfl, rfl⟩))
    (fun os started H enc _ => lifted os started H enc)
theorem proved : Rows.OpsLeanSaid := over
theorem card : Rows.OpsLeanCardSaid :=
  Claim7.holds_tied_plain_at .later [] [.data, .pinned] true (true, "ee77e28979b90fe2351df2660a370684bee302d8b77cc1470207eff575b4dd9c") false
    over (fun _ h => by cases h) (by kernel_rfl) (fun _ h => by cases h) opsLean_row_tie rfl ⟨rfl, rfl⟩ (by kernel_rfl) rfl
    (fun f fn hf hfn => by
      obtain rfl : f = 7 := Option.some.inj ((show Tryd.prog.funcNamed "osier/osierlaw07.OpsLean" = some 7 by kernel_rfl).symm.trans hf) |>.symm
      obtain rfl : fn = Tryd.f7 := (Option.some.inj (Tryd.func7.symm.trans hfn)).symm
      exact ⟨by kernel_rfl, fun j t ht => by
        rw [Tryd.params7] at ht
        have h3 : t = 27 := by
          rcases j with _ | j
          · simpa using ht.symm
          · simp at ht
        subst h3
        exact (show Tryd.prog.wantsStandIn 27 = false by kernel_rfl)⟩)
    (by kernel_rfl)
#print axioms card
end Go.Proofs.YtfadbihdmohdiaaDoor.opsLean
namespace Go.Proofs.YtfadbihdmohdiaaDoor
/-- The row, under a short name, for the claim. -/
theorem opsLean_holds : Rows.OpsLeanCardSaid := opsLean.card
end Go.Proofs.YtfadbihdmohdiaaDoor
