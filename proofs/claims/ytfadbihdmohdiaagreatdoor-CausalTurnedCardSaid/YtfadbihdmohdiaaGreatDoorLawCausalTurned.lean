/- The row of the law CausalTurned. -/
import Derived.Test.YtfadbihdmohdiaaGreatDoorRows
import Derived.Test.YtfadbihdmohdiaaGreatDoorNA
import Derived.Test.YtfadbihdmohdiaaGreatDoorGO
import Derived.Test.YtfadbihdmohdiaaGreatDoorOsjT
import Derived.Test.YtfadbihdmohdiaaGreatDoorLW
import Derived.Test.YtfadbihdmohdiaaGreatDoorTie
import Derived.Test.YtfadbihdmohdiaaGreatDoorCards
import Derived.SevenTiedAt
import Derived.JoinedOf
set_option linter.unusedSimpArgs false
namespace Go.Proofs.YtfadbihdmohdiaaGreatDoor.causalTurned
open Go.ChangeShapes Go.WideShapes Go.ChangeAt Go.RowKit Go.Osj
open Go.ChangeMaps (open_string shut_string)
set_option linter.unusedVariables false
theorem own : ownKnob Tryz.prog.godebug = none := by kernel_rfl
theorem laidOut : laidOutB Tryz.prog = true := by kernel_rfl
set_option maxRecDepth 100000 in
theorem lifted (os : Os) (started : os.Started) (H : Type) (enc : TypeId × Value → H) :
    ReturnsInHanded {} Tryz.checked os 5 .any (fun w args => (Rows.causalTurnedSpec.pre enc Tryz.prog Tryz.f5 Rows.causalTurnedRow.domain false w args ∧ laidMetH Tryz.prog laidL w) ∧ sizedMet enc Tryz.prog Tryz.f5 (OpenSpec.ofChange Rows.causalTurnedSpec) false w args) (Rows.causalTurnedSpec.post enc Tryz.prog Tryz.f5 false true false false) := by
  refine returnsInHanded_of_change_and (C := Tryz.checked) (X := fun w _ => laidMetH Tryz.prog laidL w) (fun _ _ _ hh h => h.of_heap hh) own started (by kernel_rfl) Tryz.func5
    (ChangeSpec.witness_at (enc := enc) (C := Tryz.checked) (os := os) (X := fun w _ => laidMetH Tryz.prog laidL w) false (laidWorld os) #[.slice none 0 0, .slice none 0 0] 8 rfl (by kernel_rfl) (by kernel_rfl) (by kernel_rfl) (by kernel_rfl) (by kernel_rfl) (laidWorld_met os _)) ?_
  intro W base args ds gs before hval0 hW hcnd hsz0 hLd _
  have hval : ∀ (j : Nat) t v, Tryz.f5.params[j]? = some t → args[j]? = some v → Value.okWide Tryz.prog W .any base t v := hval0
  have hW' := hW
  obtain ⟨p, q, hA0, hV, rfl, hfz, hnd⟩ := hW
  have hA : DataW.TrodAll enc Tryz.prog W 0 (fun _ => true) true Tryz.f5.params.toList args.toList ds p := hA0
  rw [Tryz.params5] at hA hval
  obtain ⟨v0, vs0, d0, ds0, p0, q0, hargs, rfl, rfl, h0, r0⟩ := trodAll_cons hA
  obtain ⟨v1, vs1, d1, ds1, p1, q1, rfl, rfl, rfl, h1, r1⟩ := trodAll_cons r0
  obtain ⟨rfl, rfl, rfl⟩ := trodAll_nil r1
  obtain rfl : args = #[v0, v1] := by cases args; simp_all
  obtain ⟨rfl, rfl⟩ := trodVars_none hV
  have lt0 : ∀ x ∈ p0, x.block < W.heap.size := by obtain ⟨m, hm⟩ := h0; exact DataW.trod_lt m _ _ _ hm
  obtain ⟨xs0, hs0, wl0, wd0⟩ := open_sl mkE (Pr := mkI) (fun _ => rfl) Tryz.underlying38 (by kernel_rfl)
    (fun fuel cs x h => trod_mk Tryz.underlying56 (by kernel_rfl) Tryz.underlying3 Tryz.underlying9 (by kernel_rfl) (by kernel_rfl) (by kernel_rfl) h) (hval 0 38 v0 rfl rfl) h0
  have lt1 : ∀ x ∈ p1, x.block < W.heap.size := by obtain ⟨m, hm⟩ := h1; exact DataW.trod_lt m _ _ _ hm
  obtain ⟨xs1, hs1, wl1, wd1⟩ := open_sl intE (Pr := fun b : Int => (Lit.int .i64 b).wf = true) (fun _ => rfl) Tryz.underlying39 (by kernel_rfl)
    (fun fuel cs x h => by obtain ⟨a, hc, wa, -⟩ := trod_int Tryz.underlying3 h; exact ⟨a, hc, wa⟩) (hval 1 39 v1 rfl rfl) h1
  clear hA0 hval0
  refine Calls.mono ((F.osierlaw08_CausalTurned.J hs0 (Nat.lt_of_le_of_lt wl0 (by decide)) (fun m hm => wd0 m hm) hs1 (Nat.lt_of_le_of_lt wl1 (by decide)) (fun t ht => by have := wd1 t ht; simp [Lit.wf, IntKind.min, IntKind.max, IntKind.signed, IntKind.bits] at this; exact this) : J PR 5 _ (St.of W) _) W W (St.of_rel W)) fun e W' ⟨v, S', he, hrel, hv⟩ => ?_
  subst he hv
  have bel := hrel.below
  exact ⟨_, rfl, _, _, _, [], _, [], hW', trodAll_mk1 (shut_bool Tryz.underlying4 _), (trodAll_cons_mk (Below.trod laidOut (by kernel_rfl) (of_decide_eq_true (by kernel_rfl)) h0 bel lt0) (trodAll_cons_mk (Below.trod laidOut (by kernel_rfl) (of_decide_eq_true (by kernel_rfl)) h1 bel lt1) trodAll_mk0)), rfl, bel.frame _, fun h => by cases h⟩
theorem over : Rows.causalTurnedRow.holds Tryz.pinned (OpenSpec.ofChange Rows.causalTurnedSpec) :=
  OpenClaim.holds_of_wide 5 Tryz.f5 rfl rfl rfl rfl rfl rfl rfl ⟨rfl, rfl, rfl, rfl, rfl⟩ rfl rfl rfl rfl rfl (by kernel_rfl) Tryz.func5 (by kernel_rfl)
    (of_decide_eq_true (by kernel_rfl)) (by unfold Func.isWrapper; first | (rw [if_pos (by decide +kernel)]; kernel_rfl) | (rw [if_neg (by decide +kernel)]; exact ⟨rfl, rfl⟩))
    (fun os started H enc _ => lifted os started H enc)
theorem proved : Rows.CausalTurnedSaid := over
theorem card : Rows.CausalTurnedCardSaid :=
  Claim7.holds_tied_plain_at .later [] [.data, .pinned] true (true, "9fa27894cf51c99e4b46c935c9654d9e81a6372340474da77aa6f06082049d99") false
    over (fun _ h => by cases h) (by kernel_rfl) (fun _ h => by cases h) causalTurned_row_tie rfl ⟨rfl, rfl⟩ (by kernel_rfl) rfl
    (fun f fn hf hfn => by
      obtain rfl : f = 5 := Option.some.inj ((show Tryz.prog.funcNamed "osier/osierlaw08.CausalTurned" = some 5 by kernel_rfl).symm.trans hf) |>.symm
      obtain rfl : fn = Tryz.f5 := (Option.some.inj (Tryz.func5.symm.trans hfn)).symm
      exact ⟨by kernel_rfl, fun j t ht => by
        rw [Tryz.params5] at ht
        have h3 : t = 38 ∨ t = 39 := by
          rcases j with _ | _ | j
          · exact .inl (by simpa using ht.symm)
          · exact .inr (by simpa using ht.symm)
          · simp at ht
        rcases h3 with h3 | h3
        · subst h3
          exact (show Tryz.prog.wantsStandIn 38 = false by kernel_rfl)
        · subst h3
          exact (show Tryz.prog.wantsStandIn 39 = false by kernel_rfl)⟩)
    (by kernel_rfl)
#print axioms card
end Go.Proofs.YtfadbihdmohdiaaGreatDoor.causalTurned
namespace Go.Proofs.YtfadbihdmohdiaaGreatDoor
/-- The row, under a short name, for the claim. -/
theorem causalTurned_holds : Rows.CausalTurnedCardSaid := causalTurned.card
end Go.Proofs.YtfadbihdmohdiaaGreatDoor
