/- The row of the law VectorLaws. -/
import Derived.Test.YtnofakkcipcphaaRows
import Derived.Test.YtnofakkcipcphaaO
import Derived.Test.YtnofakkcipcphaaOsjT
namespace Go.Proofs.Ytnofakkcipcphaa.vectorLaws
open Go.ChangeShapes Go.WideShapes Go.ChangeAt Go.RowKit Go.Osj
open Go.ChangeMaps (open_string shut_string)
set_option linter.unusedVariables false
theorem own : ownKnob Try.prog.godebug = none := by kernel_rfl
theorem laidOut : laidOutB Try.prog = true := by kernel_rfl
set_option maxRecDepth 100000 in
theorem lifted (os : Os) (started : os.Started) (H : Type) (enc : TypeId × Value → H) :
    ReturnsInHanded {} Try.checked os 8 .any (Rows.vectorLawsSpec.pre6 enc Try.prog Try.f8 Rows.vectorLawsRow.domain false) (Rows.vectorLawsSpec.post enc Try.prog Try.f8 false true false false) := by
  refine returnsInHanded_of_change_sized (C := Try.checked) own started (by kernel_rfl) Try.func8
    (ChangeSpec.witness6 (enc := enc) (C := Try.checked) false ⟨#[], #[.slice none 0 0, .slice none 0 0, .slice none 0 0], []⟩ 8 (by kernel_rfl) (by kernel_rfl) (by kernel_rfl) (by kernel_rfl)) ?_
  intro W base args ds gs before hval0 hW hcnd hsz0 _
  have hval : ∀ (j : Nat) t v, Try.f8.params[j]? = some t → args[j]? = some v → Value.okWide Try.prog W .any base t v := hval0
  have hW' := hW
  obtain ⟨p, q, hA0, hV, rfl, hfz, hnd⟩ := hW
  have hA : DataW.TrodAll enc Try.prog W 0 (fun _ => true) true Try.f8.params.toList args.toList ds p := hA0
  rw [Try.params8] at hA hval
  obtain ⟨v0, vs0, d0, ds0, p0, q0, hargs, rfl, rfl, h0, r0⟩ := trodAll_cons hA
  obtain ⟨v1, vs1, d1, ds1, p1, q1, rfl, rfl, rfl, h1, r1⟩ := trodAll_cons r0
  obtain ⟨v2, vs2, d2, ds2, p2, q2, rfl, rfl, rfl, h2, r2⟩ := trodAll_cons r1
  obtain ⟨rfl, rfl, rfl⟩ := trodAll_nil r2
  obtain rfl : args = #[v0, v1, v2] := by cases args; simp_all
  obtain ⟨rfl, rfl⟩ := trodVars_none hV
  have lt0 : ∀ x ∈ p0, x.block < W.heap.size := by obtain ⟨m, hm⟩ := h0; exact DataW.trod_lt m _ _ _ hm
  obtain ⟨xs0, hs0, wl0, wd0⟩ := open_sl dotE (Pr := fun d : Dot => (Lit.int .i64 d.1).wf = true ∧ (Lit.int .i64 d.2).wf = true) (fun _ => rfl) Try.underlying28 (by kernel_rfl)
    (fun fuel cs x h => by obtain ⟨a, b, hc, wa, wb, -⟩ := trod_int2 Try.underlying23 rfl Try.underlying3 (by kernel_rfl) (by kernel_rfl) h; exact ⟨(a, b), hc, wa, wb⟩) (hval 0 28 v0 rfl rfl) h0
  have lt1 : ∀ x ∈ p1, x.block < W.heap.size := by obtain ⟨m, hm⟩ := h1; exact DataW.trod_lt m _ _ _ hm
  obtain ⟨xs1, hs1, wl1, wd1⟩ := open_sl dotE (Pr := fun d : Dot => (Lit.int .i64 d.1).wf = true ∧ (Lit.int .i64 d.2).wf = true) (fun _ => rfl) Try.underlying28 (by kernel_rfl)
    (fun fuel cs x h => by obtain ⟨a, b, hc, wa, wb, -⟩ := trod_int2 Try.underlying23 rfl Try.underlying3 (by kernel_rfl) (by kernel_rfl) h; exact ⟨(a, b), hc, wa, wb⟩) (hval 1 28 v1 rfl rfl) h1
  have lt2 : ∀ x ∈ p2, x.block < W.heap.size := by obtain ⟨m, hm⟩ := h2; exact DataW.trod_lt m _ _ _ hm
  obtain ⟨xs2, hs2, wl2, wd2⟩ := open_sl dotE (Pr := fun d : Dot => (Lit.int .i64 d.1).wf = true ∧ (Lit.int .i64 d.2).wf = true) (fun _ => rfl) Try.underlying28 (by kernel_rfl)
    (fun fuel cs x h => by obtain ⟨a, b, hc, wa, wb, -⟩ := trod_int2 Try.underlying23 rfl Try.underlying3 (by kernel_rfl) (by kernel_rfl) h; exact ⟨(a, b), hc, wa, wb⟩) (hval 2 28 v2 rfl rfl) h2
  clear hA0 hval0
  refine Calls.mono ((F.osierlaw04_VectorLaws.J hs0 hs1 hs2 : J PR 8 _ (St.of W) _) W W (St.of_rel W)) fun e W' ⟨v, S', he, hrel, hv⟩ => ?_
  subst he hv
  have bel := hrel.below
  exact ⟨_, rfl, _, _, _, [], _, [], hW', trodAll_mk1 (shut_bool Try.underlying4 _), (trodAll_cons_mk (Below.trod laidOut (by kernel_rfl) (of_decide_eq_true (by kernel_rfl)) h0 bel lt0) (trodAll_cons_mk (Below.trod laidOut (by kernel_rfl) (of_decide_eq_true (by kernel_rfl)) h1 bel lt1) (trodAll_cons_mk (Below.trod laidOut (by kernel_rfl) (of_decide_eq_true (by kernel_rfl)) h2 bel lt2) trodAll_mk0))), rfl, bel.frame _, fun h => by cases h⟩
theorem over : Rows.vectorLawsRow.holds Try.pinned (OpenSpec.ofChange Rows.vectorLawsSpec) :=
  OpenClaim.holds_of_wide 8 Try.f8 rfl rfl rfl rfl rfl rfl rfl ⟨rfl, rfl, rfl, rfl, rfl⟩ rfl rfl rfl rfl rfl (by kernel_rfl) Try.func8 (by kernel_rfl)
    (of_decide_eq_true (by kernel_rfl)) (by unfold Func.isWrapper; first | (rw [if_pos (by decide +kernel)]; kernel_rfl) | (rw [if_neg (by decide +kernel)]; exact ⟨rfl, rfl⟩))
    (fun os started H enc _ => lifted os started H enc)
theorem proved : Rows.VectorLawsSaid := over
#print axioms proved
end Go.Proofs.Ytnofakkcipcphaa.vectorLaws
namespace Go.Proofs.Ytnofakkcipcphaa
/-- The row, under a short name, for the claim. -/
theorem vectorLaws_holds : Rows.VectorLawsSaid := vectorLaws.proved
end Go.Proofs.Ytnofakkcipcphaa
