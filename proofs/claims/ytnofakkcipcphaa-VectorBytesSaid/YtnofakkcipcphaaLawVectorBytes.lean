/- The row of the law VectorBytes. -/
import Derived.Test.YtnofakkcipcphaaRows
import Derived.Test.YtnofakkcipcphaaUE
import Derived.Test.YtnofakkcipcphaaOsjT
namespace Go.Proofs.Ytnofakkcipcphaa.vectorBytes
open Go.ChangeShapes Go.WideShapes Go.ChangeAt Go.RowKit Go.Osj
open Go.ChangeMaps (open_string shut_string)
set_option linter.unusedVariables false
theorem own : ownKnob Try.prog.godebug = none := by kernel_rfl
theorem laidOut : laidOutB Try.prog = true := by kernel_rfl
set_option maxRecDepth 100000 in
theorem lifted (os : Os) (started : os.Started) (H : Type) (enc : TypeId × Value → H) :
    ReturnsInHanded {} Try.checked os 13 .any (Rows.vectorBytesSpec.pre6 enc Try.prog Try.f13 Rows.vectorBytesRow.domain false) (Rows.vectorBytesSpec.post enc Try.prog Try.f13 false true false false) := by
  refine returnsInHanded_of_change_sized (C := Try.checked) own started (by kernel_rfl) Try.func13
    (ChangeSpec.witness6 (enc := enc) (C := Try.checked) false ⟨#[], #[.slice none 0 0, .slice none 0 0], []⟩ 8 (by kernel_rfl) (by kernel_rfl) (by kernel_rfl) (by kernel_rfl)) ?_
  intro W base args ds gs before hval0 hW hcnd hsz0 _
  have hval : ∀ (j : Nat) t v, Try.f13.params[j]? = some t → args[j]? = some v → Value.okWide Try.prog W .any base t v := hval0
  have hW' := hW
  obtain ⟨p, q, hA0, hV, rfl, hfz, hnd⟩ := hW
  have hA : DataW.TrodAll enc Try.prog W 0 (fun _ => true) true Try.f13.params.toList args.toList ds p := hA0
  rw [Try.params13] at hA hval
  obtain ⟨v0, vs0, d0, ds0, p0, q0, hargs, rfl, rfl, h0, r0⟩ := trodAll_cons hA
  obtain ⟨v1, vs1, d1, ds1, p1, q1, rfl, rfl, rfl, h1, r1⟩ := trodAll_cons r0
  obtain ⟨rfl, rfl, rfl⟩ := trodAll_nil r1
  obtain rfl : args = #[v0, v1] := by cases args; simp_all
  obtain ⟨rfl, rfl⟩ := trodVars_none hV
  have lt0 : ∀ x ∈ p0, x.block < W.heap.size := by obtain ⟨m, hm⟩ := h0; exact DataW.trod_lt m _ _ _ hm
  obtain ⟨xs0, hs0, wl0, wd0⟩ := open_sl byteE (Pr := fun b : Int => (Lit.int .u8 b).wf = true) (fun _ => rfl) Try.underlying48 (by kernel_rfl)
    (fun fuel cs x h => by obtain ⟨a, hc, wa, -⟩ := trod_int Try.underlying5 h; exact ⟨a, hc, wa⟩) (hval 0 48 v0 rfl rfl) h0
  have wb0 : isB xs0 := fun b hb => by have := wd0 b hb; simp [Lit.wf, IntKind.min, IntKind.max, IntKind.signed, IntKind.bits] at this; omega
  have lt1 : ∀ x ∈ p1, x.block < W.heap.size := by obtain ⟨m, hm⟩ := h1; exact DataW.trod_lt m _ _ _ hm
  obtain ⟨xs1, hs1, wl1, wd1⟩ := open_sl dotE (Pr := fun d : Dot => (Lit.int .i64 d.1).wf = true ∧ (Lit.int .i64 d.2).wf = true) (fun _ => rfl) Try.underlying28 (by kernel_rfl)
    (fun fuel cs x h => by obtain ⟨a, b, hc, wa, wb, -⟩ := trod_int2 Try.underlying23 rfl Try.underlying3 (by kernel_rfl) (by kernel_rfl) h; exact ⟨(a, b), hc, wa, wb⟩) (hval 1 28 v1 rfl rfl) h1
  clear hA0 hval0
  refine Calls.mono ((F.osierlaw04_VectorBytes.J hs0 wb0 hs1 : J PR 13 _ (St.of W) _) W W (St.of_rel W)) fun e W' ⟨v, S', he, hrel, hv⟩ => ?_
  subst he hv
  have bel := hrel.below
  exact ⟨_, rfl, _, _, _, [], _, [], hW', trodAll_mk1 (shut_bool Try.underlying4 _), (trodAll_cons_mk (Below.trod laidOut (by kernel_rfl) (of_decide_eq_true (by kernel_rfl)) h0 bel lt0) (trodAll_cons_mk (Below.trod laidOut (by kernel_rfl) (of_decide_eq_true (by kernel_rfl)) h1 bel lt1) trodAll_mk0)), rfl, bel.frame _, fun h => by cases h⟩
theorem over : Rows.vectorBytesRow.holds Try.pinned (OpenSpec.ofChange Rows.vectorBytesSpec) :=
  OpenClaim.holds_of_wide 13 Try.f13 rfl rfl rfl rfl rfl rfl rfl ⟨rfl, rfl, rfl, rfl, rfl⟩ rfl rfl rfl rfl rfl (by kernel_rfl) Try.func13 (by kernel_rfl)
    (of_decide_eq_true (by kernel_rfl)) (by unfold Func.isWrapper; first | (rw [if_pos (by decide +kernel)]; kernel_rfl) | (rw [if_neg (by decide +kernel)]; exact ⟨rfl, rfl⟩))
    (fun os started H enc _ => lifted os started H enc)
theorem proved : Rows.VectorBytesSaid := over
#print axioms proved
end Go.Proofs.Ytnofakkcipcphaa.vectorBytes
namespace Go.Proofs.Ytnofakkcipcphaa
/-- The row, under a short name, for the claim. -/
theorem vectorBytes_holds : Rows.VectorBytesSaid := vectorBytes.proved
end Go.Proofs.Ytnofakkcipcphaa
