/- The row of the law TreeOrders. -/
import Derived.Test.YtdabompehgancaaRows
import Derived.Test.YtdabompehgancaaQ
import Derived.Test.YtdabompehgancaaO
import Derived.Test.YtdabompehgancaaOsjT
set_option linter.unusedSimpArgs false
namespace Go.Proofs.Ytdabompehgancaa.treeOrders
open Go.ChangeShapes Go.WideShapes Go.ChangeAt Go.RowKit Go.Osj
open Go.ChangeMaps (open_string shut_string)
set_option linter.unusedVariables false
theorem own : ownKnob Try.prog.godebug = none := by kernel_rfl
theorem laidOut : laidOutB Try.prog = true := by kernel_rfl
set_option maxRecDepth 100000 in
theorem lifted (os : Os) (started : os.Started) (H : Type) (enc : TypeId × Value → H) :
    ReturnsInHanded {} Try.checked os 11 .any (Rows.treeOrdersSpec.pre6 enc Try.prog Try.f11 Rows.treeOrdersRow.domain false) (Rows.treeOrdersSpec.post enc Try.prog Try.f11 false true false false) := by
  refine returnsInHanded_of_change_sized (C := Try.checked) own started (by kernel_rfl) Try.func11
    (ChangeSpec.witness6 (enc := enc) (C := Try.checked) false ⟨#[], #[.slice none 0 0, .slice none 0 0], []⟩ 8 (by kernel_rfl) (by kernel_rfl) (by kernel_rfl) (by kernel_rfl)) ?_
  intro W base args ds gs before hval0 hW hcnd hsz0 _
  have hval : ∀ (j : Nat) t v, Try.f11.params[j]? = some t → args[j]? = some v → Value.okWide Try.prog W .any base t v := hval0
  have hW' := hW
  obtain ⟨p, q, hA0, hV, rfl, hfz, hnd⟩ := hW
  have hA : DataW.TrodAll enc Try.prog W 0 (fun _ => true) true Try.f11.params.toList args.toList ds p := hA0
  rw [Try.params11] at hA hval
  obtain ⟨v0, vs0, d0, ds0, p0, q0, hargs, rfl, rfl, h0, r0⟩ := trodAll_cons hA
  obtain ⟨v1, vs1, d1, ds1, p1, q1, rfl, rfl, rfl, h1, r1⟩ := trodAll_cons r0
  obtain ⟨rfl, rfl, rfl⟩ := trodAll_nil r1
  obtain rfl : args = #[v0, v1] := by cases args; simp_all
  obtain ⟨rfl, rfl⟩ := trodVars_none hV
  have lt0 : ∀ x ∈ p0, x.block < W.heap.size := by obtain ⟨m, hm⟩ := h0; exact DataW.trod_lt m _ _ _ hm
  obtain ⟨xs0, hs0, wl0, wd0⟩ := open_sl rmE (Pr := fun _ : Mv => True) (fun _ => rfl) Try.underlying22 (by kernel_rfl)
    (fun fuel cs x h => trod_rm Try.underlying31 (by kernel_rfl) Try.underlying29 rfl Try.underlying3 Try.underlying9 (by kernel_rfl) (by kernel_rfl) (by kernel_rfl) (by kernel_rfl) h) (hval 0 22 v0 rfl rfl) h0
  have lt1 : ∀ x ∈ p1, x.block < W.heap.size := by obtain ⟨m, hm⟩ := h1; exact DataW.trod_lt m _ _ _ hm
  obtain ⟨xs1, hs1, wl1, wd1⟩ := open_sl intE (Pr := fun b : Int => (Lit.int .i64 b).wf = true) (fun _ => rfl) Try.underlying37 (by kernel_rfl)
    (fun fuel cs x h => by obtain ⟨a, hc, wa, -⟩ := trod_int Try.underlying3 h; exact ⟨a, hc, wa⟩) (hval 1 37 v1 rfl rfl) h1
  clear hA0 hval0
  refine Calls.mono ((F.osierlaw10_TreeOrders.J hs0 hs1 (Nat.lt_of_le_of_lt wl0 (by decide)) (Nat.lt_of_le_of_lt wl1 (by decide)) (fun t ht => by have := wd1 t ht; simp [Lit.wf, IntKind.min, IntKind.max, IntKind.signed, IntKind.bits] at this; exact this) : J PR 11 _ (St.of W) _) W W (St.of_rel W)) fun e W' ⟨v, S', he, hrel, hv⟩ => ?_
  subst he hv
  have bel := hrel.below
  exact ⟨_, rfl, _, _, _, [], _, [], hW', trodAll_mk1 (shut_bool Try.underlying4 _), (trodAll_cons_mk (Below.trod laidOut (by kernel_rfl) (of_decide_eq_true (by kernel_rfl)) h0 bel lt0) (trodAll_cons_mk (Below.trod laidOut (by kernel_rfl) (of_decide_eq_true (by kernel_rfl)) h1 bel lt1) trodAll_mk0)), rfl, bel.frame _, fun h => by cases h⟩
theorem over : Rows.treeOrdersRow.holds Try.pinned (OpenSpec.ofChange Rows.treeOrdersSpec) :=
  OpenClaim.holds_of_wide 11 Try.f11 rfl rfl rfl rfl rfl rfl rfl ⟨rfl, rfl, rfl, rfl, rfl⟩ rfl rfl rfl rfl rfl (by kernel_rfl) Try.func11 (by kernel_rfl)
    (of_decide_eq_true (by kernel_rfl)) (by unfold Func.isWrapper; first | (rw [if_pos (by decide +kernel)]; kernel_rfl) | (rw [if_neg (by decide +kernel)]; exact ⟨rfl, rfl⟩))
    (fun os started H enc _ => lifted os started H enc)
theorem proved : Rows.TreeOrdersSaid := over
#print axioms proved
end Go.Proofs.Ytdabompehgancaa.treeOrders
namespace Go.Proofs.Ytdabompehgancaa
/-- The row, under a short name, for the claim. -/
theorem treeOrders_holds : Rows.TreeOrdersSaid := treeOrders.proved
end Go.Proofs.Ytdabompehgancaa
