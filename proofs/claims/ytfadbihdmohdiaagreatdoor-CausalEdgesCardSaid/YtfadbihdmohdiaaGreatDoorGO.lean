/- Raw acts come in. -/
import Derived.Test.YtfadbihdmohdiaaGreatDoorKO
import Derived.Test.YtfadbihdmohdiaaGreatDoorGA
set_option linter.unusedSimpArgs false
set_option linter.unusedVariables false
namespace Go.Osj
open Go.RowKit Go.ChangeShapes Go.WideShapes Go.ChangeAt
section
variable {H : Type} {enc : TypeId × Value → H} {P : Program} {W : World} {sp : Nat → Bool} {held : Bool}
theorem trod_mk {fuel : Nat} {t ti ts : TypeId} {fs : Array Field} {cs : List Value} {x : DataW H × List MemPlace} (hu : P.underlying t = some (.struct fs))
    (hf : fs.toList.map (fun f => (f.offset, f.type)) = [(0, ti), (1, ti), (2, ti), (3, ti), (4, ti), (5, ts)])
    (hui : P.underlying ti = some (.int .i64)) (hus : P.underlying ts = some .string)
    (h1 : P.cellsOf ti = 1) (hs1 : P.cellsOf ts = 1) (h6 : P.cellsOf t = 6) (h : DataW.trod enc P W 0 sp held fuel t cs = some x) : ∃ m : Mk, cs = mkE.enc m ∧ mkI m := by
  obtain ⟨hl, fuel', hF⟩ := trod_fields hu h
  have hG : ∀ off ty, (off, ty) ∈ fs.toList.map (fun f => (f.offset, f.type)) → ∃ y, DataW.trod enc P W 0 sp held fuel' ty ((cs.drop off).take (P.cellsOf ty)) = some y := by
    intro off ty hm
    obtain ⟨f, hfm, he⟩ := List.mem_map.1 hm
    injection he with e1 e2
    subst e1 e2
    exact hF f hfm
  rw [hf] at hG
  have hI : ∀ off, (off, ti) ∈ [(0, ti), (1, ti), (2, ti), (3, ti), (4, ti), (5, ts)] → ∃ n : Int, ((cs.drop off).take 1) = [.int .i64 n] ∧ -9223372036854775808 ≤ n ∧ n ≤ 9223372036854775807 := fun off hm => by
    obtain ⟨y, k⟩ := hG off ti hm
    obtain ⟨n, e, w, -⟩ := trod_int hui k
    rw [h1] at e
    simp [Lit.wf, IntKind.min, IntKind.max, IntKind.signed, IntKind.bits] at w
    exact ⟨n, e, w⟩
  obtain ⟨n0, e0, w0⟩ := hI 0 (by simp)
  obtain ⟨n1, e1, w1⟩ := hI 1 (by simp)
  obtain ⟨n2, e2, w2⟩ := hI 2 (by simp)
  obtain ⟨n3, e3, w3⟩ := hI 3 (by simp)
  obtain ⟨n4, e4, w4⟩ := hI 4 (by simp)
  obtain ⟨y5, k5⟩ := hG 5 ts (by simp)
  obtain ⟨s, e5⟩ := trod_str hus k5
  rw [hs1] at e5
  rw [h6] at hl
  refine ⟨⟨n0, n1, n2, n3, n4, s⟩, ?_, w0, w1, w2, w3, w4⟩
  match cs, hl with
  | [z0, z1, z2, z3, z4, z5], _ =>
    simp at e0 e1 e2 e3 e4 e5
    show _ = mkC _
    simp [mkC, e0, e1, e2, e3, e4, e5]
end
end Go.Osj
