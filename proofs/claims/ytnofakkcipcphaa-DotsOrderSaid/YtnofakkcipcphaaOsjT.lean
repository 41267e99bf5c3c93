/- What comes in: arguments opened. -/
import Derived.Test.YtnofakkcipcphaaOsjR
import Derived.WalkKit
import Derived.ProofKit
import Derived.OpenShut
import Derived.ShutString
import Derived.ChangeOld
import Derived.Below
import Derived.SizedLaws
namespace Go.Osj
open Go.RowKit Go.ChangeShapes Go.WideShapes Go.ChangeAt

section
variable {H : Type} {enc : TypeId × Value → H} {P : Program} {W : World} {sp : Nat → Bool} {held : Bool}

theorem trod_int {fuel : Nat} {t : TypeId} {k : IntKind} {cs : List Value} {x : DataW H × List MemPlace} (hu : P.underlying t = some (.int k)) (h : DataW.trod enc P W 0 sp held fuel t cs = some x) :
    ∃ n, cs = [.int k n] ∧ (Lit.int k n).wf = true ∧ x.2 = [] := by
  cases fuel with
  | zero => simp [DataW.trod] at h
  | succ fuel =>
    simp only [DataW.trod, hu] at h
    split at h <;> try (simp at h; done)
    all_goals first | (rename_i heq; cases heq; done) | skip
    rename_i k' k'' n heq
    injection heq with heq
    injection heq with heq
    subst heq
    split at h
    · rename_i hk
      obtain ⟨rfl, hw⟩ := hk
      injection h with h
      subst h
      exact ⟨n, rfl, hw, rfl⟩
    · simp at h

/-- a struct of two integers, come in -/
theorem trod_int2 {fuel : Nat} {t ti : TypeId} {fs : Array Field} {k : IntKind} {cs : List Value} {x : DataW H × List MemPlace} (hu : P.underlying t = some (.struct fs)) (hf : fs.toList.map (fun f => (f.offset, f.type)) = [(0, ti), (1, ti)])
    (hi : P.underlying ti = some (.int k)) (h1 : P.cellsOf ti = 1) (h2 : P.cellsOf t = 2) (h : DataW.trod enc P W 0 sp held fuel t cs = some x) :
    ∃ a b, cs = [.int k a, .int k b] ∧ (Lit.int k a).wf = true ∧ (Lit.int k b).wf = true ∧ x.2 = [] := by
  cases fuel with
  | zero => simp [DataW.trod] at h
  | succ fuel =>
    rcases hfs : fs.toList with _ | ⟨f, _ | ⟨g, _ | ⟨e, l⟩⟩⟩ <;> simp [hfs] at hf
    obtain ⟨⟨f1, f2⟩, g1, g2⟩ := hf
    simp only [DataW.trod, hu] at h
    split at h
    · rename_i hl
      rw [h2] at hl
      match cs, hl with
      | [u, v], _ =>
        simp only [hfs, List.mapM_cons, List.mapM_nil, f1, f2, g1, g2, h1] at h
        simp only [List.drop_zero, List.take_succ_cons, List.take_zero, List.drop_succ_cons] at h
        cases hx : DataW.trod enc P W 0 sp held fuel ti [u] with
        | none => simp [hx] at h
        | some y =>
          cases hy : DataW.trod enc P W 0 sp held fuel ti [v] with
          | none => simp [hx, hy] at h
          | some z =>
            simp [hx, hy] at h
            obtain ⟨a, ha, wa, pa⟩ := trod_int hi hx
            obtain ⟨b, hb, wb, pb⟩ := trod_int hi hy
            simp at ha hb
            subst ha hb h
            exact ⟨a, b, rfl, wa, wb, by simp [pa, pb]⟩
    · simp at h

theorem open_int2 {r : Reach} {b0 : Nat} {t ti : TypeId} {fs : Array Field} {k : IntKind} {v : Value} {d : DataW H} {ps : List MemPlace} (hu : P.underlying t = some (.struct fs)) (hf : fs.toList.map (fun f => (f.offset, f.type)) = [(0, ti), (1, ti)])
    (hi : P.underlying ti = some (.int k)) (h1 : P.cellsOf ti = 1) (h2 : P.cellsOf t = 2) (hval : Value.okWide P W r b0 t v) (hd : DataW.Trod enc P W 0 sp held t v d ps) :
    ∃ a b, v = .agg #[.int k a, .int k b] ∧ (Lit.int k a).wf = true ∧ (Lit.int k b).wf = true := by
  obtain ⟨cs, rfl, -⟩ := okWide_struct hu hval
  obtain ⟨fuel, h⟩ := hd
  obtain ⟨a, b, h3, h4, h5, -⟩ := trod_int2 hu hf hi h1 h2 h
  refine ⟨a, b, ?_, h4, h5⟩
  simp only [Value.cells] at h3
  rw [← h3]
end
end Go.Osj
