/- Moves come in: a struct's fields, opened. -/
import Derived.Test.YtdabompehgancaaOsjT
import Derived.Test.YtdabompehgancaaM
set_option linter.unusedSimpArgs false
set_option linter.unusedVariables false
namespace Go.Osj
open Go.RowKit Go.ChangeShapes Go.WideShapes Go.ChangeAt
section
variable {H : Type} {enc : TypeId × Value → H} {P : Program} {W : World} {sp : Nat → Bool} {held : Bool}
theorem trod_fields {fuel : Nat} {t : TypeId} {fs : Array Field} {cs : List Value} {x : DataW H × List MemPlace} (hu : P.underlying t = some (.struct fs)) (h : DataW.trod enc P W 0 sp held fuel t cs = some x) :
    cs.length = P.cellsOf t ∧ ∃ fuel', ∀ f ∈ fs.toList, ∃ y, DataW.trod enc P W 0 sp held fuel' f.type ((cs.drop f.offset).take (P.cellsOf f.type)) = some y := by
  cases fuel with
  | zero => simp [DataW.trod] at h
  | succ fuel =>
    simp only [DataW.trod, hu] at h
    split at h
    · rename_i hl
      refine ⟨hl, fuel, fun f hf => ?_⟩
      cases hm : fs.toList.mapM fun f => DataW.trod enc P W 0 sp held fuel f.type ((cs.drop f.offset).take (P.cellsOf f.type)) with
      | none => simp [hm] at h
      | some ys => exact mapM_mem hm f hf
    · simp at h
theorem trod_str {fuel : Nat} {t : TypeId} {cs : List Value} {x : DataW H × List MemPlace} (hu : P.underlying t = some .string) (h : DataW.trod enc P W 0 sp held fuel t cs = some x) :
    ∃ s : ByteArray, cs = [.string s] := by
  cases fuel with
  | zero => simp [DataW.trod] at h
  | succ fuel =>
    simp only [DataW.trod, hu] at h
    split at h <;> try (simp at h; done)
    all_goals first | (rename_i heq; cases heq; done) | skip
    exact ⟨_, rfl⟩
/-- a move, come in -/
theorem trod_rm {fuel : Nat} {t td ti ts : TypeId} {fs ds : Array Field} {cs : List Value} {x : DataW H × List MemPlace} (hu : P.underlying t = some (.struct fs))
    (hf : fs.toList.map (fun f => (f.offset, f.type)) = [(0, td), (2, ti), (3, td), (5, td), (7, ts)])
    (hud : P.underlying td = some (.struct ds)) (hfd : ds.toList.map (fun f => (f.offset, f.type)) = [(0, ti), (1, ti)]) (hui : P.underlying ti = some (.int .i64)) (hus : P.underlying ts = some .string)
    (h1 : P.cellsOf ti = 1) (h2 : P.cellsOf td = 2) (hs1 : P.cellsOf ts = 1) (h8 : P.cellsOf t = 8) (h : DataW.trod enc P W 0 sp held fuel t cs = some x) : ∃ m : Mv, cs = rmE.enc m ∧ True := by
  obtain ⟨hl, fuel', hF⟩ := trod_fields hu h
  have hG : ∀ off ty, (off, ty) ∈ fs.toList.map (fun f => (f.offset, f.type)) → ∃ y, DataW.trod enc P W 0 sp held fuel' ty ((cs.drop off).take (P.cellsOf ty)) = some y := by
    intro off ty hm
    obtain ⟨f, hfm, he⟩ := List.mem_map.1 hm
    injection he with e1 e2
    subst e1 e2
    exact hF f hfm
  rw [hf] at hG
  have hD : ∀ off, (off, td) ∈ [(0, td), (2, ti), (3, td), (5, td), (7, ts)] → ∃ a b, ((cs.drop off).take 2) = [.int .i64 a, .int .i64 b] := fun off hm => by
    obtain ⟨y, hy⟩ := hG off td hm
    obtain ⟨a, b, hn, -⟩ := trod_int2 hud hfd hui h1 h2 hy
    rw [h2] at hn
    exact ⟨a, b, hn⟩
  obtain ⟨a1, a2, e0⟩ := hD 0 (by simp)
  obtain ⟨b1, b2, e3⟩ := hD 3 (by simp)
  obtain ⟨c1, c2, e5⟩ := hD 5 (by simp)
  obtain ⟨y2, k2⟩ := hG 2 ti (by simp)
  obtain ⟨n2, e2, -⟩ := trod_int hui k2
  rw [h1] at e2
  obtain ⟨y7, k7⟩ := hG 7 ts (by simp)
  obtain ⟨s, e7⟩ := trod_str hus k7
  rw [hs1] at e7
  rw [h8] at hl
  refine ⟨⟨(a1, a2), n2, (c1, c2), s, (b1, b2)⟩, ?_, trivial⟩
  match cs, hl with
  | [z0, z1, z2, z3, z4, z5, z6, z7], _ =>
    simp at e0 e2 e3 e5 e7
    show _ = rmC _
    simp [rmC, e0, e2, e3, e5, e7]
end
end Go.Osj
