/- A struct's fields, come in; an operation, come in. -/
import Derived.Test.YtfadbihdmohdiaaGreatDoorOsjT
import Derived.Test.YtfadbihdmohdiaaGreatDoorOK
set_option linter.unusedSimpArgs false
set_option linter.unusedVariables false
namespace Go.Osj
open Go.RowKit Go.ChangeShapes Go.WideShapes Go.ChangeAt
section
variable {H : Type} {enc : TypeId × Value → H} {P : Program} {W : World} {sp : Nat → Bool} {held : Bool}
theorem trod_fields {fuel : Nat} {t : TypeId} {fs : Array Field} {cs : List Value} {x : DataW H × List MemPlace} (hu : P.underlying t = some (.struct fs)) (h : DataW.trod enc P W 0 sp held fuel t cs = some x) :
    cs.length = P.cellsOf t ∧ ∃ fuel', ∀ f ∈ fs.toList, ∃ y, DataW.trod enc P W 0 sp held fuel' f.type ((cs.drop f.offset).take (P.cellsOf f.type)) = some y := by
  cases fuel with
  | zero => simp [DataW.trod] at h
  | succ fuel =>
    simp only [DataW.trod, hu] at h
    split at h
    · rename_i hl
      refine ⟨hl, fuel, fun f hf => ?_⟩
      cases hm : fs.toList.mapM fun f => DataW.trod enc P W 0 sp held fuel f.type ((cs.drop f.offset).take (P.cellsOf f.type)) with
      | none => simp [hm] at h
      | some ys => exact mapM_mem hm f hf
    · simp at h
theorem trod_str {fuel : Nat} {t : TypeId} {cs : List Value} {x : DataW H × List MemPlace} (hu : P.underlying t = some .string) (h : DataW.trod enc P W 0 sp held fuel t cs = some x) :
    ∃ s : ByteArray, cs = [.string s] := by
  cases fuel with
  | zero => simp [DataW.trod] at h
  | succ fuel =>
    simp only [DataW.trod, hu] at h
    split at h <;> try (simp at h; done)
    all_goals first | (rename_i heq; cases heq; done) | skip
    exact ⟨_, rfl⟩
/-- an operation, come in -/
theorem open_op {r : Reach} {b0 : Nat} {t td ti tv ts : TypeId} {fs ds : Array Field} {v : Value} {d : DataW H} {ps : List MemPlace} (hsp : ∀ b, sp b = true) (hu : P.underlying t = some (.struct fs))
    (hf : fs.toList.map (fun f => (f.offset, f.type)) = [(0, td), (2, ti), (3, tv), (4, ti), (5, td), (7, td), (9, ti), (10, ti), (11, td), (13, ts)])
    (hud : P.underlying td = some (.struct ds)) (hfd : ds.toList.map (fun f => (f.offset, f.type)) = [(0, ti), (1, ti)]) (hui : P.underlying ti = some (.int .i64)) (huv : P.underlying tv = some (.slice td)) (hus : P.underlying ts = some .string)
    (h1 : P.cellsOf ti = 1) (h2 : P.cellsOf td = 2) (hv1 : P.cellsOf tv = 1) (hs1 : P.cellsOf ts = 1) (h14 : P.cellsOf t = 14) (hval : Value.okWide P W r b0 t v) (hd : DataW.Trod enc P W 0 sp held t v d ps) :
    ∃ (o : OpA) (dv : Value), v = opV o dv ∧ SlT dotE (St.of W) dv o.deps ∧ o.deps.length ≤ maxLen := by
  obtain ⟨cs, rfl, -⟩ := okWide_struct hu hval
  obtain ⟨fuel, h⟩ := hd
  obtain ⟨hl, fuel', hF⟩ := trod_fields hu h
  have hG : ∀ off ty, (off, ty) ∈ fs.toList.map (fun f => (f.offset, f.type)) → ∃ y, DataW.trod enc P W 0 sp held fuel' ty (((Value.agg cs).cells.toList.drop off).take (P.cellsOf ty)) = some y := by
    intro off ty hm
    obtain ⟨f, hfm, he⟩ := List.mem_map.1 hm
    injection he with e1 e2
    subst e1 e2
    exact hF f hfm
  rw [hf] at hG
  have hI : ∀ off, (off, ti) ∈ [(0, td), (2, ti), (3, tv), (4, ti), (5, td), (7, td), (9, ti), (10, ti), (11, td), (13, ts)] → ∃ n, (((Value.agg cs).cells.toList.drop off).take 1) = [.int .i64 n] := fun off hm => by
    obtain ⟨y, hy⟩ := hG off ti hm
    obtain ⟨n, hn, -⟩ := trod_int hui hy
    rw [h1] at hn
    exact ⟨n, hn⟩
  have hD : ∀ off, (off, td) ∈ [(0, td), (2, ti), (3, tv), (4, ti), (5, td), (7, td), (9, ti), (10, ti), (11, td), (13, ts)] → ∃ a b, (((Value.agg cs).cells.toList.drop off).take 2) = [.int .i64 a, .int .i64 b] := fun off hm => by
    obtain ⟨y, hy⟩ := hG off td hm
    obtain ⟨a, b, hn, -⟩ := trod_int2 hud hfd hui h1 h2 hy
    rw [h2] at hn
    exact ⟨a, b, hn⟩
  obtain ⟨a1, a2, e0⟩ := hD 0 (by simp)
  obtain ⟨n2, e2⟩ := hI 2 (by simp)
  obtain ⟨n4, e4⟩ := hI 4 (by simp)
  obtain ⟨b1, b2, e5⟩ := hD 5 (by simp)
  obtain ⟨c1, c2, e7⟩ := hD 7 (by simp)
  obtain ⟨n9, e9⟩ := hI 9 (by simp)
  obtain ⟨n10, e10⟩ := hI 10 (by simp)
  obtain ⟨d1, d2, e11⟩ := hD 11 (by simp)
  obtain ⟨y3, h3⟩ := hG 3 tv (by simp)
  obtain ⟨dv, xs, e3, hsl, hlen, -⟩ := trod_sl dotE (Pr := fun _ => True) hsp huv h2 (fun fuel cs x h => by obtain ⟨a, b, hc, -⟩ := trod_int2 hud hfd hui h1 h2 h; exact ⟨(a, b), hc, trivial⟩) h3
  obtain ⟨y13, h13⟩ := hG 13 ts (by simp)
  obtain ⟨s, e13⟩ := trod_str hus h13
  rw [hv1] at e3
  rw [hs1] at e13
  refine ⟨⟨(a1, a2), n2, xs, n4, (b1, b2), (c1, c2), n9, n10, (d1, d2), s⟩, dv, ?_, hsl, hlen⟩
  rw [h14] at hl
  simp only [Value.cells] at *
  generalize hcs : cs.toList = l at *
  match l, hl with
  | [z0, z1, z2, z3, z4, z5, z6, z7, z8, z9, z10, z11, z12, z13], _ =>
    simp at e0 e2 e3 e4 e5 e7 e9 e10 e11 e13
    have : cs = (opC ⟨(a1, a2), n2, xs, n4, (b1, b2), (c1, c2), n9, n10, (d1, d2), s⟩ dv).toArray := by
      apply Array.toList_inj.1
      rw [hcs]
      simp [opC, e0, e2, e3, e4, e5, e7, e9, e10, e11, e13]
    rw [this]
end
end Go.Osj
