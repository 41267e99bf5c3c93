/- What comes in: arguments opened. -/
import Derived.Test.YtfadbihdmohdiaaGreatDoorOsjR
import Derived.WalkKit
import Derived.ProofKit
import Derived.OpenShut
import Derived.ShutString
import Derived.ChangeOld
import Derived.Below
import Derived.SizedLaws
namespace Go.Osj
open Go.RowKit Go.ChangeShapes Go.WideShapes Go.ChangeAt

section
variable {H : Type} {enc : TypeId × Value → H} {P : Program} {W : World} {sp : Nat → Bool} {held : Bool}

theorem trod_int {fuel : Nat} {t : TypeId} {k : IntKind} {cs : List Value} {x : DataW H × List MemPlace} (hu : P.underlying t = some (.int k)) (h : DataW.trod enc P W 0 sp held fuel t cs = some x) :
    ∃ n, cs = [.int k n] ∧ (Lit.int k n).wf = true ∧ x.2 = [] := by
  cases fuel with
  | zero => simp [DataW.trod] at h
  | succ fuel =>
    simp only [DataW.trod, hu] at h
    split at h <;> try (simp at h; done)
    all_goals first | (rename_i heq; cases heq; done) | skip
    rename_i k' k'' n heq
    injection heq with heq
    injection heq with heq
    subst heq
    split at h
    · rename_i hk
      obtain ⟨rfl, hw⟩ := hk
      injection h with h
      subst h
      exact ⟨n, rfl, hw, rfl⟩
    · simp at h

/-- a struct of two integers, come in -/
theorem trod_int2 {fuel : Nat} {t ti : TypeId} {fs : Array Field} {k : IntKind} {cs : List Value} {x : DataW H × List MemPlace} (hu : P.underlying t = some (.struct fs)) (hf : fs.toList.map (fun f => (f.offset, f.type)) = [(0, ti), (1, ti)])
    (hi : P.underlying ti = some (.int k)) (h1 : P.cellsOf ti = 1) (h2 : P.cellsOf t = 2) (h : DataW.trod enc P W 0 sp held fuel t cs = some x) :
    ∃ a b, cs = [.int k a, .int k b] ∧ (Lit.int k a).wf = true ∧ (Lit.int k b).wf = true ∧ x.2 = [] := by
  cases fuel with
  | zero => simp [DataW.trod] at h
  | succ fuel =>
    rcases hfs : fs.toList with _ | ⟨f, _ | ⟨g, _ | ⟨e, l⟩⟩⟩ <;> simp [hfs] at hf
    obtain ⟨⟨f1, f2⟩, g1, g2⟩ := hf
    simp only [DataW.trod, hu] at h
    split at h
    · rename_i hl
      rw [h2] at hl
      match cs, hl with
      | [u, v], _ =>
        simp only [hfs, List.mapM_cons, List.mapM_nil, f1, f2, g1, g2, h1] at h
        simp only [List.drop_zero, List.take_succ_cons, List.take_zero, List.drop_succ_cons] at h
        cases hx : DataW.trod enc P W 0 sp held fuel ti [u] with
        | none => simp [hx] at h
        | some y =>
          cases hy : DataW.trod enc P W 0 sp held fuel ti [v] with
          | none => simp [hx, hy] at h
          | some z =>
            simp [hx, hy] at h
            obtain ⟨a, ha, wa, pa⟩ := trod_int hi hx
            obtain ⟨b, hb, wb, pb⟩ := trod_int hi hy
            simp at ha hb
            subst ha hb h
            exact ⟨a, b, rfl, wa, wb, by simp [pa, pb]⟩
    · simp at h

theorem open_int2 {r : Reach} {b0 : Nat} {t ti : TypeId} {fs : Array Field} {k : IntKind} {v : Value} {d : DataW H} {ps : List MemPlace} (hu : P.underlying t = some (.struct fs)) (hf : fs.toList.map (fun f => (f.offset, f.type)) = [(0, ti), (1, ti)])
    (hi : P.underlying ti = some (.int k)) (h1 : P.cellsOf ti = 1) (h2 : P.cellsOf t = 2) (hval : Value.okWide P W r b0 t v) (hd : DataW.Trod enc P W 0 sp held t v d ps) :
    ∃ a b, v = .agg #[.int k a, .int k b] ∧ (Lit.int k a).wf = true ∧ (Lit.int k b).wf = true := by
  obtain ⟨cs, rfl, -⟩ := okWide_struct hu hval
  obtain ⟨fuel, h⟩ := hd
  obtain ⟨a, b, h3, h4, h5, -⟩ := trod_int2 hu hf hi h1 h2 h
  refine ⟨a, b, ?_, h4, h5⟩
  simp only [Value.cells] at h3
  rw [← h3]

/-- all that lies in a world, to be read -/
def St.of (W : World) : St := ⟨W.heap.size, fun b => match W.heap[b]? with
  | some (.cells c _ _) => some (.cells false c.size c.toList)
  | some (.map es clock) => some (.map false es.toList clock)
  | _ => none⟩
theorem St.of_rel (W : World) : Rel W (St.of W) W := by
  refine ⟨Below.refl _ _, Nat.le_refl _, Nat.le_refl _, fun b o ho => ?_, Nat.le_refl _⟩
  simp only [St.of] at ho
  cases hb : W.heap[b]? with
  | none => simp [hb] at ho
  | some ob =>
    have hlt : b < W.heap.size := (Array.getElem?_eq_some_iff.1 hb).1
    cases ob <;> simp only [hb] at ho <;> try (simp at ho; done)
    · rename_i c e fz
      obtain ⟨lo, hi⟩ := fz
      injection ho with ho
      subst ho
      exact ⟨hlt, c, e, lo, hi, hb, Nat.le_refl _, by simp, List.take_of_length_le (by simp), fun h => by cases h⟩
    · rename_i es clock
      injection ho with ho
      subst ho
      exact ⟨hlt, by simpa using hb, fun h => by cases h⟩

theorem of_cell {b off : Nat} {v : Value} (h : W.cell? ⟨b, off, none⟩ = some v) : ∃ c e fz, W.heap[b]? = some (.cells c e fz) ∧ c[off]? = some v := by
  unfold World.cell? at h
  cases hb : W.heap[b]? with
  | none => simp [hb] at h
  | some ob =>
    cases ob <;> simp [hb] at h
    exact ⟨_, _, _, rfl, h⟩

theorem of_loadN {b off : Nat} {vs : List Value} (h : ∀ t, t < vs.length → W.cell? ⟨b, off + t, none⟩ = vs[t]?) (hpos : 0 < vs.length) : b < W.heap.size ∧ (St.of W).loadN ⟨b, off, none⟩ vs.length = some vs := by
  have hv : ∀ t (ht : t < vs.length), W.cell? ⟨b, off + t, none⟩ = some vs[t] := fun t ht => by rw [h t ht]; simp [ht]
  obtain ⟨c, e, fz, hb, -⟩ := of_cell (hv 0 hpos)
  have hg : ∀ t (ht : t < vs.length), c[off + t]? = some vs[t] := by
    intro t ht
    obtain ⟨c', e', fz', hb', hc⟩ := of_cell (hv t ht)
    rw [hb] at hb'
    simp at hb'
    obtain ⟨rfl, -⟩ := hb'
    exact hc
  refine ⟨(Array.getElem?_eq_some_iff.1 hb).1, ?_⟩
  rw [St.loadN_def]
  simp only [St.of, hb]
  have hlast := (Array.getElem?_eq_some_iff.1 (hg (vs.length - 1) (by omega))).1
  rw [if_pos (by simp; omega)]
  congr 1
  apply List.ext_getElem?
  intro t
  rw [List.getElem?_take]
  split
  · rename_i ht
    rw [List.getElem?_drop, Array.getElem?_toList, hg t ht]
    simp [ht]
  · rename_i ht
    rw [List.getElem?_eq_none (by omega)]

theorem mapM_mem {α β : Type} {f : α → Option β} : ∀ {l : List α} {ys : List β}, l.mapM f = some ys → ∀ x ∈ l, ∃ y, f x = some y
  | [], _, _, x, hx => by cases hx
  | a :: l, ys, h, x, hx => by
    simp only [List.mapM_cons, Option.bind_eq_bind] at h
    cases ha : f a with
    | none => simp [ha] at h
    | some y =>
      cases hl : l.mapM f with
      | none => simp [ha, hl] at h
      | some zs =>
        rcases List.mem_cons.1 hx with rfl | hx
        · exact ⟨y, ha⟩
        · exact mapM_mem hl x hx
theorem mapM_at {α β : Type} {f : α → Option β} : ∀ {l : List α} {ys : List β}, l.mapM f = some ys → ys.length = l.length ∧ ∀ (i : Nat) x, l[i]? = some x → f x = ys[i]?
  | [], ys, h => by
    simp at h
    subst h
    exact ⟨rfl, fun i x hx => by simp at hx⟩
  | a :: l, ys, h => by
    simp only [List.mapM_cons, Option.bind_eq_bind, Option.pure_def] at h
    cases ha : f a with
    | none => simp [ha] at h
    | some y =>
      cases hl : l.mapM f with
      | none => simp [ha, hl] at h
      | some zs =>
        simp [ha, hl] at h
        subst h
        obtain ⟨h1, h2⟩ := mapM_at hl
        refine ⟨by simp [h1], fun i x hx => ?_⟩
        cases i with
        | zero => simp at hx; subst hx; simpa using ha
        | succ i => simpa using h2 i x (by simpa using hx)

theorem cells_at {a : Addr} {n : Nat} {cs : List Value} (h : W.cells? 0 a n = some cs) : cs.length = n ∧ ∀ j, j < n → W.cell? (a.add j) = cs[j]? := by
  unfold World.cells? at h
  rw [if_pos (Nat.zero_le _)] at h
  obtain ⟨h1, h2⟩ := mapM_at h
  refine ⟨by simpa using h1, fun j hj => h2 j j (by simp [hj])⟩

theorem cell_spot {a : Addr} {v : Value} (h : W.cell? a = some v) : a.spot = none := by
  unfold World.cell? at h
  split at h
  · split at h
    · cases h
    · rename_i hs
      cases hx : a.spot with
      | none => rfl
      | some y => simp [hx] at hs
  · cases h

/-- a slice, come in, anywhere -/
theorem trod_sl {α : Type} (E : Enc α) {Pr : α → Prop} {fuel : Nat} {t e : TypeId} {cs : List Value} {x : DataW H × List MemPlace} (hsp : ∀ b, sp b = true) (hu : P.underlying t = some (.slice e)) (hc : P.cellsOf e = E.k)
    (hel : ∀ fuel cs x, DataW.trod enc P W 0 sp held fuel e cs = some x → ∃ a, cs = E.enc a ∧ Pr a) (h : DataW.trod enc P W 0 sp held fuel t cs = some x) :
    ∃ v, ∃ xs : List α, cs = [v] ∧ SlT E (St.of W) v xs ∧ xs.length ≤ maxLen ∧ ∀ x ∈ xs, Pr x := by
  cases fuel with
  | zero => simp [DataW.trod] at h
  | succ fuel =>
    simp only [DataW.trod, hu] at h
    split at h <;> try (simp at h; done)
    all_goals first | (rename_i heq; cases heq; done) | skip
    · exact ⟨_, [], rfl, ⟨none, 0, rfl, Nat.le_refl _, rfl, fun h => absurd rfl h⟩, Nat.zero_le _, by simp⟩
    · rename_i e' a len cap heq
      injection heq with heq
      injection heq with heq
      subst heq
      simp only [Nat.zero_le, true_and, hsp, if_true] at h
      split at h
      · rename_i hle
        cases hm : (List.range len).mapM (fun i => (W.cells? 0 (a.add (i * P.cellsOf e)) (P.cellsOf e)).bind (DataW.trod enc P W 0 sp held fuel e)) with
        | none => simp [hm] at h
        | some elems =>
          have hokb : okB (some a) cap := by
            simp only [okB]
            by_cases hcap : cap = 0
            · exact .inl hcap
            · refine .inr ?_
              have hspot : ∀ y, (W.cells? 0 (a.add (0 * P.cellsOf e)) (P.cellsOf e)).bind (DataW.trod enc P W 0 sp held fuel e) = some y → a.spot = none := by
                intro y hy
                cases hcs : W.cells? 0 (a.add (0 * P.cellsOf e)) (P.cellsOf e) with
                | none => rw [hcs] at hy; simp at hy
                | some cs =>
                  obtain ⟨h4, h5⟩ := cells_at hcs
                  have hk := E.pos
                  have h6 := h5 0 (by omega)
                  rw [List.getElem?_eq_getElem (by omega)] at h6
                  have h7 := cell_spot h6
                  simpa [Addr.add] using h7
              by_cases hlen : len = 0
              · subst hlen
                simp only [hm, Option.bind_some, Option.map_eq_some_iff] at h
                obtain ⟨rest, hr, -⟩ := h
                obtain ⟨y, hy⟩ := mapM_mem hr 0 (by simp; omega)
                exact hspot y (by simpa using hy)
              · obtain ⟨y, hy⟩ := mapM_mem hm 0 (by simp; omega)
                exact hspot y hy
          have hx : ∀ i, i < len → ∃ x, W.cells? 0 (a.add (i * E.k)) E.k = some (E.enc x) ∧ Pr x := by
            intro i hi
            obtain ⟨y, hy⟩ := mapM_mem hm i (by simp [hi])
            rw [hc] at hy
            cases hcs : W.cells? 0 (a.add (i * E.k)) E.k with
            | none => simp [hcs] at hy
            | some cs =>
              simp only [hcs, Option.bind_some] at hy
              obtain ⟨x, rfl, hp⟩ := hel _ _ _ hy
              exact ⟨x, rfl, hp⟩
          have hxs : ∀ n, n ≤ len → ∃ xs : List α, xs.length = n ∧ (∀ i x, xs[i]? = some x → W.cells? 0 (a.add (i * E.k)) E.k = some (E.enc x)) ∧ ∀ x ∈ xs, Pr x := by
            intro n
            induction n with
            | zero => exact fun _ => ⟨[], rfl, by simp, by simp⟩
            | succ n ih =>
              intro hn
              obtain ⟨xs, h1, h2, h3⟩ := ih (by omega)
              obtain ⟨x, h4, h5⟩ := hx n (by omega)
              refine ⟨xs ++ [x], by simp [h1], fun i y hy => ?_, fun y hy => ?_⟩
              · rw [List.getElem?_append] at hy
                split at hy
                · exact h2 i y hy
                · rename_i hi
                  have : i = n := by
                    have := (List.getElem?_eq_some_iff.1 hy).1
                    simp at this
                    omega
                  subst this
                  simp [h1] at hy
                  subst hy
                  exact h4
              · rcases List.mem_append.1 hy with hy | hy
                · exact h3 y hy
                · simp at hy
                  subst hy
                  exact h5
          obtain ⟨xs, h1, h2, h3⟩ := hxs len (Nat.le_refl _)
          subst h1
          refine ⟨_, xs, rfl, ⟨some a, cap, rfl, hle.1, hokb, fun hne => ?_⟩, by omega, h3⟩
          have hpos : 0 < xs.length := List.length_pos_iff.2 hne
          have hk := E.pos
          have hsp : a.spot = none := by
            obtain ⟨-, h5⟩ := cells_at (h2 0 xs[0] (by simp [hpos]))
            have h6 := h5 0 hk
            have hl0 : 0 < (E.enc xs[0]).length := by rw [E.len]; exact hk
            rw [List.getElem?_eq_getElem hl0] at h6
            have h7 := cell_spot h6
            simpa [Addr.add] using h7
          obtain ⟨b, off, sp'⟩ := a
          simp only at hsp
          subst hsp
          have hcells : ∀ t, t < (E.flat xs).length → W.cell? ⟨b, off + t, none⟩ = (E.flat xs)[t]? := by
            intro t ht
            rw [E.flat_length] at ht
            have hq : t / E.k < xs.length := by rw [Nat.div_lt_iff_lt_mul hk]; exact ht
            have hr : t % E.k < E.k := Nat.mod_lt _ hk
            have hxi : xs[t / E.k]? = some xs[t / E.k] := by simp [hq]
            obtain ⟨-, h5⟩ := cells_at (h2 _ _ hxi)
            have h6 := h5 _ hr
            rw [add_none ⟨b, off, none⟩ rfl (t / E.k * E.k), add_none ⟨b, off + t / E.k * E.k, none⟩ rfl] at h6
            have hf := E.flat_at xs _ _ hxi
            have h7 : (((E.flat xs).drop (t / E.k * E.k)).take E.k)[t % E.k]? = (E.enc xs[t / E.k])[t % E.k]? := by rw [hf]
            rw [List.getElem?_take, if_pos hr, List.getElem?_drop] at h7
            have ht2 : t / E.k * E.k + t % E.k = t := by rw [Nat.mul_comm]; exact Nat.div_add_mod t E.k
            rw [ht2] at h7
            rw [h7, ← h6]
            simp only
            rw [Nat.add_assoc, ht2]
          obtain ⟨g1, g2⟩ := of_loadN hcells (by rw [E.flat_length]; exact Nat.mul_pos hpos hk)
          rw [E.flat_length] at g2
          exact ⟨b, off, rfl, g1, g2⟩
      · simp at h

/-- a slice, come in -/
theorem open_sl {α : Type} (E : Enc α) {Pr : α → Prop} {t e : TypeId} {v : Value} {d : DataW H} {ps : List MemPlace} (hsp : ∀ b, sp b = true) (hu : P.underlying t = some (.slice e)) (hc : P.cellsOf e = E.k)
    (hel : ∀ fuel cs x, DataW.trod enc P W 0 sp held fuel e cs = some x → ∃ a, cs = E.enc a ∧ Pr a) {r : Reach} {b0 : Nat} (hval : Value.okWide P W r b0 t v) (hd : DataW.Trod enc P W 0 sp held t v d ps) :
    ∃ xs : List α, SlT E (St.of W) v xs ∧ xs.length ≤ maxLen ∧ ∀ x ∈ xs, Pr x := by
  obtain ⟨a, len, cap, rfl⟩ := okWide_slice hu hval
  obtain ⟨fuel, h⟩ := hd
  obtain ⟨v, xs, h1, h2⟩ := trod_sl E hsp hu hc hel h
  simp [Value.cells] at h1
  subst h1
  exact ⟨xs, h2⟩
end
end Go.Osj
