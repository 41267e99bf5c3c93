/- slices.SortFunc off the shelf, in the words of this logic. -/
import Derived.Test.YtfadbihdmohdiaaGreatDoorOsjO
import Derived.Shelf.SlSortCmp.InsertionK
namespace Go.Osj
open Go.RowKit
section
variable {α : Type} [Inhabited α] (E : Enc α)

theorem flatK_flat (d : Array α) : Go.Sort.flatK E.enc E.k d = (E.flat d.toList).toArray := by
  apply Array.ext_getElem?
  intro t
  by_cases ht : t < d.size * E.k
  · have h1 := Go.Sort.get_flatK E.enc E.k d t ht
    have hs : t < (Go.Sort.flatK E.enc E.k d).size := by simpa using ht
    rw [getElem!_pos _ t hs] at h1
    rw [Array.getElem?_eq_getElem hs, h1]
    have hq : t / E.k < d.size := by
      rw [Nat.div_lt_iff_lt_mul E.pos]
      exact ht
    have hr : t % E.k < E.k := Nat.mod_lt _ E.pos
    have hx : d.toList[t / E.k]? = some d[t / E.k] := by simp [hq]
    have hf := E.flat_at d.toList (t / E.k) d[t / E.k] hx
    have h2 : (((E.flat d.toList).drop (t / E.k * E.k)).take E.k)[t % E.k]? = (E.enc d[t / E.k])[t % E.k]? := by rw [hf]
    rw [List.getElem?_take, if_pos hr, List.getElem?_drop] at h2
    rw [show t / E.k * E.k + t % E.k = t by rw [Nat.mul_comm]; exact Nat.div_add_mod t E.k] at h2
    rw [List.getElem?_toArray, h2, getElem!_pos d _ hq]
    have hl : t % E.k < (E.enc d[t / E.k]).length := by rw [E.len]; exact hr
    rw [getElem!_pos (E.enc d[t / E.k]) (t % E.k) hl, List.getElem?_eq_getElem hl]
  · rw [Array.getElem?_eq_none (by simpa using ht), List.getElem?_toArray, List.getElem?_eq_none (by rw [E.flat_length]; simpa using ht)]

/-- the view of a world of which nothing is known -/
def St.bare (w : World) : St := ⟨w.heap.size, fun _ => none⟩
theorem St.bare_rel (w : World) : Rel w (St.bare w) w := ⟨Below.refl _ _, Nat.le_refl _, Nat.le_refl _, fun _ _ h => (by cases h), Nat.le_refl _⟩

theorem grown_of_rel {W w' : World} {S : St} (h : Rel W S w') : ∃ q os', w' = Go.Sort.grow (W.drewN q) os' := by
  refine ⟨w'.drawn - W.drawn, w'.heap.extract W.heap.size w'.heap.size, ?_⟩
  have h1 := h.below
  have hd := h.drawn
  obtain ⟨heap, tape, drawn, os, output⟩ := w'
  obtain ⟨heap0, tape0, drawn0, os0, output0⟩ := W
  have e1 : tape = tape0 := h1.tape
  have e2 : os = os0 := h1.os
  have e3 : output = output0 := h1.output
  subst e1 e2 e3
  unfold Go.Sort.grow World.drewN
  have hs : heap0.size ≤ heap.size := h1.size
  have hb : ∀ k, k < heap0.size → heap[k]? = heap0[k]? := h1.block
  have hh : heap = heap0 ++ heap.extract heap0.size heap.size := by
    apply Array.ext_getElem?
    intro k
    rw [Array.getElem?_append]
    split
    · rename_i hk
      exact hb k hk
    · rename_i hk
      rw [Array.getElem?_extract]
      split
      · congr 1
        omega
      · rw [Array.getElem?_eq_none]
        omega
  have hd' : drawn = drawn0 + (drawn - drawn0) := by have : drawn0 ≤ drawn := hd; omega
  simp only [World.mk.injEq]
  exact ⟨hh, trivial, hd', trivial, trivial⟩

theorem cmpLays_of {P : Program} {g : Nat} {cf : α → α → Int} (hc : ∀ S x y, J P g [.agg (E.enc x).toArray, .agg (E.enc y).toArray] S fun v S' => v = .int .i64 (cf x y) ∧ S.Ext S') (blk off size : Nat) (w : World) :
    Go.Proofs.CmpLays P g #[] E.enc E.k cf blk off size w := by
  intro m os dk _ x y
  refine (hc _ x y _ _ (St.bare_rel _)).mono fun e w' ⟨v, S', he, hr, hv, _⟩ => ?_
  subst hv
  exact ⟨he, grown_of_rel hr⟩

theorem holdsK_of {c0 w : World} {S : St} (h : Rel c0 S w) {b cap : Nat} {d : Array α} (ho : S.obj b = some (.cells true cap (E.flat d.toList))) : Go.Sort.HoldsK E.enc E.k w b 0 d ∧ b < w.heap.size := by
  obtain ⟨hlt, c, e, lo, hi, hw, hl, hcs, ht, hrw⟩ := h.obj _ _ ho
  refine ⟨?_, (Array.getElem?_eq_some_iff.1 hw).1⟩
  unfold Go.Sort.HoldsK Go.Sort.Holds
  rw [flatK_flat]
  intro j hj
  simp only [List.size_toArray] at hj
  have hv : (E.flat d.toList)[j]? = some (E.flat d.toList)[j] := by simp [hj]
  refine ⟨?_, ?_⟩
  · unfold World.cell?
    simp only [hw, Option.isSome_none, Bool.false_eq_true, if_false, Nat.zero_add]
    rw [take_get ht hv]
    simp [hj]
  · unfold World.frozen?
    simp only [hw, Nat.zero_add]
    have := (hrw rfl).2 j (by omega)
    simpa using this

theorem rel_sorted {c0 w : World} {S : St} (h : Rel c0 S w) {b cap : Nat} {xs : List α} {d' : Array α} (ho : S.obj b = some (.cells true cap (E.flat xs))) (hlen : d'.size = xs.length) (n : Nat) (os : Array Obj) :
    Rel c0 (S.put b (.cells true cap (E.flat d'.toList))) (Go.Proofs.sortWorldK E.enc E.k w b 0 n d' os) := by
  obtain ⟨hlt, c, e, lo, hi, hw, hl, hcs, ht, hrw⟩ := h.obj _ _ ho
  obtain ⟨hB, hfz⟩ := hrw rfl
  have hheap : (Go.Proofs.sortWorldK E.enc E.k w b 0 n d' os).heap = w.heap.modify b (Go.Sort.onCells (Go.Sort.putCells id 0 (Go.Sort.flatK E.enc E.k d'))) ++ os := rfl
  have hbl : b < w.heap.size := (Array.getElem?_eq_some_iff.1 hw).1
  have hget : ∀ i, i < w.heap.size → (Go.Proofs.sortWorldK E.enc E.k w b 0 n d' os).heap[i]? = if b = i then some (Go.Sort.onCells (Go.Sort.putCells id 0 (Go.Sort.flatK E.enc E.k d')) (.cells c e (lo, hi))) else w.heap[i]? := by
    intro i hi
    rw [hheap, Array.getElem?_append, if_pos (by simpa using hi), Array.getElem?_modify]
    split
    · rename_i hbi
      subst hbi
      rw [hw]
      rfl
    · rfl
  refine h.upd ⟨rfl, rfl, rfl, ?_, fun k hk => ?_⟩ (Nat.le_add_right _ _) (fun i hi hil => ?_) ?_
  · rw [hheap]
    simp
  · have hB' := h.base
    have := h.size
    rw [hget k (by omega), if_neg (by omega)]
  · rw [hget i hil, if_neg (fun e => hi e.symm)]
  · have hsz : (Go.Sort.flatK E.enc E.k d').size = (E.flat xs).length := by rw [Go.Sort.size_flatK, E.flat_length, hlen]
    have hfl : (E.flat d'.toList).length = (E.flat xs).length := by rw [E.flat_length, E.flat_length]; simp [hlen]
    refine ⟨Go.Sort.putCells id 0 (Go.Sort.flatK E.enc E.k d') c, e, lo, hi, ?_, ?_, by omega, ?_, fun _ => ⟨hB, fun i hi => hfz i (by simpa [Go.Sort.putCells] using hi)⟩⟩
    · rw [hget b hbl, if_pos rfl]
      rfl
    · simpa [Go.Sort.putCells] using hl
    · apply List.ext_getElem?
      intro t
      rw [List.getElem?_take]
      split
      · rename_i htl
        simp only [Go.Sort.putCells, Array.getElem?_toList, Array.getElem?_mapIdx]
        have htc : t < c.size := by omega
        rw [Array.getElem?_eq_getElem htc, Option.map_some, if_pos ⟨by omega, by omega⟩, flatK_flat]
        simp only [Nat.sub_zero, id]
        rw [List.getElem?_eq_getElem htl, getElem!_pos _ _ (by simpa using htl)]
        simp
      · rename_i htl
        rw [List.getElem?_eq_none (by omega)]
end
end Go.Osj
