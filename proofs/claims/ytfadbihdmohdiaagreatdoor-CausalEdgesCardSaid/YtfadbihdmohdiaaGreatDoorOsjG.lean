/- Views under change: a block made or written; the judgement on calls; the operations that write. -/
import Derived.Test.YtfadbihdmohdiaaGreatDoorOsjF
import Derived.Laws.IdiomCopy
import Derived.Laws.AppendOwn
import Derived.Great.BuildSlice
import Derived.Deep.Upon
namespace Go.Osj
open Go.RowKit

theorem Holds.congr {B b : Nat} {w w' : World} {o : AObj} (h : Holds B w b o) (hb : w'.heap[b]? = w.heap[b]?) : Holds B w' b o := by
  cases o <;> simp only [Holds] at h ⊢ <;> rw [hb] <;> exact h

theorem Holds.le {B b : Nat} {w : World} {o : AObj} (h : Holds B w b o) : b < w.heap.size := by
  cases o <;> simp only [Holds] at h
  · obtain ⟨c, e, lo, hi, h, _⟩ := h
    exact (Array.getElem?_eq_some_iff.1 h).1
  all_goals exact (Array.getElem?_eq_some_iff.1 h.1).1

/-- One block was made or written. -/
theorem Rel.upd {c0 w w' : World} {S : St} (h : Rel c0 S w) {b : Nat} {o : AObj} (hb : Below c0.heap.size w w') (hd : w.drawn ≤ w'.drawn) (ho : ∀ i, i ≠ b → i < w.heap.size → w'.heap[i]? = w.heap[i]?)
    (hn : Holds c0.heap.size w' b o) : Rel c0 (S.put b o) w' := by
  refine ⟨h.below.trans hb, ?_, ?_, fun i o' hi => ?_, Nat.le_trans h.drawn hd⟩
  · have := h.base
    rw [St.put_n]
    omega
  · have h1 := h.size
    have h2 := hb.size
    have h3 := hn.le
    rw [St.put_n]
    omega
  · rw [St.put_n]
    by_cases hib : i = b
    · subst hib
      rw [St.put_same] at hi
      injection hi with hi
      subst hi
      exact ⟨by omega, hn⟩
    · rw [St.put_other _ _ _ hib] at hi
      obtain ⟨h1, h2⟩ := h.obj i o' hi
      have h3 := h.size
      exact ⟨by omega, h2.congr (ho i hib (by omega))⟩

/-- A block was made. -/
theorem Rel.alloc {c0 w : World} {S : St} (h : Rel c0 S w) {o : AObj} (ob : Obj) (hn : Holds c0.heap.size (w.alloc ob) w.heap.size o) : Rel c0 (S.put w.heap.size o) (w.alloc ob) := by
  refine h.upd ((Below.refl _ _).alloc (Nat.le_trans h.base h.size) ob) (Nat.le_refl _) (fun i _ hi => Below.heap_alloc _ _ _ hi) hn

theorem Rel.drew {c0 w : World} {S : St} (h : Rel c0 S w) : Rel c0 S w.drew :=
  ⟨h.below.drew, h.base, h.size, fun b o hb => let ⟨h1, h2⟩ := h.obj b o hb; ⟨h1, h2.congr rfl⟩, Nat.le_succ_of_le h.drawn⟩

theorem heap_alloc_new (w : World) (o : Obj) : (w.alloc o).heap[w.heap.size]? = some o := by
  show (w.heap.push o)[w.heap.size]? = some o
  simp

theorem holds_cells_new {B b : Nat} {w : World} {c : Array Value} {e : TypeId} {cs : List Value} {cap : Nat} (h : w.heap[b]? = some (.cells c e)) (hB : B ≤ b) (hc : c.size = cap) (hcs : c.toList.take cs.length = cs) : Holds B w b (.cells true cap cs) := by
  refine ⟨c, e, 0, 0, h, by omega, ?_, hcs, fun _ => ⟨hB, fun i _ => by omega⟩⟩
  have := congrArg List.length hcs
  simp at this
  omega

theorem Rel.newCells {c0 w : World} {S : St} (h : Rel c0 S w) {c : Array Value} {e : TypeId} {cs : List Value} {cap : Nat} (hc : c.size = cap) (hcs : c.toList.take cs.length = cs) :
    Rel c0 (S.put w.heap.size (.cells true cap cs)) (w.alloc (.cells c e)) :=
  h.alloc _ (holds_cells_new (heap_alloc_new w _) (Nat.le_trans h.base h.size) hc hcs)

/-! ### cells written -/
/-- the cells after a write -/
def wrote (cs : List Value) (o : Nat) (vs : List Value) : List Value := cs.take o ++ vs ++ cs.drop (o + vs.length)

theorem setCells_heap (b : Nat) : ∀ (vs : List Value) (o : Nat) (w : World) (c : Array Value) (e : TypeId) (fz : Nat × Nat), w.heap[b]? = some (.cells c e fz) → o + vs.length ≤ c.size →
    ∃ c', (w.setCells b o vs).heap[b]? = some (.cells c' e fz) ∧ c'.size = c.size ∧ c'.toList = wrote c.toList o vs
  | [], o, w, c, e, fz, h, _ => ⟨c, h, rfl, by simp [wrote]⟩
  | v :: r, o, w, c, e, fz, h, hl => by
    simp only [List.length_cons] at hl
    have hs : (w.setCell ⟨b, o, none⟩ v).heap[b]? = some (.cells (c.setIfInBounds o v) e fz) := by
      simp [World.setCell, Array.getElem?_modify, h]
    obtain ⟨c', h1, h2, h3⟩ := setCells_heap b r (o + 1) (w.setCell ⟨b, o, none⟩ v) _ e fz hs (by simp; omega)
    refine ⟨c', by rw [World.setCells]; exact h1, by simpa using h2, ?_⟩
    rw [h3]
    simp only [wrote, Array.toList_setIfInBounds, List.length_cons]
    have ho : o < c.toList.length := by simp; omega
    rw [List.drop_set_of_lt (by omega), List.take_set, show o + (r.length + 1) = o + 1 + r.length by omega]
    rw [List.take_succ_eq_append_getElem ho]
    simp only [List.append_assoc]
    rw [List.set_append_right _ _ (by simp; omega)]
    simp
    have : o - min o c.size = 0 := by simp at ho; omega
    simp [this]

theorem wrote_take {C cs : List Value} (h : C.take cs.length = cs) {o : Nat} {vs : List Value} (ho : o ≤ cs.length) (_hl : o + vs.length ≤ C.length) :
    (wrote C o vs).take (wrote cs o vs).length = wrote cs o vs := by
  have hlen : cs.length ≤ C.length := by
    have := congrArg List.length h
    simp at this
    omega
  have hC : C = cs ++ C.drop cs.length := by conv => lhs; rw [← List.take_append_drop cs.length C, h]
  unfold wrote
  by_cases hb : o + vs.length ≤ cs.length
  · have e1 : C.take o = cs.take o := by rw [hC, List.take_append_of_le_length ho]
    have e2 : C.drop (o + vs.length) = cs.drop (o + vs.length) ++ C.drop cs.length := by
      conv => lhs; rw [hC, List.drop_append_of_le_length hb]
    rw [e1, e2, ← List.append_assoc]
    rw [List.take_append_of_le_length (by omega), List.take_of_length_le (by omega)]
  · have e1 : C.take o = cs.take o := by rw [hC, List.take_append_of_le_length ho]
    have e2 : cs.drop (o + vs.length) = [] := List.drop_eq_nil_of_le (by omega)
    rw [e1, e2, List.append_nil]
    rw [List.take_append_of_le_length (by omega), List.take_of_length_le (by omega)]

/-- what a write of cells does to the view -/
def St.write (S : St) (a : Addr) (vs : List Value) : Option St :=
  match a.spot, S.obj a.block with
  | none, some (.cells true cap cs) => if a.off ≤ cs.length ∧ a.off + vs.length ≤ cap then some (S.put a.block (.cells true cap (wrote cs a.off vs))) else none
  | _, _ => none

theorem below_setCells {B : Nat} {b : Nat} (hb : B ≤ b) : ∀ (vs : List Value) (o : Nat) (w : World), Below B w (w.setCells b o vs)
  | [], _, w => Below.refl B w
  | v :: r, o, w => ((Below.refl B w).setCell (p := ⟨b, o, none⟩) hb v).trans (below_setCells hb r (o + 1) _)

theorem drawn_setCells (b : Nat) : ∀ (vs : List Value) (o : Nat) (w : World), (w.setCells b o vs).drawn = w.drawn
  | [], _, _ => rfl
  | _ :: r, o, _ => drawn_setCells b r (o + 1) _

theorem Rel.write {c0 w : World} {S S' : St} (h : Rel c0 S w) {a : Addr} {vs : List Value} (hw : S.write a vs = some S') (h1 : ∀ v ∈ vs, v.oneCell' = true) :
    ∃ w', (∀ P : Program, (storeCells a vs).run P w = .ok () w') ∧ Rel c0 S' w' := by
  unfold St.write at hw
  cases hs : a.spot with
  | some x => simp [hs] at hw
  | none =>
    obtain ⟨b, off, sp⟩ := a
    simp only at hs
    subst hs
    cases ho : S.obj b with
    | none => simp [ho] at hw
    | some o =>
      cases o with
      | map rw ms cl => simp [ho] at hw
      | iter m a b c => simp [ho] at hw
      | siter s p => simp [ho] at hw
      | cells rw cap cs =>
        cases rw with
        | false => simp [ho] at hw
        | true =>
          simp only [ho] at hw
          split at hw
          · rename_i hle
            injection hw with hw
            subst hw
            obtain ⟨hlt, c, e, lo, hi, hw, hl, hcs, ht, hrw⟩ := h.obj _ _ ho
            obtain ⟨hB, hfz⟩ := hrw rfl
            have hcell : ∀ j, j < vs.length → w.cell? ⟨b, off + j, none⟩ = some (c[off + j]?.getD default) := by
              intro j hj
              unfold World.cell?
              simp only [hw, Option.isSome_none, Bool.false_eq_true, if_false]
              have : off + j < c.size := by omega
              simp [this]
            have hfr : ∀ j, j < vs.length → w.frozen? ⟨b, off + j, none⟩ = false := by
              intro j hj
              unfold World.frozen?
              simp only [hw]
              have := hfz (off + j) (by omega)
              simpa using this
            refine ⟨w.setCells b off vs, fun P => ?_, ?_⟩
            · have := run_storeCells_cells (P := P) b off vs 0 w (by simpa using fun j hj => by rw [hcell j hj]; rfl) (by simpa using hfr) h1
              simpa using this
            · obtain ⟨c', g1, g2, g3⟩ := setCells_heap b vs off w c e (lo, hi) hw (by omega)
              refine h.upd (below_setCells hB vs off w) (Nat.le_of_eq (drawn_setCells b vs off w).symm) (fun i hi hil => World.heap_setCells_other w b off vs hil hi) ⟨c', e, lo, hi, g1, by omega, ?_, ?_, fun _ => ⟨hB, fun i hi => hfz i (by omega)⟩⟩
              · simp [wrote]
                omega
              · rw [g3]
                exact wrote_take ht hle.1 (by simp; omega)
          · simp at hw

/-! ### the judgement on calls -/
/-- The call of f comes back, with a value and a view of which Q holds; of what was there when the outermost call began, nothing has turned. -/
def J (P : Program) (f : FuncId) (args : List Value) (S : St) (Q : Value → St → Prop) : Prop :=
  ∀ c0 w, Rel c0 S w → Calls P f args.toArray w (fun e w' => ∃ v S', e = .returned v ∧ Rel c0 S' w' ∧ Q v S')

theorem J.mono {P : Program} {f : FuncId} {args : List Value} {S : St} {Q Q' : Value → St → Prop} (h : J P f args S Q) (hq : ∀ v S', Q v S' → Q' v S') : J P f args S Q' :=
  fun c0 w hr => (h c0 w hr).mono fun _ _ ⟨v, S', h1, h2, h3⟩ => ⟨v, S', h1, h2, hq _ _ h3⟩

/-- may the function be called as it stands (it has a body)? -/
def callable (P : Program) (f : FuncId) : Bool := match P.funcs[f]? with | some fn => fn.body.isSome && !(fn.name == "runtime.NumGoroutine") | none => false
end Go.Osj
