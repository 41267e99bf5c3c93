/- Trees of blocks: which move says where a block lies. -/
import Derived.Test.YtdabompehgancaaXA
set_option linter.unusedSimpArgs false
set_option linter.unusedVariables false
namespace Go.Osj
/-- a move of a block that took effect -/
def condM (L : List Mv) (b : Dot') (x : Mv) : Prop := x.block = b ∧ tookP L x.id
theorem ids_inj {L : List Mv} (h : Srt L) {x y : Mv} (hx : x ∈ L) (hy : y ∈ L) (he : x.id = y.id) : x = y := by
  obtain ⟨i, hi, rfl⟩ := List.mem_iff_getElem.1 hx
  obtain ⟨j, hj, rfl⟩ := List.mem_iff_getElem.1 hy
  have h1 : (L.map Mv.id)[i]'(by simpa using hi) = (L.map Mv.id)[j]'(by simpa using hj) := by simpa using he
  have := (List.getElem_inj h.ids).1 h1
  subst this
  rfl
theorem condM_entry {L : List Mv} (h : Srt L) {b : Dot'} {x : Mv} (hx : x ∈ L) (hc : condM L b x) : ∃ e ∈ runL L, e.mv = x ∧ e.took = true ∧ e.mv.block = b := by
  obtain ⟨h1, e, he, h2, h3⟩ := hc
  have : e.mv = x := ids_inj h (runL_took he) hx h2
  exact ⟨e, he, this, h3, by rw [this]; exact h1⟩
/-- looking for the last one: what is known after some -/
def lastI (L : List Mv) (b : Dot') (ms : List Mv) (k : Int) (made : Bool) : Prop :=
  (made = true ↔ ∃ x ∈ ms, condM L b x ∧ x.id = b) ∧ ((k = -1 ∧ ∀ x ∈ ms, ¬ condM L b x) ∨ ∃ (kk : Nat) (y : Mv), k = kk ∧ ms[kk]? = some y ∧ condM L b y ∧ ∀ x ∈ ms, condM L b x → x = y ∨ aheadM x y)
theorem lastI_nil (L : List Mv) (b : Dot') : lastI L b [] (-1) false := ⟨by simp, .inl ⟨rfl, by simp⟩⟩
theorem lastI_skip {L : List Mv} {b : Dot'} {ms : List Mv} {k : Int} {made : Bool} {x : Mv} (h : lastI L b ms k made) (hx : ¬ condM L b x) : lastI L b (ms ++ [x]) k made := by
  obtain ⟨h1, h2⟩ := h
  refine ⟨h1.trans ⟨fun ⟨y, hy, h⟩ => ⟨y, List.mem_append_left _ hy, h⟩, fun ⟨y, hy, h⟩ => ?_⟩, ?_⟩
  · rcases List.mem_append.1 hy with hy | hy
    · exact ⟨y, hy, h⟩
    · obtain rfl : y = x := by simpa using hy
      exact absurd h.1 hx
  · rcases h2 with ⟨h2, h3⟩ | ⟨kk, y, h2, h3, h4, h5⟩
    · refine .inl ⟨h2, fun y hy => ?_⟩
      rcases List.mem_append.1 hy with hy | hy
      · exact h3 y hy
      · obtain rfl : y = x := by simpa using hy
        exact hx
    · refine .inr ⟨kk, y, h2, ?_, h4, fun z hz hc => ?_⟩
      · rw [List.getElem?_append_left (List.getElem?_eq_some_iff.1 h3).1]
        exact h3
      · rcases List.mem_append.1 hz with hz | hz
        · exact h5 z hz hc
        · obtain rfl : z = x := by simpa using hz
          exact absurd hc hx
theorem lastI_made {L : List Mv} {b : Dot'} {ms : List Mv} {made : Bool} {x : Mv} (h1 : made = true ↔ ∃ x ∈ ms, condM L b x ∧ x.id = b) (hx : condM L b x) : (made || decide (x.id = b)) = true ↔ ∃ y ∈ ms ++ [x], condM L b y ∧ y.id = b := by
  rw [Bool.or_eq_true, h1, decide_eq_true_eq]
  constructor
  · rintro (⟨y, hy, h⟩ | h)
    · exact ⟨y, List.mem_append_left _ hy, h⟩
    · exact ⟨x, by simp, hx, h⟩
  · rintro ⟨y, hy, h⟩
    rcases List.mem_append.1 hy with hy | hy
    · exact .inl ⟨y, hy, h⟩
    · obtain rfl : y = x := by simpa using hy
      exact .inr h.2
theorem lastI_take {L : List Mv} {b : Dot'} {ms : List Mv} {k : Int} {made : Bool} {x : Mv} (h : lastI L b ms k made) (hx : condM L b x) (hk : k < 0 ∨ ∃ y, ms[k.toNat]? = some y ∧ aheadM y x) : lastI L b (ms ++ [x]) ms.length (made || decide (x.id = b)) := by
  refine ⟨lastI_made h.1 hx, .inr ⟨ms.length, x, rfl, by simp, hx, fun z hz hc => ?_⟩⟩
  rcases List.mem_append.1 hz with hz | hz
  · rcases h.2 with ⟨h2, h3⟩ | ⟨kk, y, h2, h3, h4, h5⟩
    · exact absurd hc (h3 z hz)
    · subst h2
      rcases hk with hk | ⟨y', hk, ha⟩
      · omega
      · rw [Int.toNat_natCast, h3] at hk
        injection hk with hk
        subst hk
        rcases h5 z hz hc with rfl | h
        · exact .inr ha
        · exact .inr (aheadM_trans h ha)
  · exact .inl (by simpa using hz)
theorem lastI_leave {L : List Mv} {b : Dot'} {ms : List Mv} {k : Int} {made : Bool} {x : Mv} (h : lastI L b ms k made) (hx : condM L b x) {y : Mv} (hk : 0 ≤ k) (hy : ms[k.toNat]? = some y) (ha : ¬ aheadM y x) (hid : y.id ≠ x.id) : lastI L b (ms ++ [x]) k (made || decide (x.id = b)) := by
  refine ⟨lastI_made h.1 hx, ?_⟩
  rcases h.2 with ⟨h2, h3⟩ | ⟨kk, y', h2, h3, h4, h5⟩
  · omega
  · subst h2
    rw [Int.toNat_natCast, h3] at hy
    injection hy with hy
    subst hy
    refine .inr ⟨kk, y', rfl, ?_, h4, fun z hz hc => ?_⟩
    · rw [List.getElem?_append_left (List.getElem?_eq_some_iff.1 h3).1]
      exact h3
    · rcases List.mem_append.1 hz with hz | hz
      · exact h5 z hz hc
      · obtain rfl : z = x := by simpa using hz
        exact .inr ((aheadM_total hid).resolve_left ha)
/-- what it tells in the end -/
theorem lastI_fin {L ms : List Mv} {b : Dot'} {k : Int} {made : Bool} (hS : Srt L) (hp : ms.Perm L) (h : lastI L b ms k made) :
    (alook b (runS L)).isSome = decide (0 ≤ k) ∧ (alook b (runS L)).isSome = made ∧ ∀ y, ms[k.toNat]? = some y → 0 ≤ k → (alook b (runS L)).getD zSpot = (y.parent, y.key) := by
  obtain ⟨h1, h2⟩ := h
  rcases look_run L b with ⟨g1, g2⟩ | ⟨A, e, C, g1, g2, g3, g4, g5, x, gx, g6, g7, g8⟩
  · have hno : ∀ x ∈ ms, ¬ condM L b x := fun x hx hc => by
      obtain ⟨e, he, h3, h4, h5⟩ := condM_entry hS (hp.mem_iff.1 hx) hc
      rw [g2 e he h5] at h4
      cases h4
    have hk : k = -1 := by
      rcases h2 with ⟨h2, -⟩ | ⟨kk, y, -, h3, h4, -⟩
      · exact h2
      · exact absurd h4 (hno y (List.mem_of_getElem? h3))
    subst hk
    refine ⟨by rw [g1]; rfl, ?_, fun y hy hk => absurd hk (by decide)⟩
    rw [g1]
    cases hm : made with
    | false => rfl
    | true =>
      obtain ⟨x, hx, hc, -⟩ := h1.1 hm
      exact absurd hc (hno x hx)
  · have hxm : x.mv ∈ ms := hp.mem_iff.2 (runL_took gx)
    have hxc : condM L b x.mv := ⟨g7, x, gx, rfl, g6⟩
    have he : e ∈ runL L := by rw [g1]; simp
    have hem : e.mv ∈ ms := hp.mem_iff.2 (runL_took he)
    have hec : condM L b e.mv := ⟨g3, e, he, rfl, g2⟩
    have hmade : made = true := h1.2 ⟨x.mv, hxm, hxc, g8⟩
    rcases h2 with ⟨-, h3⟩ | ⟨kk, y, rfl, h3, h4, h5⟩
    · exact absurd hec (h3 _ hem)
    · refine ⟨by rw [g4]; simp, by rw [g4, hmade]; rfl, fun y' hy' _ => ?_⟩
      rw [Int.toNat_natCast, h3] at hy'
      injection hy' with hy'
      subst hy'
      obtain ⟨ey, hey, e1, e2, e3⟩ := condM_entry hS (hp.mem_iff.1 (List.mem_of_getElem? h3)) h4
      have hy : y = e.mv := by
        rcases h5 e.mv hem hec with h | h
        · exact h.symm
        · rw [g1] at hey
          rcases List.mem_append.1 hey with hm | hm
          · exfalso
            have hr := hS.rises
            rw [← runL_mv L, g1, List.map_append, List.map_cons, List.pairwise_append] at hr
            have := hr.2.2 ey.mv (List.mem_map_of_mem hm) e.mv (by simp)
            rw [e1] at this
            exact aheadM_irrefl _ (aheadM_trans h this)
          · rcases List.mem_cons.1 hm with rfl | hm
            · exact e1.symm
            · rw [g5 ey hm e3] at e2
              cases e2
      rw [g4, hy]
      rfl
end Go.Osj
