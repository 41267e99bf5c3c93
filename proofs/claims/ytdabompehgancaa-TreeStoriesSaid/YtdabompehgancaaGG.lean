/- Stories: of their moves each block is there that is made. -/
import Derived.Test.YtdabompehgancaaGF
set_option linter.unusedVariables false
set_option linter.unusedSimpArgs false
namespace Go.Osj
/-- moves each of which lies where something is made ahead of it -/
def StL (L : List Mv) : Prop := ∀ m ∈ L, ¬ noneP m.id ∧ (alwaysP m.parent ∨ ∃ c ∈ L, c.block = c.id ∧ c.id = m.parent ∧ c.time < m.time)
theorem some_doS {sp : Sp} {b : Dot} (h : (alook b sp).isSome = true) (m : Mv) : (alook b (doS sp m)).isSome = true := by
  unfold doS
  split
  · rw [alook_aset]
    split
    · rfl
    · exact h
  · exact h
theorem some_run {sp : Sp} {b : Dot} (h : (alook b sp).isSome = true) (L : List Mv) : (alook b (runSF sp L)).isSome = true := by
  unfold runSF
  induction L generalizing sp with
  | nil => exact h
  | cons m L ih => exact ih (some_doS h m)
theorem runS_append (A B : List Mv) : runS (A ++ B) = runSF (runS A) B := by simp [runS, runSF]
theorem Pth.from {sp : Sp} {b : Dot} {l : List Dot} (h : Pth sp b l) : ∀ x ∈ l, ∃ y s, alook y sp = some s ∧ s.1 = x := by
  induction h with
  | stop _ => intro x hx; simp at hx
  | @up b s l g _ ih =>
    intro x hx
    rcases List.mem_cons.1 hx with rfl | hx
    · exact ⟨b, s, g, rfl⟩
    · exact ih x hx
theorem made_takes {L : List Mv} (hS : Srt L) (h : StL L) : ∀ (n : Nat) (A : List Mv) (m : Mv) (B : List Mv), A.length = n → L = A ++ m :: B → m.block = m.id → takesP (runS A) m := by
  intro n
  induction n using Nat.strongRecOn with
  | ind n ih =>
    intro A m B hA hL hm
    have hmL : m ∈ L := by rw [hL]; simp
    obtain ⟨hno, hpar⟩ := h m hmL
    have hr := hS.rises
    rw [hL] at hr
    have hpw := List.pairwise_append.1 hr
    have early : ∀ c ∈ L, c.time < m.time → c ∈ A := fun c hc ht => by
      rw [hL] at hc
      rcases List.mem_append.1 hc with hc | hc
      · exact hc
      · exfalso
        rcases List.mem_cons.1 hc with rfl | hc
        · omega
        · have := (List.pairwise_cons.1 hpw.2.1).1 c hc
          unfold aheadM at this
          omega
    have same : ∀ c ∈ L, c.id = m.id → c = m := fun c hc he => by
      have hn := hS.ids
      obtain ⟨i, hi, rfl⟩ := List.getElem_of_mem hc
      obtain ⟨j, hj, hje⟩ := List.getElem_of_mem hmL
      have h1 : (L.map Mv.id)[i]'(by simpa using hi) = (L.map Mv.id)[j]'(by simpa using hj) := by simp [hje, he]
      have := (List.getElem_inj hn).1 h1
      subst this
      exact hje
    refine ⟨?_, .inl hm, ?_, ?_⟩
    · rcases hpar with hp | ⟨c, hc, cb, ci, ct⟩
      · exact .inl hp
      · right
        have hcA := early c hc ct
        obtain ⟨A1, A2, rfl⟩ := List.append_of_mem hcA
        have ht := ih A1.length (by rw [← hA, List.length_append, List.length_cons]; omega) A1 c (A2 ++ m :: B) rfl (by rw [hL]; simp) cb
        have e : A1 ++ c :: A2 = (A1 ++ [c]) ++ A2 := by simp
        rw [e, runS_append]
        refine some_run ?_ A2
        rw [runS_snoc, doS, if_pos ht, alook_aset, if_pos (by rw [cb, ci])]
        rfl
    · intro he
      rcases hpar with hp | ⟨c, hc, cb, ci, ct⟩
      · exact hno (.inr (by rw [← hm, he]; exact hp))
      · have := same c hc (by rw [ci, ← he, hm])
        subst this
        omega
    · intro hmem
      have hp := (okS_run A).pth m.parent
      obtain ⟨y, s, hy, hs⟩ := hp.from m.block hmem
      rcases look_run A y with ⟨h1, -⟩ | ⟨X, e, Y, h1, -, -, h4, -⟩
      · rw [h1] at hy; cases hy
      · rw [h4] at hy
        injection hy with hy
        have heA : e.mv ∈ A := runL_took (by rw [h1]; simp)
        have hep : e.mv.parent = m.id := by rw [← hm, ← hs, ← hy]
        obtain ⟨-, hq⟩ := h e.mv (by rw [hL]; exact List.mem_append_left _ heA)
        rcases hq with hq | ⟨c, hc, cb, ci, ct⟩
        · exact hno (.inr (by rw [← hep]; exact hq))
        · have := same c hc (by rw [ci, hep])
          subst this
          have := hpw.2.2 e.mv heA c (by simp)
          unfold aheadM at this
          omega
def madeL (L : List Mv) : List Dot := (L.filter fun m => decide (m.block = m.id)).map Mv.id
theorem made_blocks {L : List Mv} (hS : Srt L) (h : StL L) (d : Dot) : d ∈ (runS L).map Prod.fst ↔ d ∈ madeL L := by
  unfold madeL
  rw [← alook_isSome, List.mem_map]
  constructor
  · intro hd
    rcases look_run L d with ⟨h1, -⟩ | ⟨X, e, Y, h1, -, -, -, -, x, hx, -, h3, h4⟩
    · rw [h1] at hd; cases hd
    · exact ⟨x.mv, List.mem_filter.2 ⟨runL_took hx, decide_eq_true (h3.trans h4.symm)⟩, h4⟩
  · rintro ⟨m, hm, rfl⟩
    obtain ⟨hm1, hm2⟩ := List.mem_filter.1 hm
    have hb : m.block = m.id := of_decide_eq_true hm2
    obtain ⟨A, B, rfl⟩ := List.append_of_mem hm1
    have ht := made_takes hS h _ A m B rfl rfl hb
    have e : A ++ m :: B = (A ++ [m]) ++ B := by simp
    rw [e, runS_append]
    refine some_run ?_ B
    rw [runS_snoc, doS, if_pos ht, alook_aset, if_pos hb.symm]
    rfl
theorem nodup_len {α : Type} [DecidableEq α] {l k : List α} (h1 : l.Nodup) (h2 : k.Nodup) (h : ∀ x, x ∈ l ↔ x ∈ k) : l.length = k.length :=
  Nat.le_antisymm (h1.length_le_of_subset fun x hx => (h x).1 hx) (h2.length_le_of_subset fun x hx => (h x).2 hx)
theorem made_count {L : List Mv} (hS : Srt L) (h : StL L) : (risen ((runS L).map Prod.fst)).length = (L.filter fun m => decide (m.block = m.id)).length := by
  have h1 : (risen ((runS L).map Prod.fst)).Nodup := (risen_ris _).1.imp fun {a b} hab e => by
    subst e
    unfold lessP at hab
    omega
  have h2 : (madeL L).Nodup := hS.ids.sublist ((List.filter_sublist).map _)
  have h3 := nodup_len h1 h2 fun d => ((risen_ris _).2 d).trans (made_blocks hS h d)
  rw [h3, madeL, List.length_map]
/-! ### a story's moves -/
def mvO (o : OpA) : Mv := ⟨o.id, o.time, o.parent, o.key, o.block⟩
def movesO (l : List OpA) : List Mv := (l.filter fun o => decide (o.kind = 3)).map mvO
def madeN (l : List OpA) : Nat := (l.filter fun o => decide (o.kind = 3 ∧ o.block = o.id)).length
theorem movesO_snoc (l : List OpA) (o : OpA) : movesO (l ++ [o]) = if o.kind = 3 then movesO l ++ [mvO o] else movesO l := by
  unfold movesO
  rw [List.filter_append, List.map_append, List.filter_cons]
  split
  · rename_i h; rw [if_pos (of_decide_eq_true h)]; simp
  · rename_i h; rw [if_neg (by simpa using h)]; simp
theorem madeN_snoc (l : List OpA) (o : OpA) : madeN (l ++ [o]) = if o.kind = 3 ∧ o.block = o.id then madeN l + 1 else madeN l := by
  unfold madeN
  rw [List.filter_append, List.length_append, List.filter_cons]
  split
  · rename_i h; rw [if_pos (of_decide_eq_true h)]; simp
  · rename_i h; rw [if_neg (by simpa using h)]; simp
theorem madeN_moves (l : List OpA) : ((movesO l).filter fun m => decide (m.block = m.id)).length = madeN l := by
  unfold movesO madeN
  rw [List.filter_map, List.length_map, List.filter_filter]
  congr 2
  funext o
  simp only [Function.comp, mvO, Bool.decide_and, Bool.and_comm]
  rfl
theorem mayP_none {d : Dot} (h : mayP d) : ¬ noneP d := by
  unfold mayP at h
  rintro (e | e | e) <;> · subst e; simp [rootD, trashD] at h
theorem story_StL {s : Tale} (h : TaleF s) (k : Nat) : StL (movesO (s.out.take k)) := by
  intro m hm
  obtain ⟨o, ho, rfl⟩ := List.mem_map.1 hm
  obtain ⟨ho1, ho2⟩ := List.mem_filter.1 ho
  have ho3 : o.kind = 3 := of_decide_eq_true ho2
  obtain ⟨j, hj, hje⟩ := List.getElem_of_mem ho1
  have hjl : j < s.out.length := by rw [List.length_take] at hj; omega
  have hjk : j < k := by rw [List.length_take] at hj; omega
  have hget : s.out[j]? = some o := by rw [← hje, List.getElem_take]; exact List.getElem?_eq_getElem hjl
  refine ⟨mayP_none (h.may o (List.mem_of_mem_take ho1)).1.1, ?_⟩
  rcases (h.mv j o hget ho3).2 with hp | ⟨c, hc, c1, c2, c3, c4⟩
  · exact .inl hp
  · refine .inr ⟨mvO c, List.mem_map.2 ⟨c, List.mem_filter.2 ⟨?_, decide_eq_true c1⟩, rfl⟩, c2, c3, c4⟩
    have : s.out.take j = (s.out.take k).take j := by rw [List.take_take, Nat.min_eq_left (Nat.le_of_lt hjk)]
    rw [this] at hc
    exact List.mem_of_mem_take hc
theorem story_block {s : Tale} (h : TaleF s) {k : Nat} {o : OpA} (hk : s.out[k]? = some o) (ho : o.kind = 3) : ¬ noneP o.id ∧ ¬ noneP o.block := by
  have hm := mayP_none (h.may o (List.mem_of_getElem? hk)).1.1
  refine ⟨hm, ?_⟩
  rcases (h.mv k o hk ho).1 with e | ⟨c, hc, -, -, c3, -⟩
  · rw [e]; exact hm
  · rw [← c3]
    exact mayP_none (h.may c (List.mem_of_mem_take hc)).1.1
theorem StL.perm {L K : List Mv} (h : StL L) (hp : K.Perm L) : StL K := fun m hm => by
  obtain ⟨h1, h2⟩ := h m (hp.mem_iff.1 hm)
  exact ⟨h1, h2.imp_right fun ⟨c, hc, h3⟩ => ⟨c, hp.mem_iff.2 hc, h3⟩⟩
theorem count_perm {L K : List Mv} (hp : K.Perm L) : (K.filter fun m => decide (m.block = m.id)).length = (L.filter fun m => decide (m.block = m.id)).length := (hp.filter _).length_eq
end Go.Osj
