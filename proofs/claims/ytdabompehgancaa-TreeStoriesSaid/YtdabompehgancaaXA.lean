/- Trees of blocks: plain facts. -/
import Derived.Test.YtdabompehgancaaOsjQ
set_option linter.unusedSimpArgs false
set_option linter.unusedVariables false
namespace Go.Osj
abbrev Dot' : Type := Int × Int
abbrev Spot : Type := Dot' × ByteArray
/-- a move -/
structure Mv where
  id : Dot'
  time : Int
  parent : Dot'
  key : ByteArray
  block : Dot'
/-- a move that was done, and what was ahead of it -/
structure En where
  mv : Mv
  took : Bool
  there : Bool
  old : Spot
abbrev Sp : Type := List (Dot' × Spot)
def zSpot : Spot := ((0, 0), ⟨#[]⟩)
/-- what is above a block -/
inductive Pth (sp : Sp) : Dot' → List Dot' → Prop where
  | stop {b : Dot'} : alook b sp = none → Pth sp b []
  | up {b : Dot'} {s : Spot} {l : List Dot'} : alook b sp = some s → Pth sp s.1 l → Pth sp b (s.1 :: l)
theorem Pth.det {sp : Sp} {b : Dot'} {l : List Dot'} (h : Pth sp b l) : ∀ {k : List Dot'}, Pth sp b k → l = k := by
  induction h with
  | stop h =>
    intro k hk
    cases hk with
    | stop _ => rfl
    | up g _ => rw [h] at g; cases g
  | up h _ ih =>
    intro k hk
    cases hk with
    | stop g => rw [h] at g; cases g
    | up g gk =>
      rw [h] at g
      injection g with g
      subst g
      rw [ih gk]
/-- the nodes of which something is above -/
theorem Pth.keys {sp : Sp} {b : Dot'} {l : List Dot'} (h : Pth sp b l) : ∀ x, x ∈ (b :: l).dropLast → x ∈ sp.map Prod.fst := by
  induction h with
  | stop h => intro x hx; simp at hx
  | @up b s l h hl ih =>
    intro x hx
    simp only [List.dropLast_cons_cons, List.mem_cons] at hx
    rcases hx with rfl | hx
    · exact alook_isSome.1 (by rw [h]; rfl)
    · exact ih x hx
theorem Pth.sub {sp : Sp} {b : Dot'} {l : List Dot'} (h : Pth sp b l) : ∀ {x : Dot'}, x ∈ l → ∃ k, Pth sp x k ∧ k.length < l.length ∧ ∃ p, l = p ++ x :: k := by
  induction h with
  | stop _ => intro x hx; simp at hx
  | @up b s l h hl ih =>
    intro x hx
    rcases List.mem_cons.1 hx with rfl | hx
    · exact ⟨l, hl, by simp, [], rfl⟩
    · obtain ⟨k, h1, h2, p, h3⟩ := ih hx
      exact ⟨k, h1, by simp; omega, s.1 :: p, by rw [h3]; rfl⟩
theorem Pth.nodup {sp : Sp} {b : Dot'} {l : List Dot'} (h : Pth sp b l) : (b :: l).Nodup := by
  induction h with
  | stop _ => simp
  | @up b s l h hl ih =>
    refine List.nodup_cons.2 ⟨fun hm => ?_, ih⟩
    have hb : Pth sp b (s.1 :: l) := .up h hl
    obtain ⟨k, h1, h2, -⟩ := hb.sub hm
    have := hb.det h1
    rw [← this] at h2
    omega
theorem Pth.len {sp : Sp} {b : Dot'} {l : List Dot'} (h : Pth sp b l) : l.length ≤ sp.length := by
  have h1 : ((b :: l).dropLast).Nodup := h.nodup.sublist (List.dropLast_sublist _)
  have h2 := h1.length_le_of_subset (fun x hx => h.keys x hx)
  simpa using h2
def pathF (sp : Sp) : Nat → Dot' → List Dot'
  | 0, _ => []
  | n + 1, b => match alook b sp with
    | none => []
    | some s => s.1 :: pathF sp n s.1
theorem Pth.pathF {sp : Sp} {b : Dot'} {l : List Dot'} (h : Pth sp b l) : ∀ {n : Nat}, l.length ≤ n → Osj.pathF sp n b = l := by
  induction h with
  | stop h => intro n _; cases n <;> simp [Osj.pathF, h]
  | @up b s l h hl ih =>
    intro n hn
    cases n with
    | zero => simp at hn
    | succ n =>
      simp only [Osj.pathF, h]
      rw [ih (by simpa using hn)]
def pathA (sp : Sp) (b : Dot') : List Dot' := pathF sp sp.length b
theorem Pth.path {sp : Sp} {b : Dot'} {l : List Dot'} (h : Pth sp b l) : pathA sp b = l := h.pathF h.len
def rootD : Dot' := (0, -1)
def trashD : Dot' := (0, -2)
def alwaysP (d : Dot') : Prop := d = rootD ∨ d = trashD
instance (d : Dot') : Decidable (alwaysP d) := inferInstanceAs (Decidable (_ ∨ _))
def noneP (d : Dot') : Prop := d = (0, 0) ∨ alwaysP d
instance (d : Dot') : Decidable (noneP d) := inferInstanceAs (Decidable (_ ∨ _))
/-- does a move take effect? -/
def takesP (sp : Sp) (m : Mv) : Prop := (alwaysP m.parent ∨ (alook m.parent sp).isSome = true) ∧ (m.block = m.id ∨ (alook m.block sp).isSome = true) ∧ m.block ≠ m.parent ∧ m.block ∉ pathA sp m.parent
instance (sp : Sp) (m : Mv) : Decidable (takesP sp m) := inferInstanceAs (Decidable (_ ∧ _))
def doE (sp : Sp) (m : Mv) : En := ⟨m, decide (takesP sp m), (alook m.block sp).isSome, (alook m.block sp).getD zSpot⟩
def doS (sp : Sp) (m : Mv) : Sp := if takesP sp m then aset m.block (m.parent, m.key) sp else sp
def runSF (sp : Sp) (L : List Mv) : Sp := L.foldl doS sp
def runLF (sp : Sp) : List Mv → List En
  | [] => []
  | m :: r => doE sp m :: runLF (doS sp m) r
abbrev runS (L : List Mv) : Sp := runSF [] L
abbrev runL (L : List Mv) : List En := runLF [] L
theorem runLF_append (sp : Sp) (A B : List Mv) : runLF sp (A ++ B) = runLF sp A ++ runLF (runSF sp A) B := by
  induction A generalizing sp with
  | nil => rfl
  | cons m A ih => simp only [List.cons_append, runLF, ih]; rfl
theorem runL_snoc (L : List Mv) (m : Mv) : runL (L ++ [m]) = runL L ++ [doE (runS L) m] := by rw [runL, runLF_append]; rfl
theorem runS_snoc (L : List Mv) (m : Mv) : runS (L ++ [m]) = doS (runS L) m := by simp [runS, runSF]
theorem runL_len (L : List Mv) : (runL L).length = L.length := by
  have : ∀ (L : List Mv) (sp : Sp), (runLF sp L).length = L.length := by
    intro L
    induction L with
    | nil => intro sp; rfl
    | cons m L ih => intro sp; simp [runLF, ih]
  exact this L []
theorem runL_mv (L : List Mv) : (runL L).map En.mv = L := by
  have : ∀ (L : List Mv) (sp : Sp), (runLF sp L).map En.mv = L := by
    intro L
    induction L with
    | nil => intro sp; rfl
    | cons m L ih => intro sp; simp only [runLF, List.map_cons, ih]; rfl
  exact this L []
/-- a state that may be -/
structure OkS (sp : Sp) : Prop where
  keys : (sp.map Prod.fst).Nodup
  path : ∀ b, ∃ l, Pth sp b l
  up : ∀ b s, alook b sp = some s → alwaysP s.1 ∨ (alook s.1 sp).isSome = true
theorem OkS.pth {sp : Sp} (h : OkS sp) (b : Dot') : Pth sp b (pathA sp b) := by
  obtain ⟨l, hl⟩ := h.path b
  rw [hl.path]
  exact hl
theorem OkS.nil : OkS [] := ⟨by simp, fun b => ⟨[], .stop rfl⟩, fun b s h => by simp [alook] at h⟩
theorem Pth.keep {sp : Sp} {k : Dot'} {v : Spot} {b : Dot'} {l : List Dot'} (h : Pth sp b l) (hb : b ≠ k) (hl : k ∉ l) : Pth (aset k v sp) b l := by
  induction h with
  | stop h => exact .stop (by rw [alook_aset, if_neg hb]; exact h)
  | @up b s l h _ ih =>
    simp only [List.mem_cons, not_or] at hl
    exact .up (by rw [alook_aset, if_neg hb]; exact h) (ih (fun e => hl.1 e.symm) hl.2)
theorem OkS.step {sp : Sp} (h : OkS sp) (m : Mv) : OkS (doS sp m) := by
  unfold doS
  split
  rotate_left
  · exact h
  rename_i ht
  obtain ⟨h1, h2, h3, h4⟩ := ht
  have hp : Pth (aset m.block (m.parent, m.key) sp) m.parent (pathA sp m.parent) := (h.pth m.parent).keep (Ne.symm h3) h4
  have hbk : Pth (aset m.block (m.parent, m.key) sp) m.block (m.parent :: pathA sp m.parent) := .up (s := (m.parent, m.key)) (by rw [alook_aset, if_pos rfl]) hp
  refine ⟨(aset_keys h.keys).1, fun b => ?_, fun b s hs => ?_⟩
  · obtain ⟨l, hl⟩ := h.path b
    clear h4 h2 h1
    induction hl with
    | @stop b hn =>
      by_cases hb : b = m.block
      · exact ⟨m.parent :: pathA sp m.parent, by rw [hb]; exact hbk⟩
      · exact ⟨[], .stop (by rw [alook_aset, if_neg hb]; exact hn)⟩
    | @up b s l hs _ ih =>
      by_cases hb : b = m.block
      · exact ⟨m.parent :: pathA sp m.parent, by rw [hb]; exact hbk⟩
      · obtain ⟨k, hk⟩ := ih
        exact ⟨_, .up (by rw [alook_aset, if_neg hb]; exact hs) hk⟩
  · rw [alook_aset] at hs
    have mono : ∀ d, (alook d sp).isSome = true → (alook d (aset m.block (m.parent, m.key) sp)).isSome = true := by
      intro d hd
      rw [alook_aset]
      split
      · rfl
      · exact hd
    split at hs
    · injection hs with hs
      subst hs
      exact h1.imp id (mono _)
    · exact (h.up b s hs).imp id (mono _)
theorem OkS.run {sp : Sp} (h : OkS sp) (L : List Mv) : OkS (runSF sp L) := by
  induction L generalizing sp with
  | nil => exact h
  | cons m L ih => exact ih (h.step m)
theorem okS_run (L : List Mv) : OkS (runS L) := OkS.nil.run L
/-! ### undoing -/
theorem adel_aset_new {α β : Type} [DecidableEq α] {k : α} {v : β} : ∀ {m : List (α × β)}, alook k m = none → adel k (aset k v m) = m
  | [], _ => by simp [aset, adel]
  | p :: r, h => by
    simp only [alook] at h
    split at h
    · cases h
    · rename_i hk
      simp [aset, adel, hk, adel_aset_new (m := r) h]
theorem aset_aset_old {α β : Type} [DecidableEq α] {k : α} {u v : β} : ∀ {m : List (α × β)}, alook k m = some u → aset k u (aset k v m) = m
  | [], h => by simp [alook] at h
  | p :: r, h => by
    simp only [alook] at h
    split at h
    · rename_i hk
      injection h with h
      subst h hk
      simp [aset]
    · rename_i hk
      simp [aset, hk, aset_aset_old (m := r) h]
theorem undo_do {sp : Sp} {m : Mv} : (if (doE sp m).took = true then (if (doE sp m).there = true then aset m.block (doE sp m).old (doS sp m) else adel m.block (doS sp m)) else doS sp m) = sp := by
  simp only [doE, doS, decide_eq_true_eq]
  split
  · cases h : alook m.block sp with
    | none => simp [adel_aset_new h]
    | some u => simp [aset_aset_old h]
  · rfl
/-! ### the order of moves -/
def lessD (a b : Dot') : Prop := a.1 < b.1 ∨ (a.1 = b.1 ∧ a.2 < b.2)
instance (a b : Dot') : Decidable (lessD a b) := inferInstanceAs (Decidable (_ ∨ _))
def aheadM (a b : Mv) : Prop := a.time < b.time ∨ (a.time = b.time ∧ lessD a.id b.id)
instance (a b : Mv) : Decidable (aheadM a b) := inferInstanceAs (Decidable (_ ∨ _))
theorem lessD_trans {a b c : Dot'} (h1 : lessD a b) (h2 : lessD b c) : lessD a c := by unfold lessD at *; omega
theorem lessD_irrefl (a : Dot') : ¬ lessD a a := by unfold lessD; omega
theorem lessD_total {a b : Dot'} (h : a ≠ b) : lessD a b ∨ lessD b a := by
  unfold lessD
  have : a.1 ≠ b.1 ∨ a.2 ≠ b.2 := by
    rw [Ne, Prod.ext_iff] at h
    omega
  omega
theorem aheadM_trans {a b c : Mv} (h1 : aheadM a b) (h2 : aheadM b c) : aheadM a c := by
  unfold aheadM at *
  rcases h1 with h1 | ⟨h1, h1'⟩ <;> rcases h2 with h2 | ⟨h2, h2'⟩
  · exact .inl (by omega)
  · exact .inl (by omega)
  · exact .inl (by omega)
  · exact .inr ⟨by omega, lessD_trans h1' h2'⟩
theorem aheadM_irrefl (a : Mv) : ¬ aheadM a a := by
  unfold aheadM
  rintro (h | ⟨-, h⟩)
  · omega
  · exact lessD_irrefl _ h
theorem aheadM_total {a b : Mv} (h : a.id ≠ b.id) : aheadM a b ∨ aheadM b a := by
  unfold aheadM
  rcases lessD_total h with g | g
  · rcases Int.lt_trichotomy a.time b.time with t | t | t
    · exact .inl (.inl t)
    · exact .inl (.inr ⟨t, g⟩)
    · exact .inr (.inl t)
  · rcases Int.lt_trichotomy a.time b.time with t | t | t
    · exact .inl (.inl t)
    · exact .inr (.inr ⟨t.symm, g⟩)
    · exact .inr (.inl t)
/-- moves in their order, each once -/
structure Srt (L : List Mv) : Prop where
  rises : L.Pairwise aheadM
  ids : (L.map Mv.id).Nodup
/-- one more, at its place -/
def insM (m : Mv) (L : List Mv) : List Mv := L.filter (fun x => decide (aheadM x m)) ++ m :: L.filter (fun x => !decide (aheadM x m))
theorem Srt.nil : Srt [] := ⟨List.Pairwise.nil, by simp⟩
theorem Srt.cut {L0 A : List Mv} {m : Mv} (h : Srt (L0 ++ A)) (hm : m.id ∉ (L0 ++ A).map Mv.id) (hA : ∀ x ∈ A, aheadM m x) (hL : ∀ x ∈ L0.getLast?, ¬ aheadM m x) : insM m (L0 ++ A) = L0 ++ m :: A := by
  have h1 := List.pairwise_append.1 h.rises
  have hne : ∀ x ∈ L0 ++ A, x.id ≠ m.id := fun x hx e => hm (e ▸ List.mem_map_of_mem hx)
  have a1 : ∀ x ∈ L0, aheadM x m := by
    intro x hx
    obtain ⟨B, z, rfl⟩ : ∃ B z, L0 = B ++ [z] := ⟨L0.dropLast, L0.getLast (List.ne_nil_of_mem hx), (List.dropLast_concat_getLast _).symm⟩
    have hz : aheadM z m := (aheadM_total (hne z (by simp))).resolve_right (hL z (by simp))
    rcases List.mem_append.1 hx with hx | hx
    · exact aheadM_trans ((List.pairwise_append.1 h1.1).2.2 x hx z (by simp)) hz
    · obtain rfl : x = z := by simpa using hx
      exact hz
  have a2 : ∀ x ∈ A, ¬ aheadM x m := fun x hx hn => aheadM_irrefl _ (aheadM_trans hn (hA x hx))
  have e1 : L0.filter (fun x => decide (aheadM x m)) = L0 := List.filter_eq_self.2 fun x hx => decide_eq_true (a1 x hx)
  have e2 : A.filter (fun x => decide (aheadM x m)) = [] := List.filter_eq_nil_iff.2 fun x hx => by simpa using a2 x hx
  have e3 : L0.filter (fun x => !decide (aheadM x m)) = [] := List.filter_eq_nil_iff.2 fun x hx => by simpa using a1 x hx
  have e4 : A.filter (fun x => !decide (aheadM x m)) = A := List.filter_eq_self.2 fun x hx => by simpa using a2 x hx
  rw [insM, List.filter_append, List.filter_append, e1, e2, e3, e4]
  simp
theorem insM_perm (m : Mv) (L : List Mv) : (insM m L).Perm (m :: L) := by
  unfold insM
  refine List.perm_middle.trans (List.Perm.cons m ?_)
  exact List.filter_append_perm _ L
theorem Srt.ins {L : List Mv} {m : Mv} (h : Srt L) (hm : m.id ∉ L.map Mv.id) : Srt (insM m L) := by
  refine ⟨?_, ?_⟩
  · have hs1 := h.rises.sublist (List.filter_sublist (l := L) (p := fun x => decide (aheadM x m)))
    have hs2 := h.rises.sublist (List.filter_sublist (l := L) (p := fun x => !decide (aheadM x m)))
    have c1 : ∀ a ∈ L.filter (fun x => decide (aheadM x m)), aheadM a m := fun a ha => by simpa using (List.mem_filter.1 ha).2
    have c2 : ∀ b ∈ L.filter (fun x => !decide (aheadM x m)), aheadM m b := fun b hb => by
      obtain ⟨hb1, hb2⟩ := List.mem_filter.1 hb
      have hb2 : ¬ aheadM b m := by simpa using hb2
      exact (aheadM_total (a := m) (b := b) fun e => hm (e ▸ List.mem_map_of_mem hb1)).resolve_right hb2
    refine List.pairwise_append.2 ⟨hs1, List.pairwise_cons.2 ⟨c2, hs2⟩, fun a ha b hb => ?_⟩
    rcases List.mem_cons.1 hb with rfl | hb
    · exact c1 a ha
    · exact aheadM_trans (c1 a ha) (c2 b hb)
  · have := ((insM_perm m L).map Mv.id).nodup_iff
    rw [this, List.map_cons]
    exact List.nodup_cons.2 ⟨hm, h.ids⟩
/-! ### what took effect last -/
theorem runL_took {L : List Mv} {e : En} (h : e ∈ runL L) : e.mv ∈ L := by
  rw [← runL_mv L]
  exact List.mem_map_of_mem h
/-- did a move of this id take effect? -/
def tookP (L : List Mv) (d : Dot') : Prop := ∃ e ∈ runL L, e.mv.id = d ∧ e.took = true
theorem look_run (L : List Mv) (b : Dot') :
    (alook b (runS L) = none ∧ ∀ e ∈ runL L, e.mv.block = b → e.took = false) ∨
    ∃ A e C, runL L = A ++ e :: C ∧ e.took = true ∧ e.mv.block = b ∧ alook b (runS L) = some (e.mv.parent, e.mv.key) ∧ (∀ x ∈ C, x.mv.block = b → x.took = false) ∧ ∃ x ∈ runL L, x.took = true ∧ x.mv.block = b ∧ x.mv.id = b := by
  generalize hn : L.length = n
  induction n generalizing L with
  | zero =>
    obtain rfl := List.eq_nil_of_length_eq_zero hn
    exact .inl ⟨rfl, fun e he => by simp [runL, runLF] at he⟩
  | succ n ih =>
    have hne : L ≠ [] := by rintro rfl; simp at hn
    obtain ⟨L', m, rfl⟩ : ∃ L' m, L = L' ++ [m] := ⟨L.dropLast, L.getLast hne, (List.dropLast_concat_getLast hne).symm⟩
    have ih := ih L' (by simpa using hn)
    rw [runL_snoc, runS_snoc]
    by_cases ht : takesP (runS L') m ∧ m.block = b
    · obtain ⟨ht, hb⟩ := ht
      have e1 : (doE (runS L') m).took = true := decide_eq_true ht
      refine .inr ⟨runL L', doE (runS L') m, [], by simp, e1, hb, ?_, by simp, ?_⟩
      · rw [doS, if_pos ht, alook_aset, if_pos hb.symm]
        rfl
      · rcases ih with ⟨h1, -⟩ | ⟨_, _, _, _, _, _, _, _, x, hx, g1, g2, g3⟩
        · refine ⟨doE (runS L') m, by simp, e1, hb, ?_⟩
          rcases ht.2.1 with h | h
          · exact h.symm.trans hb
          · rw [hb, h1] at h
            simp at h
        · exact ⟨x, by simp [hx], g1, g2, g3⟩
    · have hl : alook b (doS (runS L') m) = alook b (runS L') := by
        unfold doS
        split
        · rename_i h
          rw [alook_aset, if_neg (fun e => ht ⟨h, e.symm⟩)]
        · rfl
      have hd : (doE (runS L') m).mv.block = b → (doE (runS L') m).took = false := fun hb => decide_eq_false fun h => ht ⟨h, hb⟩
      rw [hl]
      rcases ih with ⟨h1, h2⟩ | ⟨A, e, C, h1, h2, h3, h4, h5, x, hx, g⟩
      · refine .inl ⟨h1, fun e he hb => ?_⟩
        rcases List.mem_append.1 he with he | he
        · exact h2 e he hb
        · obtain rfl : e = doE (runS L') m := by simpa using he
          exact hd hb
      · refine .inr ⟨A, e, C ++ [doE (runS L') m], by rw [h1]; simp, h2, h3, h4, fun y hy hb => ?_, x, by simp [hx], g⟩
        rcases List.mem_append.1 hy with hy | hy
        · exact h5 y hy hb
        · obtain rfl : y = doE (runS L') m := by simpa using hy
          exact hd hb
end Go.Osj
