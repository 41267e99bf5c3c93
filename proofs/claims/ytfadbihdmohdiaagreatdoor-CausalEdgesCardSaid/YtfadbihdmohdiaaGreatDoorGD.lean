/- Stories: the whole. -/
import Derived.Test.YtfadbihdmohdiaaGreatDoorGC
set_option linter.unusedVariables false
set_option linter.unusedSimpArgs false
set_option maxHeartbeats 2000000
namespace Go.Osj
theorem F.osierref04_With_O {S : St} {l : Value} {xs : List Dot} {d : Dot} (hl : SlT dotE S l xs) (hx : isV xs) (hL : xs.length < 20000) :
    J PR F.osierref04_With [l, dotV d] S fun v S' => ((v = l ∧ withV xs d = xs) ∨ OwnT dotE S.n S' v (withV xs d)) ∧ S.Ext S' := by
  refine J_by PR.mixed F.osierref04_With.ok (by simp) ?_
  simp (disch := omega) only [go_sem, simprocAttr]
  refine wfresh_of fun x hx' => ?_
  simp (disch := omega) only [go_sem, simprocAttr]
  have he := (St.Ext.refl S).put hx' (.cells true 2 [.int .i64 d.1, .int .i64 d.2])
  refine wJ_of F.osierref03_May_P ?_; rintro _ _ ⟨rfl, rfl⟩
  unfold withV
  by_cases hm : mayP d
  · simp (disch := omega) only [go_sem, simprocAttr, hm]
    refine wfresh_of fun y hy => ?_
    simp (disch := omega) only [go_sem, simprocAttr]
    have he2 := he.put hy (.cells true 2 [.int .i64 d.1, .int .i64 d.2])
    refine wJ_of (F.osierref04_Join_J (ys := [d]) (meet := false) (hl.ext dotE he2) (SlT.lit dotE (xs := [d])) hx (isV_one hm) hL (by simp)) ?_; rintro v S1 ⟨ho, he3⟩
    simp (disch := omega) only [go_sem, simprocAttr]
    rw [if_pos hm]
    exact ⟨.inr (ho.mono dotE he2.n), he2.trans he3⟩
  · simp (disch := omega) only [go_sem, simprocAttr, hm]
    exact ⟨.inl trivial, he⟩
/-- the four vectors -/
def kC (tv : Nat → SlP) : List Value := [slOf (tv 0), slOf (tv 1), slOf (tv 2), slOf (tv 3)]
def setT {α : Type} (tv : Nat → α) (w : Nat) (t : α) : Nat → α := fun i => if i = w then t else tv i
theorem setT_same {α : Type} (tv : Nat → α) (w : Nat) (t : α) : setT tv w t w = t := if_pos rfl
theorem setT_ne {α : Type} (tv : Nat → α) {w i : Nat} (t : α) (h : i ≠ w) : setT tv w t i = tv i := if_neg h
theorem setT_set {α : Type} (tv : Nat → α) (w : Nat) (t t' : α) : setT (setT tv w t) w t' = setT tv w t' := by
  funext i
  unfold setT
  split <;> rfl
theorem kC_wrote (tv : Nat → SlP) {w : Nat} (h : w < 4) (t : SlP) : wrote (kC tv) w [slOf t] = kC (setT tv w t) := by
  match w, h with
  | 0, _ => rfl
  | 1, _ => rfl
  | 2, _ => rfl
  | 3, _ => rfl
theorem kC_get (tv : Nat → SlP) {w : Nat} (h : w < 4) : (kC tv)[w]? = some (slOf (tv w)) := by
  match w, h with
  | 0, _ => rfl
  | 1, _ => rfl
  | 2, _ => rfl
  | 3, _ => rfl
/-- a story in memory -/
structure StoT (S : St) (B kb : Nat) (vo : Value) (tv : Nat → SlP) (ps : List (OpA × SlP)) (s : Tale) : Prop where
  out : ps.map Prod.fst = s.out
  own : OwnT opE B S vo ps
  ob : S.obj kb = some (.cells true 4 (kC tv))
  lt : kb < S.n
  kB : B ≤ kb
  ko : blkOf vo ≠ some kb
  kn : ∀ i, i < 4 → SlT dotE S (slOf (tv i)) (s.knows i) ∧ ∀ j, blkOf (slOf (tv i)) = some j → j < S.n ∧ j ≠ kb ∧ blkOf vo ≠ some j
  dp : ∀ p ∈ ps, SlT dotE S (slOf p.2) p.1.deps ∧ ∀ j, blkOf (slOf p.2) = some j → j < S.n ∧ j ≠ kb ∧ blkOf vo ≠ some j
namespace StoT
variable {S S' : St} {B kb : Nat} {vo : Value} {tv : Nat → SlP} {ps : List (OpA × SlP)} {s : Tale}
theorem ext (T : StoT S B kb vo tv ps s) (e : S.Ext S') : StoT S' B kb vo tv ps s where
  out := T.out
  own := T.own.ext opE e
  ob := (e.obj kb T.lt).trans T.ob
  lt := Nat.lt_of_lt_of_le T.lt e.n
  kB := T.kB
  ko := T.ko
  kn i hi := ⟨(T.kn i hi).1.ext dotE e, fun j hj => ⟨Nat.lt_of_lt_of_le ((T.kn i hi).2 j hj).1 e.n, ((T.kn i hi).2 j hj).2⟩⟩
  dp p hp := ⟨(T.dp p hp).1.ext dotE e, fun j hj => ⟨Nat.lt_of_lt_of_le ((T.dp p hp).2 j hj).1 e.n, ((T.dp p hp).2 j hj).2⟩⟩
theorem cell (T : StoT S B kb vo tv ps s) {w : Nat} (h : w < 4) : S.cell ⟨kb, w, none⟩ = some (slOf (tv w)) := by
  rw [St.cell_def, T.ob]
  exact kC_get tv h
theorem cell1 (T : StoT S B kb vo tv ps s) {w : Nat} (h : w < 4) : S.cell ⟨kb, w * 1, none⟩ = some (slOf (tv w)) := by
  rw [Nat.mul_one]
  exact T.cell h
/-- a vector is another one -/
theorem set (T : StoT S B kb vo tv ps s) {w : Nat} {t : SlP} {v : List Dot} (hw : w < 4) (b : St.But (ptrV kb) S S') (ob : S'.obj kb = some (.cells true 4 (kC (setT tv w t)))) (ht : SlT dotE S (slOf t) v) (hb : ∀ j, blkOf (slOf t) = some j → j < S.n ∧ j ≠ kb ∧ blkOf vo ≠ some j) :
    StoT S' B kb vo (setT tv w t) ps ⟨s.out, setT s.knows w v⟩ where
  out := T.out
  own := T.own.but opE b fun j hj h => by simp [blkOf] at h; subst h; exact T.ko hj
  ob := ob
  lt := Nat.lt_of_lt_of_le T.lt b.n
  kB := T.kB
  ko := T.ko
  kn i hi := by
    have nb : ∀ j, blkOf (ptrV kb) = some j → kb = j := fun j h => by simpa [blkOf] using h
    by_cases hiw : i = w
    · subst hiw
      simp only [setT_same]
      exact ⟨ht.but dotE b fun j hj h => (hb j hj).2.1 (nb j h).symm, fun j hj => ⟨Nat.lt_of_lt_of_le (hb j hj).1 b.n, (hb j hj).2⟩⟩
    · simp only [setT_ne _ _ hiw]
      exact ⟨(T.kn i hi).1.but dotE b fun j hj h => ((T.kn i hi).2 j hj).2.1 (nb j h).symm, fun j hj => ⟨Nat.lt_of_lt_of_le ((T.kn i hi).2 j hj).1 b.n, ((T.kn i hi).2 j hj).2⟩⟩
  dp p hp := ⟨(T.dp p hp).1.but dotE b fun j hj h => by simp [blkOf] at h; exact ((T.dp p hp).2 j hj).2.1 h.symm, fun j hj => ⟨Nat.lt_of_lt_of_le ((T.dp p hp).2 j hj).1 b.n, ((T.dp p hp).2 j hj).2⟩⟩
theorem fresh (T : StoT S B kb vo tv ps s) {w : Nat} (hw : w < 4) {v6 : Value} {W : List Dot} (h : (v6 = slOf (tv w) ∧ W = s.knows w) ∨ OwnT dotE S.n S' v6 W) (e : S.Ext S') :
    ∃ t : SlP, v6 = slOf t ∧ SlT dotE S' (slOf t) W ∧ ∀ j, blkOf (slOf t) = some j → j < S'.n ∧ j ≠ kb ∧ blkOf vo ≠ some j := by
  rcases h with ⟨rfl, rfl⟩ | ho
  · exact ⟨tv w, rfl, (T.kn w hw).1.ext dotE e, fun j hj => ⟨Nat.lt_of_lt_of_le ((T.kn w hw).2 j hj).1 e.n, ((T.kn w hw).2 j hj).2⟩⟩
  · obtain ⟨b, c, rfl⟩ := (ho.sl dotE).len dotE
    refine ⟨(b, W.length, c), rfl, ho.sl dotE, fun j hj => ?_⟩
    have h1 := ho.blk dotE j hj
    have h2 := T.lt
    refine ⟨h1.2, by omega, fun h => ?_⟩
    have := (T.own.blk opE j h).2
    omega
theorem wst_kn (T : StoT S B kb vo tv ps s) {w : Nat} (hw : w < 4) {t : SlP} {v : List Dot} (ht : SlT dotE S (slOf t) v) (hb : ∀ j, blkOf (slOf t) = some j → j < S.n ∧ j ≠ kb ∧ blkOf vo ≠ some j) {k : KV}
    (hk : ∀ S', StoT S' B kb vo (setT tv w t) ps ⟨s.out, setT s.knows w v⟩ → St.But (ptrV kb) S S' → k.run undef S') : @wst (.pointer (some ⟨kb, w * 1, none⟩)) (slOf t) 1 S k := by
  refine wst_w (kC (setT tv w t)) T.ob rfl rfl (by show w * 1 ≤ 4; omega) (by omega) ?_ fun S' h1 h2 h3 => hk S' (T.set hw h2 h1 ht hb) h2
  rw [Nat.mul_one]
  exact kC_wrote tv hw t
/-- one more operation -/
theorem push (T : StoT S B kb vo tv ps s) {vo' : Value} {o : OpA} {t : SlP} (b : St.But vo S S') (ow : OwnT opE B S' vo' (ps ++ [(o, t)])) (hbo : blkOf vo' = blkOf vo ∨ ∃ j, blkOf vo' = some j ∧ S.n ≤ j) (ht : SlT dotE S (slOf t) o.deps) (hb : ∀ j, blkOf (slOf t) = some j → j < S.n ∧ j ≠ kb ∧ blkOf vo ≠ some j) :
    StoT S' B kb vo' tv (ps ++ [(o, t)]) ⟨s.out ++ [o], s.knows⟩ := by
  have hne : ∀ j, j < S.n → blkOf vo ≠ some j → blkOf vo' ≠ some j := fun j h1 h2 h3 => by
    rcases hbo with h | ⟨i, h, h4⟩
    · exact h2 (h ▸ h3)
    · rw [h] at h3; injection h3 with h3; omega
  exact
  { out := by rw [List.map_append, T.out]; rfl
    own := ow
    ob := (b.obj kb T.lt T.ko).trans T.ob
    lt := Nat.lt_of_lt_of_le T.lt b.n
    kB := T.kB
    ko := hne kb T.lt T.ko
    kn := fun i hi => ⟨(T.kn i hi).1.but dotE b fun j hj => ((T.kn i hi).2 j hj).2.2, fun j hj => ⟨Nat.lt_of_lt_of_le ((T.kn i hi).2 j hj).1 b.n, ((T.kn i hi).2 j hj).2.1, hne j ((T.kn i hi).2 j hj).1 ((T.kn i hi).2 j hj).2.2⟩⟩
    dp := fun p hp => by
      rcases List.mem_append.1 hp with hp | hp
      · exact ⟨(T.dp p hp).1.but dotE b fun j hj => ((T.dp p hp).2 j hj).2.2, fun j hj => ⟨Nat.lt_of_lt_of_le ((T.dp p hp).2 j hj).1 b.n, ((T.dp p hp).2 j hj).2.1, hne j ((T.dp p hp).2 j hj).1 ((T.dp p hp).2 j hj).2.2⟩⟩
      · obtain rfl : p = (o, t) := by simpa using hp
        exact ⟨ht.but dotE b fun j hj => (hb j hj).2.2, fun j hj => ⟨Nat.lt_of_lt_of_le (hb j hj).1 b.n, (hb j hj).2.1, hne j (hb j hj).1 (hb j hj).2.2⟩⟩ }
end StoT
end Go.Osj
