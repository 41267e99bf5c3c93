/- Trees of blocks: what one is in memory; looking. -/
import Derived.Test.YtdabompehgancaaH
import Derived.Test.YtdabompehgancaaXA
set_option linter.unusedVariables false
set_option linter.unusedSimpArgs false
set_option maxHeartbeats 1000000
namespace Go.Osj
theorem lessD_eq (a b : Dot) : lessD a b ↔ lessP a b := Iff.rfl
abbrev ptrV (q : Nat) : Value := .pointer (some ⟨q, 0, none⟩)
theorem but_put (S : St) (q : Nat) (o : AObj) : St.But (ptrV q) S (S.put q o) := ⟨by rw [St.put_n]; omega, fun i _ hn => St.put_other _ _ _ (by rintro rfl; exact hn rfl)⟩
theorem wst_w {S : St} {b off cap n : Nat} {cs : List Value} {v : Value} {k : KV} (cs' : List Value) (ho : S.obj b = some (.cells true cap cs)) (h1 : v.cells.size = n) (h2 : oneC v.cells.toList = true) (h3 : off ≤ cs.length) (h4 : off + n ≤ cap)
    (hw : wrote cs off v.cells.toList = cs') (hk : ∀ S', S'.obj b = some (.cells true cap cs') → St.But (ptrV b) S S' → b < S'.n → k.run undef S') : @wst (.pointer (some ⟨b, off, none⟩)) v n S k :=
  wst_of ho h1 h2 h3 h4 (by rw [hw]; exact hk _ (St.put_same _ _ _) (but_put ..) (St.lt_put_self _ _ _))
def mvC (m : Mv) : List Value := [.int .i64 m.id.1, .int .i64 m.id.2, .int .i64 m.time, .int .i64 m.parent.1, .int .i64 m.parent.2, .string m.key, .int .i64 m.block.1, .int .i64 m.block.2]
def enC (e : En) : List Value := [.int .i64 e.mv.id.1, .int .i64 e.mv.id.2, .int .i64 e.mv.time, .int .i64 e.mv.parent.1, .int .i64 e.mv.parent.2, .string e.mv.key, .int .i64 e.mv.block.1, .int .i64 e.mv.block.2, .bool e.took, .bool e.there, .int .i64 e.old.1.1, .int .i64 e.old.1.2, .string e.old.2]
def mvE : Enc Mv := ⟨mvC, 8, fun _ => rfl, fun _ => rfl, by decide⟩
def enE : Enc En := ⟨enC, 13, fun _ => rfl, fun _ => rfl, by decide⟩
abbrev mvV (m : Mv) : Value := .agg (mvC m).toArray
abbrev spV (s : Spot) : Value := .agg #[.int .i64 s.1.1, .int .i64 s.1.2, .string s.2]
/-- a tree's places, in a view -/
def SpT (S : St) (q sb : Nat) (sp : Sp) : Prop := (∃ lv kv rw cap, S.obj q = some (.cells rw cap [lv, .map (some sb), kv])) ∧ q < S.n ∧ ∃ rw, MapT dotKE spV rw S sb sp
theorem SpT.keep {S S' : St} {q sb : Nat} {sp : Sp} (h : SpT S q sb sp) (hn : S.n ≤ S'.n) (hq : S'.obj q = S.obj q) (hs : S'.obj sb = S.obj sb) : SpT S' q sb sp := by
  obtain ⟨⟨lv, kv, rw, cap, h1⟩, h2, rw', h3⟩ := h
  exact ⟨⟨lv, kv, rw, cap, hq.trans h1⟩, Nat.lt_of_lt_of_le h2 hn, rw', h3.congr dotKE spV hn hs⟩
theorem SpT.ext {S S' : St} {q sb : Nat} {sp : Sp} (h : SpT S q sb sp) (he : S.Ext S') : SpT S' q sb sp := h.keep he.n (he.obj q h.2.1) (he.obj sb h.2.2.choose_spec.1)
theorem SpT.f {S : St} {q sb : Nat} {sp : Sp} (h : SpT S q sb sp) : S.cell ⟨q, 1, none⟩ = some (.map (some sb)) ∧
    ∀ ok k, lookV S [.i .i64, .i .i64] true (.agg #[.int .i64 0, .int .i64 0, .string ⟨#[]⟩]) ok (.map (some sb)) (dotV k) = some (if ok = true then .tuple #[spV ((alook k sp).getD zSpot), .bool (alook k sp).isSome] else spV ((alook k sp).getD zSpot)) := by
  obtain ⟨⟨lv, kv, rw, cap, h1⟩, h2, rw', h3⟩ := h
  refine ⟨by rw [St.cell_def, h1]; rfl, fun ok k => ?_⟩
  have := h3.lookV dotKE spV (spV zSpot) ok k
  refine Eq.trans this ?_
  cases alook k sp <;> rfl
theorem F.api_Root_J {S : St} : J PR F.api_Root [] S fun v S' => v = dotV (0, -1) ∧ S = S' := by
  refine J.back (J_by PR.mixed F.api_Root.ok (by simp) ?_)
  simp (disch := omega) only [go_sem, ↓reduceIte, Nat.reduceEqDiff, Nat.reduceAdd, Nat.reduceMul, Nat.reduceSub, Nat.reduceLT, Nat.reduceLeDiff, Nat.reduceBEq, reduceCtorEq, Int.reduceLT, Int.reduceEq, Int.reduceLE, Int.reduceAdd, Int.reduceSub, Int.reduceToNat, Int.reduceNeg]
  refine wfresh_of fun x hx => ?_
  simp (disch := omega) only [go_sem, ↓reduceIte, Nat.reduceEqDiff, Nat.reduceAdd, Nat.reduceMul, Nat.reduceSub, Nat.reduceLT, Nat.reduceLeDiff, Nat.reduceBEq, reduceCtorEq, Int.reduceLT, Int.reduceEq, Int.reduceLE, Int.reduceAdd, Int.reduceSub, Int.reduceToNat, Int.reduceNeg]
  exact (St.Ext.refl S).put hx _
theorem F.api_Trash_J {S : St} : J PR F.api_Trash [] S fun v S' => v = dotV (0, -2) ∧ S = S' := by
  refine J.back (J_by PR.mixed F.api_Trash.ok (by simp) ?_)
  simp (disch := omega) only [go_sem, ↓reduceIte, Nat.reduceEqDiff, Nat.reduceAdd, Nat.reduceMul, Nat.reduceSub, Nat.reduceLT, Nat.reduceLeDiff, Nat.reduceBEq, reduceCtorEq, Int.reduceLT, Int.reduceEq, Int.reduceLE, Int.reduceAdd, Int.reduceSub, Int.reduceToNat, Int.reduceNeg]
  refine wfresh_of fun x hx => ?_
  simp (disch := omega) only [go_sem, ↓reduceIte, Nat.reduceEqDiff, Nat.reduceAdd, Nat.reduceMul, Nat.reduceSub, Nat.reduceLT, Nat.reduceLeDiff, Nat.reduceBEq, reduceCtorEq, Int.reduceLT, Int.reduceEq, Int.reduceLE, Int.reduceAdd, Int.reduceSub, Int.reduceToNat, Int.reduceNeg]
  exact (St.Ext.refl S).put hx _
theorem F.dots_Less_P {S : St} {a b : Dot} : J PR F.dots_Less [dotV a, dotV b] S fun v S' => v = .bool (decide (lessP a b)) ∧ S = S' := F.dots_Less.J.back
theorem eqV_d (a b : Dot) {t : Bool} (h : decide (a = b) = t) : eqV [.i .i64, .i .i64] true (dotV a) (dotV b) = some t := h ▸ eqV_dot a b
theorem F.movetree_always_J {S : St} {d : Dot} : J PR F.movetree_always [dotV d] S fun v S' => v = .bool (decide (alwaysP d)) ∧ S = S' := by
  refine J.back (J_by PR.mixed F.movetree_always.ok (by simp) ?_)
  simp (disch := omega) only [go_sem, ↓reduceIte, Nat.reduceEqDiff, Nat.reduceAdd, Nat.reduceMul, Nat.reduceSub, Nat.reduceLT, Nat.reduceLeDiff, Nat.reduceBEq, reduceCtorEq, Int.reduceLT, Int.reduceEq, Int.reduceLE, Int.reduceAdd, Int.reduceSub, Int.reduceToNat, Int.reduceNeg]
  refine wfresh_of fun x hx => ?_
  have he := (St.Ext.refl S).put hx (.cells true 2 [.int .i64 d.1, .int .i64 d.2])
  simp (disch := omega) only [go_sem, ↓reduceIte, Nat.reduceEqDiff, Nat.reduceAdd, Nat.reduceMul, Nat.reduceSub, Nat.reduceLT, Nat.reduceLeDiff, Nat.reduceBEq, reduceCtorEq, Int.reduceLT, Int.reduceEq, Int.reduceLE, Int.reduceAdd, Int.reduceSub, Int.reduceToNat, Int.reduceNeg]
  refine wJ_of F.api_Root_J ?_; rintro _ _ ⟨rfl, rfl⟩
  by_cases h1 : d = rootD
  · have e1 := eqV_d d (0, -1) (decide_eq_true h1)
    simp (disch := omega) only [go_sem, ↓reduceIte, Nat.reduceEqDiff, Nat.reduceAdd, Nat.reduceMul, Nat.reduceSub, Nat.reduceLT, Nat.reduceLeDiff, Nat.reduceBEq, reduceCtorEq, Int.reduceLT, Int.reduceEq, Int.reduceLE, Int.reduceAdd, Int.reduceSub, Int.reduceToNat, Int.reduceNeg, e1]
    exact ⟨vb_true (.inl h1), he⟩
  · have e1 := eqV_d d (0, -1) (decide_eq_false h1)
    simp (disch := omega) only [go_sem, ↓reduceIte, Nat.reduceEqDiff, Nat.reduceAdd, Nat.reduceMul, Nat.reduceSub, Nat.reduceLT, Nat.reduceLeDiff, Nat.reduceBEq, reduceCtorEq, Int.reduceLT, Int.reduceEq, Int.reduceLE, Int.reduceAdd, Int.reduceSub, Int.reduceToNat, Int.reduceNeg, e1]
    refine wJ_of F.api_Trash_J ?_; rintro _ _ ⟨rfl, rfl⟩
    have e2 := eqV_dot d (0, -2)
    simp (disch := omega) only [go_sem, ↓reduceIte, Nat.reduceEqDiff, Nat.reduceAdd, Nat.reduceMul, Nat.reduceSub, Nat.reduceLT, Nat.reduceLeDiff, Nat.reduceBEq, reduceCtorEq, Int.reduceLT, Int.reduceEq, Int.reduceLE, Int.reduceAdd, Int.reduceSub, Int.reduceToNat, Int.reduceNeg, e2]
    exact ⟨vb_dec ⟨fun h => .inr h, fun h => h.resolve_left h1⟩, he⟩
theorem F.movetree_none_J {S : St} {d : Dot} : J PR F.movetree_none [dotV d] S fun v S' => v = .bool (decide (noneP d)) ∧ S = S' := by
  refine J.back (J_by PR.mixed F.movetree_none.ok (by simp) ?_)
  simp (disch := omega) only [go_sem, ↓reduceIte, Nat.reduceEqDiff, Nat.reduceAdd, Nat.reduceMul, Nat.reduceSub, Nat.reduceLT, Nat.reduceLeDiff, Nat.reduceBEq, reduceCtorEq, Int.reduceLT, Int.reduceEq, Int.reduceLE, Int.reduceAdd, Int.reduceSub, Int.reduceToNat, Int.reduceNeg]
  refine wfresh_of fun x hx => ?_
  have he := (St.Ext.refl S).put hx (.cells true 2 [.int .i64 d.1, .int .i64 d.2])
  simp (disch := omega) only [go_sem, ↓reduceIte, Nat.reduceEqDiff, Nat.reduceAdd, Nat.reduceMul, Nat.reduceSub, Nat.reduceLT, Nat.reduceLeDiff, Nat.reduceBEq, reduceCtorEq, Int.reduceLT, Int.reduceEq, Int.reduceLE, Int.reduceAdd, Int.reduceSub, Int.reduceToNat, Int.reduceNeg]
  by_cases h1 : d = (0, 0)
  · have e1 := eqV_d d (0, 0) (decide_eq_true h1)
    simp (disch := omega) only [go_sem, ↓reduceIte, Nat.reduceEqDiff, Nat.reduceAdd, Nat.reduceMul, Nat.reduceSub, Nat.reduceLT, Nat.reduceLeDiff, Nat.reduceBEq, reduceCtorEq, Int.reduceLT, Int.reduceEq, Int.reduceLE, Int.reduceAdd, Int.reduceSub, Int.reduceToNat, Int.reduceNeg, e1]
    exact ⟨vb_true (.inl h1), he⟩
  · have e1 := eqV_d d (0, 0) (decide_eq_false h1)
    simp (disch := omega) only [go_sem, ↓reduceIte, Nat.reduceEqDiff, Nat.reduceAdd, Nat.reduceMul, Nat.reduceSub, Nat.reduceLT, Nat.reduceLeDiff, Nat.reduceBEq, reduceCtorEq, Int.reduceLT, Int.reduceEq, Int.reduceLE, Int.reduceAdd, Int.reduceSub, Int.reduceToNat, Int.reduceNeg, e1]
    refine wJ_of F.movetree_always_J ?_; rintro _ _ ⟨rfl, rfl⟩
    simp (disch := omega) only [go_sem, ↓reduceIte, Nat.reduceEqDiff, Nat.reduceAdd, Nat.reduceMul, Nat.reduceSub, Nat.reduceLT, Nat.reduceLeDiff, Nat.reduceBEq, reduceCtorEq, Int.reduceLT, Int.reduceEq, Int.reduceLE, Int.reduceAdd, Int.reduceSub, Int.reduceToNat, Int.reduceNeg]
    exact ⟨vb_dec ⟨fun h => .inr h, fun h => h.resolve_left h1⟩, he⟩
theorem F.movetree_Tree_There_J {S : St} {q sb : Nat} {sp : Sp} {b : Dot} (h : SpT S q sb sp) : J PR F.movetree_Tree_There [ptrV q, dotV b] S fun v S' => v = .bool (alook b sp).isSome ∧ S = S' := by
  refine J.back (J_by PR.mixed F.movetree_Tree_There.ok (by simp) ?_)
  simp (disch := omega) only [go_sem, ↓reduceIte, Nat.reduceEqDiff, Nat.reduceAdd, Nat.reduceMul, Nat.reduceSub, Nat.reduceLT, Nat.reduceLeDiff, Nat.reduceBEq, reduceCtorEq, Int.reduceLT, Int.reduceEq, Int.reduceLE, Int.reduceAdd, Int.reduceSub, Int.reduceToNat, Int.reduceNeg]
  refine wfresh_of fun x hx => ?_
  have he := (St.Ext.refl S).put hx (.cells true 2 [.int .i64 b.1, .int .i64 b.2])
  have h1 := h.ext he
  have f1 := h1.f
  simp (disch := omega) only [go_sem, ↓reduceIte, Nat.reduceEqDiff, Nat.reduceAdd, Nat.reduceMul, Nat.reduceSub, Nat.reduceLT, Nat.reduceLeDiff, Nat.reduceBEq, reduceCtorEq, Int.reduceLT, Int.reduceEq, Int.reduceLE, Int.reduceAdd, Int.reduceSub, Int.reduceToNat, Int.reduceNeg, eqN, f1]
  refine wfresh_of fun y hy => ?_
  have he2 := (St.Ext.refl (S.put x (.cells true 2 [.int .i64 b.1, .int .i64 b.2]))).put hy (.cells true 3 [.int .i64 0, .int .i64 0, .string ⟨#[]⟩])
  have f2 := (h1.ext he2).f
  simp (disch := omega) only [go_sem, ↓reduceIte, Nat.reduceEqDiff, Nat.reduceAdd, Nat.reduceMul, Nat.reduceSub, Nat.reduceLT, Nat.reduceLeDiff, Nat.reduceBEq, reduceCtorEq, Int.reduceLT, Int.reduceEq, Int.reduceLE, Int.reduceAdd, Int.reduceSub, Int.reduceToNat, Int.reduceNeg, f1, f2]
  exact he.put hy _
abbrev nilS : Value := .slice none 0 0
theorem F.movetree_Tree_Path_J {S : St} {q sb : Nat} {sp : Sp} {b : Dot} {l : List Dot} (h : SpT S q sb sp) (hp : Pth sp b l) (hL : l.length < 100000) :
    J PR F.movetree_Tree_Path [ptrV q, dotV b] S fun v S' => OwnT dotE S.n S' v l ∧ S.Ext S' := by
  refine J_by PR.mixed F.movetree_Tree_Path.ok (by simp) ?_
  simp (disch := omega) only [go_sem, ↓reduceIte, Nat.reduceEqDiff, Nat.reduceAdd, Nat.reduceMul, Nat.reduceSub, Nat.reduceLT, Nat.reduceLeDiff, Nat.reduceBEq, reduceCtorEq, Int.reduceLT, Int.reduceEq, Int.reduceLE, Int.reduceAdd, Int.reduceSub, Int.reduceToNat, Int.reduceNeg]
  refine wfresh_of fun x hx => ?_
  have he0 := (St.Ext.refl S).put hx (.cells true 2 [.int .i64 b.1, .int .i64 b.2])
  simp (disch := omega) only [go_sem, ↓reduceIte, Nat.reduceEqDiff, Nat.reduceAdd, Nat.reduceMul, Nat.reduceSub, Nat.reduceLT, Nat.reduceLeDiff, Nat.reduceBEq, reduceCtorEq, Int.reduceLT, Int.reduceEq, Int.reduceLE, Int.reduceAdd, Int.reduceSub, Int.reduceToNat, Int.reduceNeg]
  refine wC_loop (fun n fr S' => ∃ (cur : Dot) (rest done : List Dot) (v : Value), n = rest.length ∧ l = done ++ rest ∧ Pth sp cur rest ∧ fr 0 = ptrV q ∧ fr 3 = ptrV x ∧ fr 5 = v ∧
      S'.obj x = some (.cells true 2 [.int .i64 cur.1, .int .i64 cur.2]) ∧ OwnT dotE S.n S' v done ∧ (∀ j, blkOf v = some j → j ≠ x) ∧ S.Ext S' ∧ x < S'.n) l.length
    ⟨b, l, [], nilS, by simp (disch := omega) only [go_sem, ↓reduceIte, Nat.reduceEqDiff, Nat.reduceAdd, Nat.reduceMul, Nat.reduceSub, Nat.reduceLT, Nat.reduceLeDiff, Nat.reduceBEq, reduceCtorEq, Int.reduceLT, Int.reduceEq, Int.reduceLE, Int.reduceAdd, Int.reduceSub, Int.reduceToNat, Int.reduceNeg]; exact ⟨hp, St.put_same _ _ _, OwnT.nil dotE _ _, by simp [blkOf], he0, by omega⟩⟩ ?_
  rintro n fr S1 ⟨cur, rest, done, v, rfl, hl, hpc, g0, g3, g5, ox, hown, hne, he, hxn⟩
  have cx : S1.loadN ⟨x, 0, none⟩ 2 = some [.int .i64 cur.1, .int .i64 cur.2] := by rw [St.loadN_def, ox]; rfl
  have hs1 := h.ext he
  have f1 := hs1.f
  simp (disch := omega) only [go_sem, ↓reduceIte, Nat.reduceEqDiff, Nat.reduceAdd, Nat.reduceMul, Nat.reduceSub, Nat.reduceLT, Nat.reduceLeDiff, Nat.reduceBEq, reduceCtorEq, Int.reduceLT, Int.reduceEq, Int.reduceLE, Int.reduceAdd, Int.reduceSub, Int.reduceToNat, Int.reduceNeg, F.movetree_Tree_Path.l0, g0, g3, g5, cx]
  refine wJ_of (F.movetree_Tree_There_J hs1) ?_; rintro _ _ ⟨rfl, rfl⟩
  cases hpc with
  | stop hn =>
    simp (disch := omega) only [go_sem, ↓reduceIte, Nat.reduceEqDiff, Nat.reduceAdd, Nat.reduceMul, Nat.reduceSub, Nat.reduceLT, Nat.reduceLeDiff, Nat.reduceBEq, reduceCtorEq, Int.reduceLT, Int.reduceEq, Int.reduceLE, Int.reduceAdd, Int.reduceSub, Int.reduceToNat, Int.reduceNeg, hn, Option.isSome_none, g5]
    rw [List.append_nil] at hl
    subst hl
    exact ⟨hown, he⟩
  | @up _ s rest' hs hr =>
    have hlen := congrArg List.length hl
    simp only [List.length_append, List.length_cons] at hlen
    simp (disch := omega) only [go_sem, ↓reduceIte, Nat.reduceEqDiff, Nat.reduceAdd, Nat.reduceMul, Nat.reduceSub, Nat.reduceLT, Nat.reduceLeDiff, Nat.reduceBEq, reduceCtorEq, Int.reduceLT, Int.reduceEq, Int.reduceLE, Int.reduceAdd, Int.reduceSub, Int.reduceToNat, Int.reduceNeg, hs, Option.isSome_some, g0, g3, cx, f1, Option.getD_some]
    refine wst_w [.int .i64 s.1.1, .int .i64 s.1.2] ox rfl rfl (by simp) (by simp) rfl fun S2 ox2 hb2 hx2 => ?_
    have cx2 : S2.loadN ⟨x, 0, none⟩ 2 = some [.int .i64 s.1.1, .int .i64 s.1.2] := by rw [St.loadN_def, ox2]; rfl
    simp (disch := omega) only [go_sem, ↓reduceIte, Nat.reduceEqDiff, Nat.reduceAdd, Nat.reduceMul, Nat.reduceSub, Nat.reduceLT, Nat.reduceLeDiff, Nat.reduceBEq, reduceCtorEq, Int.reduceLT, Int.reduceEq, Int.reduceLE, Int.reduceAdd, Int.reduceSub, Int.reduceToNat, Int.reduceNeg, g3, cx2]
    refine wfresh_of fun y hy => ?_
    simp (disch := omega) only [go_sem, ↓reduceIte, Nat.reduceEqDiff, Nat.reduceAdd, Nat.reduceMul, Nat.reduceSub, Nat.reduceLT, Nat.reduceLeDiff, Nat.reduceBEq, reduceCtorEq, Int.reduceLT, Int.reduceEq, Int.reduceLE, Int.reduceAdd, Int.reduceSub, Int.reduceToNat, Int.reduceNeg, g5]
    have e2 := (St.Ext.refl S2).put hy (.cells true 2 [.int .i64 s.1.1, .int .i64 s.1.2])
    have hown2 := hown.but dotE hb2 fun j hj => by have := hne j hj; simp [blkOf]; omega
    refine wE_app dotE (xs := done) (ys := [s.1]) (hown2.ext dotE e2) (SlT.lit dotE (xs := [s.1])) rfl rfl (by have := he.n; have := hb2.n; have := e2.n; omega) (by simp; omega) (by simp; omega) fun v3 S3 ho3 hb3 hv3 => ?_
    simp (disch := omega) only [go_sem, ↓reduceIte, Nat.reduceEqDiff, Nat.reduceAdd, Nat.reduceMul, Nat.reduceSub, Nat.reduceLT, Nat.reduceLeDiff, Nat.reduceBEq, reduceCtorEq, Int.reduceLT, Int.reduceEq, Int.reduceLE, Int.reduceAdd, Int.reduceSub, Int.reduceToNat, Int.reduceNeg, g0, g3]
    have hjn : ∀ j, blkOf v = some j → S.n ≤ j ∧ j < S2.n := fun j hj => ⟨(hown2.blk dotE j hj).1, (hown2.blk dotE j hj).2⟩
    have x3 : S3.obj x = some (.cells true 2 [.int .i64 s.1.1, .int .i64 s.1.2]) := by
      rw [hb3.obj x (Nat.lt_of_lt_of_le hx2 e2.n) (fun e => hne x e rfl), e2.obj x hx2, ox2]
    refine ⟨rest'.length, by simp, s.1, rest', done ++ [s.1], v3, rfl, by rw [hl]; simp, hr, rfl, x3, ho3, fun j hj => ?_, ?_, Nat.lt_of_lt_of_le hx2 (Nat.le_trans e2.n hb3.n)⟩
    · rcases hv3 with hv | ⟨b', hv, hb'⟩
      · rw [hv] at hj; exact hne j hj
      · rw [hv] at hj
        injection hj with hj
        have := e2.n
        omega
    · exact ((he.but hb2 fun j hj => by simp [blkOf] at hj; omega).trans e2).but hb3 fun j hj => (hjn j hj).1
theorem F.slices_Index_dot_J {S : St} {l : Value} {xs : List Dot} {d : Dot} (hl : SlT dotE S l xs) (hL : xs.length < 4611686018427387904) : J PR F.slices_Index_s_api_Dot_api_Dot [l, dotV d] S fun v S' => (∃ i : Int, v = .int .i64 i ∧ (0 ≤ i ↔ d ∈ xs)) ∧ S = S' := by
  obtain ⟨base, cap, rfl⟩ := hl.len dotE
  refine J.back (J_by PR.mixed F.slices_Index_s_api_Dot_api_Dot.ok (by simp) ?_)
  simp (disch := omega) only [go_sem, ↓reduceIte, Nat.reduceEqDiff, Nat.reduceAdd, Nat.reduceMul, Nat.reduceSub, Nat.reduceLT, Nat.reduceLeDiff, Nat.reduceBEq, reduceCtorEq, Int.reduceLT, Int.reduceEq, Int.reduceLE, Int.reduceAdd, Int.reduceSub, Int.reduceToNat, Int.reduceNeg]
  refine wfresh_of fun x hx => ?_
  simp (disch := omega) only [go_sem, ↓reduceIte, Nat.reduceEqDiff, Nat.reduceAdd, Nat.reduceMul, Nat.reduceSub, Nat.reduceLT, Nat.reduceLeDiff, Nat.reduceBEq, reduceCtorEq, Int.reduceLT, Int.reduceEq, Int.reduceLE, Int.reduceAdd, Int.reduceSub, Int.reduceToNat, Int.reduceNeg]
  have he := (St.Ext.refl S).put hx (.cells true 2 [.int .i64 d.1, .int .i64 d.2])
  refine wC_loop (fun n fr S' => ∃ i, n = xs.length - i ∧ i ≤ xs.length ∧ S' = S.put x (.cells true 2 [.int .i64 d.1, .int .i64 d.2]) ∧ fr 0 = .slice base xs.length cap ∧ fr 3 = .pointer (some ⟨x, 0, none⟩) ∧ fr 7 = .int .i64 xs.length ∧ fr 8 = .int .i64 (i : Nat) ∧ d ∉ xs.take i) xs.length ⟨0, by simp (disch := omega) only [go_sem, ↓reduceIte, Nat.reduceEqDiff, Nat.reduceAdd, Nat.reduceMul, Nat.reduceSub, Nat.reduceLT, Nat.reduceLeDiff, Nat.reduceBEq, reduceCtorEq, Int.reduceLT, Int.reduceEq, Int.reduceLE, Int.reduceAdd, Int.reduceSub, Int.reduceToNat, Int.reduceNeg]; simp⟩ ?_
  rintro n fr S' ⟨i, rfl, hi, rfl, h0, h3, h7, h8, hn⟩
  simp (disch := omega) only [go_sem, ↓reduceIte, Nat.reduceEqDiff, Nat.reduceAdd, Nat.reduceMul, Nat.reduceSub, Nat.reduceLT, Nat.reduceLeDiff, Nat.reduceBEq, reduceCtorEq, Int.reduceLT, Int.reduceEq, Int.reduceLE, Int.reduceAdd, Int.reduceSub, Int.reduceToNat, Int.reduceNeg, F.slices_Index_s_api_Dot_api_Dot.l0, h0, h3, h7, h8]
  refine wcond_dec (fun hlt => ?_) (fun hge => ?_)
  · have hlx : i < xs.length := by omega
    obtain ⟨b, off, rfl, hb, hld⟩ := (hl.ext dotE he).dot hlx
    have hc : (0 : Int) ≤ (i : Int) ∧ (i : Int) < (xs.length : Int) := by omega
    have eq := eqV_dot d xs[i]
    simp (disch := omega) only [go_sem, ↓reduceIte, Nat.reduceEqDiff, Nat.reduceAdd, Nat.reduceMul, Nat.reduceSub, Nat.reduceLT, Nat.reduceLeDiff, Nat.reduceBEq, reduceCtorEq, Int.reduceLT, Int.reduceEq, Int.reduceLE, Int.reduceAdd, Int.reduceSub, Int.reduceToNat, Int.reduceNeg, h0, h3, h7, h8, hc, hld, eq]
    refine wcond_dec (fun hq => ?_) (fun hq => ?_)
    · simp (disch := omega) only [go_sem, ↓reduceIte, Nat.reduceEqDiff, Nat.reduceAdd, Nat.reduceMul, Nat.reduceSub, Nat.reduceLT, Nat.reduceLeDiff, Nat.reduceBEq, reduceCtorEq, Int.reduceLT, Int.reduceEq, Int.reduceLE, Int.reduceAdd, Int.reduceSub, Int.reduceToNat, Int.reduceNeg, h8]
      exact ⟨⟨_, rfl, by simp only [Int.natCast_nonneg, true_iff]; rw [hq]; exact List.getElem_mem _⟩, he⟩
    · simp (disch := omega) only [go_sem, ↓reduceIte, Nat.reduceEqDiff, Nat.reduceAdd, Nat.reduceMul, Nat.reduceSub, Nat.reduceLT, Nat.reduceLeDiff, Nat.reduceBEq, reduceCtorEq, Int.reduceLT, Int.reduceEq, Int.reduceLE, Int.reduceAdd, Int.reduceSub, Int.reduceToNat, Int.reduceNeg, h0, h3, h7, h8]
      refine ⟨xs.length - (i + 1), by omega, i + 1, rfl, by omega, rfl, ?_⟩
      rw [take_snoc (List.getElem?_eq_getElem hlx), List.mem_append]
      rintro (h | h)
      · exact hn h
      · simp at h
        exact hq h
  · simp (disch := omega) only [go_sem, ↓reduceIte, Nat.reduceEqDiff, Nat.reduceAdd, Nat.reduceMul, Nat.reduceSub, Nat.reduceLT, Nat.reduceLeDiff, Nat.reduceBEq, reduceCtorEq, Int.reduceLT, Int.reduceEq, Int.reduceLE, Int.reduceAdd, Int.reduceSub, Int.reduceToNat, Int.reduceNeg]
    rw [List.take_of_length_le (by omega)] at hn
    exact ⟨⟨_, rfl, by simp [hn]⟩, he⟩
theorem F.slices_Contains_dot_J {S : St} {l : Value} {xs : List Dot} {d : Dot} (hl : SlT dotE S l xs) (hL : xs.length < 4611686018427387904) : J PR F.slices_Contains_s_api_Dot_api_Dot [l, dotV d] S fun v S' => v = .bool (decide (d ∈ xs)) ∧ S = S' := by
  refine J.back (J_by PR.mixed F.slices_Contains_s_api_Dot_api_Dot.ok (by simp) ?_)
  simp (disch := omega) only [go_sem, ↓reduceIte, Nat.reduceEqDiff, Nat.reduceAdd, Nat.reduceMul, Nat.reduceSub, Nat.reduceLT, Nat.reduceLeDiff, Nat.reduceBEq, reduceCtorEq, Int.reduceLT, Int.reduceEq, Int.reduceLE, Int.reduceAdd, Int.reduceSub, Int.reduceToNat, Int.reduceNeg]
  refine wfresh_of fun x hx => ?_
  have he := (St.Ext.refl S).put hx (.cells true 2 [.int .i64 d.1, .int .i64 d.2])
  simp (disch := omega) only [go_sem, ↓reduceIte, Nat.reduceEqDiff, Nat.reduceAdd, Nat.reduceMul, Nat.reduceSub, Nat.reduceLT, Nat.reduceLeDiff, Nat.reduceBEq, reduceCtorEq, Int.reduceLT, Int.reduceEq, Int.reduceLE, Int.reduceAdd, Int.reduceSub, Int.reduceToNat, Int.reduceNeg]
  refine wJ_of (F.slices_Index_dot_J (hl.ext dotE he) hL) ?_; rintro _ _ ⟨⟨i, rfl, hi⟩, rfl⟩
  simp (disch := omega) only [go_sem, ↓reduceIte, Nat.reduceEqDiff, Nat.reduceAdd, Nat.reduceMul, Nat.reduceSub, Nat.reduceLT, Nat.reduceLeDiff, Nat.reduceBEq, reduceCtorEq, Int.reduceLT, Int.reduceEq, Int.reduceLE, Int.reduceAdd, Int.reduceSub, Int.reduceToNat, Int.reduceNeg]
  exact ⟨vb_dec hi, he⟩
/-- a move in a block -/
def mvB (S : St) (x : Nat) (m : Mv) : Prop := x < S.n ∧ S.obj x = some (.cells true 8 (mvC m))
theorem mvB.ext {S S' : St} {x : Nat} {m : Mv} (h : mvB S x m) (he : S.Ext S') : mvB S' x m := ⟨Nat.lt_of_lt_of_le h.1 he.n, (he.obj x h.1).trans h.2⟩
theorem mvB.ne {S S' : St} {x : Nat} {m : Mv} {u : Value} (h : mvB S x m) (hb : St.But u S S') (hu : blkOf u ≠ some x) : mvB S' x m := ⟨Nat.lt_of_lt_of_le h.1 hb.n, (hb.obj x h.1 hu).trans h.2⟩
theorem mvB.c {S : St} {x : Nat} {m : Mv} (h : mvB S x m) :
    (S.cell ⟨x, 2, none⟩ = some (.int .i64 m.time) ∧ S.cell ⟨x, 5, none⟩ = some (.string m.key)) ∧
    (S.loadN ⟨x, 0, none⟩ 2 = some [.int .i64 m.id.1, .int .i64 m.id.2] ∧ S.loadN ⟨x, 3, none⟩ 2 = some [.int .i64 m.parent.1, .int .i64 m.parent.2] ∧ S.loadN ⟨x, 3, none⟩ 3 = some [.int .i64 m.parent.1, .int .i64 m.parent.2, .string m.key] ∧ S.loadN ⟨x, 6, none⟩ 2 = some [.int .i64 m.block.1, .int .i64 m.block.2]) ∧
    S.loadN ⟨x, 0, none⟩ 8 = some (mvC m) := by
  simp only [St.cell_def, St.loadN_def, h.2]
  simp [mvC]
theorem mvC_len (m : Mv) : (mvC m).length = 8 := rfl
theorem wE_boxM {fr : Fr} {S : St} {x : Operand} {k : KV} {m : Mv} (hx : ev fr x = mvV m) (hk : ∀ w S1, S.Ext S1 → mvB S1 w m → S.n ≤ w → k.run (ptrV w) S1) :
    @wfresh S.n ⟨fun b => k.run (.pointer (some ⟨b, 0, none⟩)) (S.put b (.cells true (ev fr x).cells.toList.length (ev fr x).cells.toList))⟩ := by
  refine wfresh_of fun b hb => ?_
  rw [hx]
  exact hk b _ ((St.Ext.refl S).put hb _) ⟨St.lt_put_self _ _ _, St.put_same _ _ _⟩ hb
/-- does a move take effect now? -/
theorem F.movetree_Tree_may_J {S : St} {q sb : Nat} {sp : Sp} {m : Mv} (h : SpT S q sb sp) (ok : OkS sp) (hL : sp.length < 100000) :
    J PR F.movetree_Tree_may [ptrV q, mvV m] S fun v S' => v = .bool (decide (takesP sp m)) ∧ S = S' := by
  refine J.back (J_by PR.mixed F.movetree_Tree_may.ok (by simp) ?_)
  simp (disch := omega) only [go_sem, ↓reduceIte, Nat.reduceEqDiff, Nat.reduceAdd, Nat.reduceMul, Nat.reduceSub, Nat.reduceLT, Nat.reduceLeDiff, Nat.reduceBEq, reduceCtorEq, Int.reduceLT, Int.reduceEq, Int.reduceLE, Int.reduceAdd, Int.reduceSub, Int.reduceToNat, Int.reduceNeg]
  refine wE_boxM (m := m) rfl fun x S1 he hx hxn => ?_
  have c1 := hx.c
  have h1 := h.ext he
  have hp := ok.pth m.parent
  have hpl := hp.len
  unfold takesP
  simp (disch := omega) only [go_sem, ↓reduceIte, Nat.reduceEqDiff, Nat.reduceAdd, Nat.reduceMul, Nat.reduceSub, Nat.reduceLT, Nat.reduceLeDiff, Nat.reduceBEq, reduceCtorEq, Int.reduceLT, Int.reduceEq, Int.reduceLE, Int.reduceAdd, Int.reduceSub, Int.reduceToNat, Int.reduceNeg, c1]
  refine wJ_of F.movetree_always_J ?_; rintro _ _ ⟨rfl, rfl⟩
  by_cases a1 : alwaysP m.parent
  · have d1 : decide (alwaysP m.parent) = true := decide_eq_true a1
    have A : alwaysP m.parent ∨ (alook m.parent sp).isSome = true := .inl a1
    simp (disch := omega) only [go_sem, ↓reduceIte, Nat.reduceEqDiff, Nat.reduceAdd, Nat.reduceMul, Nat.reduceSub, Nat.reduceLT, Nat.reduceLeDiff, Nat.reduceBEq, reduceCtorEq, Int.reduceLT, Int.reduceEq, Int.reduceLE, Int.reduceAdd, Int.reduceSub, Int.reduceToNat, Int.reduceNeg, c1, d1]
    by_cases b1 : m.block = m.id
    · have B : m.block = m.id ∨ (alook m.block sp).isSome = true := .inl b1
      have e1 := eqV_d m.block m.id (decide_eq_true b1)
      simp (disch := omega) only [go_sem, ↓reduceIte, Nat.reduceEqDiff, Nat.reduceAdd, Nat.reduceMul, Nat.reduceSub, Nat.reduceLT, Nat.reduceLeDiff, Nat.reduceBEq, reduceCtorEq, Int.reduceLT, Int.reduceEq, Int.reduceLE, Int.reduceAdd, Int.reduceSub, Int.reduceToNat, Int.reduceNeg, c1, e1]
      by_cases b2 : m.block = m.parent
      · have e2 := eqV_d m.block m.parent (decide_eq_true b2)
        simp (disch := omega) only [go_sem, ↓reduceIte, Nat.reduceEqDiff, Nat.reduceAdd, Nat.reduceMul, Nat.reduceSub, Nat.reduceLT, Nat.reduceLeDiff, Nat.reduceBEq, reduceCtorEq, Int.reduceLT, Int.reduceEq, Int.reduceLE, Int.reduceAdd, Int.reduceSub, Int.reduceToNat, Int.reduceNeg, c1, e2]
        exact ⟨vb_false (fun h => h.2.2.1 b2), he⟩
      have e2 := eqV_d m.block m.parent (decide_eq_false b2)
      simp (disch := omega) only [go_sem, ↓reduceIte, Nat.reduceEqDiff, Nat.reduceAdd, Nat.reduceMul, Nat.reduceSub, Nat.reduceLT, Nat.reduceLeDiff, Nat.reduceBEq, reduceCtorEq, Int.reduceLT, Int.reduceEq, Int.reduceLE, Int.reduceAdd, Int.reduceSub, Int.reduceToNat, Int.reduceNeg, c1, e2]
      refine wJ_of (F.movetree_Tree_Path_J h1 hp (by omega)) ?_; rintro pv S2 ⟨hpo, he2⟩
      have c2 := (hx.ext he2).c
      simp (disch := omega) only [go_sem, ↓reduceIte, Nat.reduceEqDiff, Nat.reduceAdd, Nat.reduceMul, Nat.reduceSub, Nat.reduceLT, Nat.reduceLeDiff, Nat.reduceBEq, reduceCtorEq, Int.reduceLT, Int.reduceEq, Int.reduceLE, Int.reduceAdd, Int.reduceSub, Int.reduceToNat, Int.reduceNeg, c2]
      refine wJ_of (F.slices_Contains_dot_J (hpo.sl dotE) (by omega)) ?_; rintro _ _ ⟨rfl, rfl⟩
      simp (disch := omega) only [go_sem, ↓reduceIte, Nat.reduceEqDiff, Nat.reduceAdd, Nat.reduceMul, Nat.reduceSub, Nat.reduceLT, Nat.reduceLeDiff, Nat.reduceBEq, reduceCtorEq, Int.reduceLT, Int.reduceEq, Int.reduceLE, Int.reduceAdd, Int.reduceSub, Int.reduceToNat, Int.reduceNeg]
      exact ⟨vb_not ⟨fun h => ⟨A, B, b2, h⟩, fun h => h.2.2.2⟩, he.trans he2⟩
    have e1 := eqV_d m.block m.id (decide_eq_false b1)
    simp (disch := omega) only [go_sem, ↓reduceIte, Nat.reduceEqDiff, Nat.reduceAdd, Nat.reduceMul, Nat.reduceSub, Nat.reduceLT, Nat.reduceLeDiff, Nat.reduceBEq, reduceCtorEq, Int.reduceLT, Int.reduceEq, Int.reduceLE, Int.reduceAdd, Int.reduceSub, Int.reduceToNat, Int.reduceNeg, c1, e1]
    refine wJ_of (F.movetree_Tree_There_J h1) ?_; rintro _ _ ⟨rfl, rfl⟩
    by_cases t1 : (alook m.block sp).isSome = true
    · have B : m.block = m.id ∨ (alook m.block sp).isSome = true := .inr t1
      simp (disch := omega) only [go_sem, ↓reduceIte, Nat.reduceEqDiff, Nat.reduceAdd, Nat.reduceMul, Nat.reduceSub, Nat.reduceLT, Nat.reduceLeDiff, Nat.reduceBEq, reduceCtorEq, Int.reduceLT, Int.reduceEq, Int.reduceLE, Int.reduceAdd, Int.reduceSub, Int.reduceToNat, Int.reduceNeg, c1, t1]
      by_cases b2 : m.block = m.parent
      · have e2 := eqV_d m.block m.parent (decide_eq_true b2)
        simp (disch := omega) only [go_sem, ↓reduceIte, Nat.reduceEqDiff, Nat.reduceAdd, Nat.reduceMul, Nat.reduceSub, Nat.reduceLT, Nat.reduceLeDiff, Nat.reduceBEq, reduceCtorEq, Int.reduceLT, Int.reduceEq, Int.reduceLE, Int.reduceAdd, Int.reduceSub, Int.reduceToNat, Int.reduceNeg, c1, e2]
        exact ⟨vb_false (fun h => h.2.2.1 b2), he⟩
      have e2 := eqV_d m.block m.parent (decide_eq_false b2)
      simp (disch := omega) only [go_sem, ↓reduceIte, Nat.reduceEqDiff, Nat.reduceAdd, Nat.reduceMul, Nat.reduceSub, Nat.reduceLT, Nat.reduceLeDiff, Nat.reduceBEq, reduceCtorEq, Int.reduceLT, Int.reduceEq, Int.reduceLE, Int.reduceAdd, Int.reduceSub, Int.reduceToNat, Int.reduceNeg, c1, e2]
      refine wJ_of (F.movetree_Tree_Path_J h1 hp (by omega)) ?_; rintro pv S2 ⟨hpo, he2⟩
      have c2 := (hx.ext he2).c
      simp (disch := omega) only [go_sem, ↓reduceIte, Nat.reduceEqDiff, Nat.reduceAdd, Nat.reduceMul, Nat.reduceSub, Nat.reduceLT, Nat.reduceLeDiff, Nat.reduceBEq, reduceCtorEq, Int.reduceLT, Int.reduceEq, Int.reduceLE, Int.reduceAdd, Int.reduceSub, Int.reduceToNat, Int.reduceNeg, c2]
      refine wJ_of (F.slices_Contains_dot_J (hpo.sl dotE) (by omega)) ?_; rintro _ _ ⟨rfl, rfl⟩
      simp (disch := omega) only [go_sem, ↓reduceIte, Nat.reduceEqDiff, Nat.reduceAdd, Nat.reduceMul, Nat.reduceSub, Nat.reduceLT, Nat.reduceLeDiff, Nat.reduceBEq, reduceCtorEq, Int.reduceLT, Int.reduceEq, Int.reduceLE, Int.reduceAdd, Int.reduceSub, Int.reduceToNat, Int.reduceNeg]
      exact ⟨vb_not ⟨fun h => ⟨A, B, b2, h⟩, fun h => h.2.2.2⟩, he.trans he2⟩
    · have t2 : (alook m.block sp).isSome = false := by simpa using t1
      simp (disch := omega) only [go_sem, ↓reduceIte, Nat.reduceEqDiff, Nat.reduceAdd, Nat.reduceMul, Nat.reduceSub, Nat.reduceLT, Nat.reduceLeDiff, Nat.reduceBEq, reduceCtorEq, Int.reduceLT, Int.reduceEq, Int.reduceLE, Int.reduceAdd, Int.reduceSub, Int.reduceToNat, Int.reduceNeg, c1, t2]
      exact ⟨vb_false (fun h => h.2.1.elim b1 (fun g => by first | exact t1 g | exact g)), he⟩
  · have d1 : decide (alwaysP m.parent) = false := decide_eq_false a1
    simp (disch := omega) only [go_sem, ↓reduceIte, Nat.reduceEqDiff, Nat.reduceAdd, Nat.reduceMul, Nat.reduceSub, Nat.reduceLT, Nat.reduceLeDiff, Nat.reduceBEq, reduceCtorEq, Int.reduceLT, Int.reduceEq, Int.reduceLE, Int.reduceAdd, Int.reduceSub, Int.reduceToNat, Int.reduceNeg, c1, d1]
    refine wJ_of (F.movetree_Tree_There_J h1) ?_; rintro _ _ ⟨rfl, rfl⟩
    by_cases p1 : (alook m.parent sp).isSome = true
    · have A : alwaysP m.parent ∨ (alook m.parent sp).isSome = true := .inr p1
      simp (disch := omega) only [go_sem, ↓reduceIte, Nat.reduceEqDiff, Nat.reduceAdd, Nat.reduceMul, Nat.reduceSub, Nat.reduceLT, Nat.reduceLeDiff, Nat.reduceBEq, reduceCtorEq, Int.reduceLT, Int.reduceEq, Int.reduceLE, Int.reduceAdd, Int.reduceSub, Int.reduceToNat, Int.reduceNeg, c1, p1]
      by_cases b1 : m.block = m.id
      · have B : m.block = m.id ∨ (alook m.block sp).isSome = true := .inl b1
        have e1 := eqV_d m.block m.id (decide_eq_true b1)
        simp (disch := omega) only [go_sem, ↓reduceIte, Nat.reduceEqDiff, Nat.reduceAdd, Nat.reduceMul, Nat.reduceSub, Nat.reduceLT, Nat.reduceLeDiff, Nat.reduceBEq, reduceCtorEq, Int.reduceLT, Int.reduceEq, Int.reduceLE, Int.reduceAdd, Int.reduceSub, Int.reduceToNat, Int.reduceNeg, c1, e1]
        by_cases b2 : m.block = m.parent
        · have e2 := eqV_d m.block m.parent (decide_eq_true b2)
          simp (disch := omega) only [go_sem, ↓reduceIte, Nat.reduceEqDiff, Nat.reduceAdd, Nat.reduceMul, Nat.reduceSub, Nat.reduceLT, Nat.reduceLeDiff, Nat.reduceBEq, reduceCtorEq, Int.reduceLT, Int.reduceEq, Int.reduceLE, Int.reduceAdd, Int.reduceSub, Int.reduceToNat, Int.reduceNeg, c1, e2]
          exact ⟨vb_false (fun h => h.2.2.1 b2), he⟩
        have e2 := eqV_d m.block m.parent (decide_eq_false b2)
        simp (disch := omega) only [go_sem, ↓reduceIte, Nat.reduceEqDiff, Nat.reduceAdd, Nat.reduceMul, Nat.reduceSub, Nat.reduceLT, Nat.reduceLeDiff, Nat.reduceBEq, reduceCtorEq, Int.reduceLT, Int.reduceEq, Int.reduceLE, Int.reduceAdd, Int.reduceSub, Int.reduceToNat, Int.reduceNeg, c1, e2]
        refine wJ_of (F.movetree_Tree_Path_J h1 hp (by omega)) ?_; rintro pv S2 ⟨hpo, he2⟩
        have c2 := (hx.ext he2).c
        simp (disch := omega) only [go_sem, ↓reduceIte, Nat.reduceEqDiff, Nat.reduceAdd, Nat.reduceMul, Nat.reduceSub, Nat.reduceLT, Nat.reduceLeDiff, Nat.reduceBEq, reduceCtorEq, Int.reduceLT, Int.reduceEq, Int.reduceLE, Int.reduceAdd, Int.reduceSub, Int.reduceToNat, Int.reduceNeg, c2]
        refine wJ_of (F.slices_Contains_dot_J (hpo.sl dotE) (by omega)) ?_; rintro _ _ ⟨rfl, rfl⟩
        simp (disch := omega) only [go_sem, ↓reduceIte, Nat.reduceEqDiff, Nat.reduceAdd, Nat.reduceMul, Nat.reduceSub, Nat.reduceLT, Nat.reduceLeDiff, Nat.reduceBEq, reduceCtorEq, Int.reduceLT, Int.reduceEq, Int.reduceLE, Int.reduceAdd, Int.reduceSub, Int.reduceToNat, Int.reduceNeg]
        exact ⟨vb_not ⟨fun h => ⟨A, B, b2, h⟩, fun h => h.2.2.2⟩, he.trans he2⟩
      have e1 := eqV_d m.block m.id (decide_eq_false b1)
      simp (disch := omega) only [go_sem, ↓reduceIte, Nat.reduceEqDiff, Nat.reduceAdd, Nat.reduceMul, Nat.reduceSub, Nat.reduceLT, Nat.reduceLeDiff, Nat.reduceBEq, reduceCtorEq, Int.reduceLT, Int.reduceEq, Int.reduceLE, Int.reduceAdd, Int.reduceSub, Int.reduceToNat, Int.reduceNeg, c1, e1]
      refine wJ_of (F.movetree_Tree_There_J h1) ?_; rintro _ _ ⟨rfl, rfl⟩
      by_cases t1 : (alook m.block sp).isSome = true
      · have B : m.block = m.id ∨ (alook m.block sp).isSome = true := .inr t1
        simp (disch := omega) only [go_sem, ↓reduceIte, Nat.reduceEqDiff, Nat.reduceAdd, Nat.reduceMul, Nat.reduceSub, Nat.reduceLT, Nat.reduceLeDiff, Nat.reduceBEq, reduceCtorEq, Int.reduceLT, Int.reduceEq, Int.reduceLE, Int.reduceAdd, Int.reduceSub, Int.reduceToNat, Int.reduceNeg, c1, t1]
        by_cases b2 : m.block = m.parent
        · have e2 := eqV_d m.block m.parent (decide_eq_true b2)
          simp (disch := omega) only [go_sem, ↓reduceIte, Nat.reduceEqDiff, Nat.reduceAdd, Nat.reduceMul, Nat.reduceSub, Nat.reduceLT, Nat.reduceLeDiff, Nat.reduceBEq, reduceCtorEq, Int.reduceLT, Int.reduceEq, Int.reduceLE, Int.reduceAdd, Int.reduceSub, Int.reduceToNat, Int.reduceNeg, c1, e2]
          exact ⟨vb_false (fun h => h.2.2.1 b2), he⟩
        have e2 := eqV_d m.block m.parent (decide_eq_false b2)
        simp (disch := omega) only [go_sem, ↓reduceIte, Nat.reduceEqDiff, Nat.reduceAdd, Nat.reduceMul, Nat.reduceSub, Nat.reduceLT, Nat.reduceLeDiff, Nat.reduceBEq, reduceCtorEq, Int.reduceLT, Int.reduceEq, Int.reduceLE, Int.reduceAdd, Int.reduceSub, Int.reduceToNat, Int.reduceNeg, c1, e2]
        refine wJ_of (F.movetree_Tree_Path_J h1 hp (by omega)) ?_; rintro pv S2 ⟨hpo, he2⟩
        have c2 := (hx.ext he2).c
        simp (disch := omega) only [go_sem, ↓reduceIte, Nat.reduceEqDiff, Nat.reduceAdd, Nat.reduceMul, Nat.reduceSub, Nat.reduceLT, Nat.reduceLeDiff, Nat.reduceBEq, reduceCtorEq, Int.reduceLT, Int.reduceEq, Int.reduceLE, Int.reduceAdd, Int.reduceSub, Int.reduceToNat, Int.reduceNeg, c2]
        refine wJ_of (F.slices_Contains_dot_J (hpo.sl dotE) (by omega)) ?_; rintro _ _ ⟨rfl, rfl⟩
        simp (disch := omega) only [go_sem, ↓reduceIte, Nat.reduceEqDiff, Nat.reduceAdd, Nat.reduceMul, Nat.reduceSub, Nat.reduceLT, Nat.reduceLeDiff, Nat.reduceBEq, reduceCtorEq, Int.reduceLT, Int.reduceEq, Int.reduceLE, Int.reduceAdd, Int.reduceSub, Int.reduceToNat, Int.reduceNeg]
        exact ⟨vb_not ⟨fun h => ⟨A, B, b2, h⟩, fun h => h.2.2.2⟩, he.trans he2⟩
      · have t2 : (alook m.block sp).isSome = false := by simpa using t1
        simp (disch := omega) only [go_sem, ↓reduceIte, Nat.reduceEqDiff, Nat.reduceAdd, Nat.reduceMul, Nat.reduceSub, Nat.reduceLT, Nat.reduceLeDiff, Nat.reduceBEq, reduceCtorEq, Int.reduceLT, Int.reduceEq, Int.reduceLE, Int.reduceAdd, Int.reduceSub, Int.reduceToNat, Int.reduceNeg, c1, t2]
        exact ⟨vb_false (fun h => h.2.1.elim b1 (fun g => by first | exact t1 g | exact g)), he⟩
    · have p2 : (alook m.parent sp).isSome = false := by simpa using p1
      simp (disch := omega) only [go_sem, ↓reduceIte, Nat.reduceEqDiff, Nat.reduceAdd, Nat.reduceMul, Nat.reduceSub, Nat.reduceLT, Nat.reduceLeDiff, Nat.reduceBEq, reduceCtorEq, Int.reduceLT, Int.reduceEq, Int.reduceLE, Int.reduceAdd, Int.reduceSub, Int.reduceToNat, Int.reduceNeg, c1, p2]
      exact ⟨vb_false (fun h => h.1.elim a1 (fun g => by first | exact p1 g | exact g)), he⟩
end Go.Osj
