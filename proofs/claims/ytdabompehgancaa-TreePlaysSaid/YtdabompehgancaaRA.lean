/- The document's tree: its functions. -/
import Derived.Test.YtdabompehgancaaQ
set_option linter.unusedVariables false
set_option linter.unusedSimpArgs false
set_option maxHeartbeats 2000000
namespace Go.Osj
def stC (p : Dot × Spot) : List Value := [.int .i64 p.1.1, .int .i64 p.1.2, .int .i64 p.2.1.1, .int .i64 p.2.1.2, .string p.2.2]
def stE : Enc (Dot × Spot) := ⟨stC, 5, fun _ => rfl, fun _ => rfl, by decide⟩
theorem stC_len (p : Dot × Spot) : (stC p).length = 5 := rfl
theorem SlT.stt {S : St} {base : Option Addr} {n cap : Nat} {xs : List (Dot × Spot)} (h : SlT stE S (.slice base n cap) xs) {i : Nat} (hi : i < xs.length) :
    ∃ b off, base = some ⟨b, off, none⟩ ∧ b < S.n ∧ (S.loadN ⟨b, off + i * 5, none⟩ 2 = some [.int .i64 xs[i].1.1, .int .i64 xs[i].1.2] ∧ S.loadN ⟨b, off + i * 5 + 2, none⟩ 2 = some [.int .i64 xs[i].2.1.1, .int .i64 xs[i].2.1.2] ∧ S.cell ⟨b, off + i * 5 + 4, none⟩ = some (.string xs[i].2.2)) ∧
      S.loadN ⟨b, off + i * 5, none⟩ 5 = some (stC xs[i]) := by
  obtain ⟨b, off, h1, h2, h3, h4⟩ := h.at stE (i := i) (x := xs[i]) (by simp)
  have h3' : S.loadN ⟨b, off + i * 5, none⟩ 5 = some (stC xs[i]) := h3
  refine ⟨b, off, h1, h2, ⟨?_, ?_, h4 4 (by decide)⟩, h3'⟩
  · exact St.loadN_sub h3' (k := 0) (m := 2) (by decide)
  · exact St.loadN_sub h3' (k := 2) (m := 2) (by decide)
/-- where a block lies in a row -/
def AtI (sp : Sp) (b : Dot) (k : Int) : Prop := (k = -1 ∧ alook b sp = none) ∨ ∃ (kk : Nat) (s : Spot), k = kk ∧ sp[kk]? = some (b, s) ∧ alook b sp = some s
theorem AtI.iff {sp : Sp} {b : Dot} {k : Int} (h : AtI sp b k) : 0 ≤ k ↔ (alook b sp).isSome = true := by
  rcases h with ⟨rfl, h⟩ | ⟨kk, s, rfl, -, h⟩
  · rw [h]; simp
  · rw [h]; simp
theorem alook_skip {α β : Type} [DecidableEq α] {x : α} : ∀ {m : List (α × β)} {i : Nat}, (∀ p ∈ m.take i, p.1 ≠ x) → alook x m = alook x (m.drop i)
  | _, 0, _ => rfl
  | [], _ + 1, _ => rfl
  | p :: r, i + 1, h => by
    have h1 := h p (by simp)
    rw [List.drop_succ_cons, alook, if_neg (Ne.symm h1)]
    exact alook_skip fun q hq => h q (by simp [hq])
theorem cells3 {S : St} {x : Nat} {rw : Bool} {cap : Nat} {a b c : Value} (h : S.obj x = some (.cells rw cap [a, b, c])) : S.cell ⟨x, 0, none⟩ = some a ∧ S.cell ⟨x, 1, none⟩ = some b ∧ S.cell ⟨x, 2, none⟩ = some c ∧ S.loadN ⟨x, 0, none⟩ 3 = some [a, b, c] := by
  refine ⟨?_, ?_, ?_, ?_⟩
  · rw [St.cell_def, h]; rfl
  · rw [St.cell_def, h]; rfl
  · rw [St.cell_def, h]; rfl
  · rw [St.loadN_def, h]; rfl
theorem F.osierref10_Tree_At_J {S : St} {lv sv tv : Value} {sp : Sp} {b : Dot} (hs : SlT stE S sv sp) (hL : sp.length < 100000) : J PR F.osierref10_Tree_At [.agg #[lv, sv, tv], dotV b] S fun v S' => (∃ k : Int, v = .int .i64 k ∧ AtI sp b k) ∧ S = S' := by
  obtain ⟨base, cap, rfl⟩ := hs.len stE
  refine J.back (J_by PR.mixed F.osierref10_Tree_At.ok (by simp) ?_)
  simp (disch := omega) only [go_sem, ↓reduceIte, Nat.reduceEqDiff, Nat.reduceAdd, Nat.reduceMul, Nat.reduceSub, Nat.reduceLT, Nat.reduceLeDiff, Nat.reduceBEq, reduceCtorEq, Int.reduceLT, Int.reduceEq, Int.reduceLE, Int.reduceAdd, Int.reduceSub, Int.reduceToNat, Int.reduceNeg]
  refine walloc_x [lv, .slice base sp.length cap, tv] fun x S1 e1 ox hx hxn => ?_
  simp (disch := omega) only [go_sem, ↓reduceIte, Nat.reduceEqDiff, Nat.reduceAdd, Nat.reduceMul, Nat.reduceSub, Nat.reduceLT, Nat.reduceLeDiff, Nat.reduceBEq, reduceCtorEq, Int.reduceLT, Int.reduceEq, Int.reduceLE, Int.reduceAdd, Int.reduceSub, Int.reduceToNat, Int.reduceNeg]
  refine walloc_x [.int .i64 b.1, .int .i64 b.2] fun y S2 e2 oy hy hyn => ?_
  have g2 := e1.trans e2
  have cx := cells3 ((e2.obj x hx).trans ox)
  have cy := cells2 oy
  have hs2 := hs.ext stE g2
  simp (disch := omega) only [go_sem, ↓reduceIte, Nat.reduceEqDiff, Nat.reduceAdd, Nat.reduceMul, Nat.reduceSub, Nat.reduceLT, Nat.reduceLeDiff, Nat.reduceBEq, reduceCtorEq, Int.reduceLT, Int.reduceEq, Int.reduceLE, Int.reduceAdd, Int.reduceSub, Int.reduceToNat, Int.reduceNeg]
  refine wC_loop (fun n fr S3 => ∃ i : Nat, n = sp.length - i ∧ i ≤ sp.length ∧ S3 = S2 ∧ fr 2 = ptrV x ∧ fr 3 = ptrV y ∧ fr 5 = .int .i64 (i : Nat) ∧ ∀ p ∈ sp.take i, p.1 ≠ b) sp.length
    ⟨0, by
      have k0 : ∀ p ∈ sp.take 0, p.1 ≠ b := by simp
      simp (disch := omega) only [go_sem, ↓reduceIte, Nat.reduceEqDiff, Nat.reduceAdd, Nat.reduceMul, Nat.reduceSub, Nat.reduceLT, Nat.reduceLeDiff, Nat.reduceBEq, reduceCtorEq, Int.reduceLT, Int.reduceEq, Int.reduceLE, Int.reduceAdd, Int.reduceSub, Int.reduceToNat, Int.reduceNeg]
      repeat' first | assumption | omega | (exact St.Ext.refl _) | (exact List.Perm.refl _) | rfl | (exact .inl trivial) | (exact trivial) | refine And.intro ?_ ?_
      ⟩ ?_
  rintro n fr S3 ⟨i, rfl, hi, rfl, h2, h3, h5, hn⟩
  simp (disch := omega) only [go_sem, ↓reduceIte, Nat.reduceEqDiff, Nat.reduceAdd, Nat.reduceMul, Nat.reduceSub, Nat.reduceLT, Nat.reduceLeDiff, Nat.reduceBEq, reduceCtorEq, Int.reduceLT, Int.reduceEq, Int.reduceLE, Int.reduceAdd, Int.reduceSub, Int.reduceToNat, Int.reduceNeg, F.osierref10_Tree_At.l0, h2, h3, h5, cx]
  refine wcond_dec (fun hlt => ?_) (fun hge => ?_)
  · have hx : i < sp.length := by omega
    have c1 : (0 : Int) ≤ (i : Int) ∧ (i : Int) < (sp.length : Int) := by omega
    obtain ⟨b0, o0, rfl, hb, ⟨x1, -⟩, -⟩ := hs2.stt hx
    have eq := eqV_dot sp[i].1 b
    simp (disch := omega) only [go_sem, ↓reduceIte, Nat.reduceEqDiff, Nat.reduceAdd, Nat.reduceMul, Nat.reduceSub, Nat.reduceLT, Nat.reduceLeDiff, Nat.reduceBEq, reduceCtorEq, Int.reduceLT, Int.reduceEq, Int.reduceLE, Int.reduceAdd, Int.reduceSub, Int.reduceToNat, Int.reduceNeg, h2, h3, h5, cx, cy, c1, x1, eq]
    refine wcond_dec (fun hq => ?_) (fun hq => ?_)
    · simp (disch := omega) only [go_sem, ↓reduceIte, Nat.reduceEqDiff, Nat.reduceAdd, Nat.reduceMul, Nat.reduceSub, Nat.reduceLT, Nat.reduceLeDiff, Nat.reduceBEq, reduceCtorEq, Int.reduceLT, Int.reduceEq, Int.reduceLE, Int.reduceAdd, Int.reduceSub, Int.reduceToNat, Int.reduceNeg, h5]
      refine ⟨⟨i, rfl, .inr ⟨i, sp[i].2, rfl, ?_, ?_⟩⟩, g2⟩
      · rw [List.getElem?_eq_getElem hx]
        congr 1
        exact Prod.ext hq rfl
      · rw [alook_skip hn, List.drop_eq_getElem_cons hx, alook, if_pos hq.symm]
    · simp (disch := omega) only [go_sem, ↓reduceIte, Nat.reduceEqDiff, Nat.reduceAdd, Nat.reduceMul, Nat.reduceSub, Nat.reduceLT, Nat.reduceLeDiff, Nat.reduceBEq, reduceCtorEq, Int.reduceLT, Int.reduceEq, Int.reduceLE, Int.reduceAdd, Int.reduceSub, Int.reduceToNat, Int.reduceNeg, h2, h3, h5]
      have k0 : ∀ p ∈ sp.take (i + 1), p.1 ≠ b := by
        rw [take_snoc (List.getElem?_eq_getElem hx)]
        intro p hp
        rcases List.mem_append.1 hp with hp | hp
        · exact hn p hp
        · obtain rfl : p = sp[i] := by simpa using hp
          exact hq
      refine ⟨sp.length - (i + 1), by omega, i + 1, ?_⟩
      repeat' first | assumption | omega | (exact St.Ext.refl _) | (exact List.Perm.refl _) | rfl | (exact .inl trivial) | (exact trivial) | refine And.intro ?_ ?_
  · simp (disch := omega) only [go_sem, ↓reduceIte, Nat.reduceEqDiff, Nat.reduceAdd, Nat.reduceMul, Nat.reduceSub, Nat.reduceLT, Nat.reduceLeDiff, Nat.reduceBEq, reduceCtorEq, Int.reduceLT, Int.reduceEq, Int.reduceLE, Int.reduceAdd, Int.reduceSub, Int.reduceToNat, Int.reduceNeg]
    rw [List.take_of_length_le (by omega)] at hn
    exact ⟨⟨-1, rfl, .inl ⟨rfl, alook_none.2 fun h => by obtain ⟨p, hp, e⟩ := List.mem_map.1 h; exact hn p hp e⟩⟩, g2⟩
theorem F.osierref10_Tree_Path_J {S : St} {lv sv tv : Value} {sp : Sp} {b : Dot} (hs : SlT stE S sv sp) (ok : OkS sp) (hL : sp.length < 100000) : J PR F.osierref10_Tree_Path [.agg #[lv, sv, tv], dotV b] S fun v S' => OwnT dotE S.n S' v (pathA sp b) ∧ S.Ext S' := by
  obtain ⟨base, cap, rfl⟩ := hs.len stE
  have hp0 := ok.pth b
  have hpl := hp0.len
  refine J_by PR.mixed F.osierref10_Tree_Path.ok (by simp) ?_
  simp (disch := omega) only [go_sem, ↓reduceIte, Nat.reduceEqDiff, Nat.reduceAdd, Nat.reduceMul, Nat.reduceSub, Nat.reduceLT, Nat.reduceLeDiff, Nat.reduceBEq, reduceCtorEq, Int.reduceLT, Int.reduceEq, Int.reduceLE, Int.reduceAdd, Int.reduceSub, Int.reduceToNat, Int.reduceNeg]
  refine walloc_x [lv, .slice base sp.length cap, tv] fun x S1 e1 ox hx hxn => ?_
  simp (disch := omega) only [go_sem, ↓reduceIte, Nat.reduceEqDiff, Nat.reduceAdd, Nat.reduceMul, Nat.reduceSub, Nat.reduceLT, Nat.reduceLeDiff, Nat.reduceBEq, reduceCtorEq, Int.reduceLT, Int.reduceEq, Int.reduceLE, Int.reduceAdd, Int.reduceSub, Int.reduceToNat, Int.reduceNeg]
  refine walloc_x [.int .i64 b.1, .int .i64 b.2] fun y S2 e2 oy hy hyn => ?_
  have g2 := e1.trans e2
  have ox2 := (e2.obj x hx).trans ox
  have hx2 := Nat.lt_of_lt_of_le hx e2.n
  have cx := cells3 ox2
  have cy := cells2 oy
  have hs2 := hs.ext stE g2
  simp (disch := omega) only [go_sem, ↓reduceIte, Nat.reduceEqDiff, Nat.reduceAdd, Nat.reduceMul, Nat.reduceSub, Nat.reduceLT, Nat.reduceLeDiff, Nat.reduceBEq, reduceCtorEq, Int.reduceLT, Int.reduceEq, Int.reduceLE, Int.reduceAdd, Int.reduceSub, Int.reduceToNat, Int.reduceNeg, cx, cy]
  refine wJ_of (F.osierref10_Tree_At_J hs2 hL) ?_; rintro _ _ ⟨⟨k0, rfl, hk0⟩, rfl⟩
  simp (disch := omega) only [go_sem, ↓reduceIte, Nat.reduceEqDiff, Nat.reduceAdd, Nat.reduceMul, Nat.reduceSub, Nat.reduceLT, Nat.reduceLeDiff, Nat.reduceBEq, reduceCtorEq, Int.reduceLT, Int.reduceEq, Int.reduceLE, Int.reduceAdd, Int.reduceSub, Int.reduceToNat, Int.reduceNeg]
  refine wC_loop (fun n fr S3 => ∃ (cur : Dot) (k : Int) (rest done : List Dot) (v : Value), n = rest.length ∧ pathA sp b = done ++ rest ∧ Pth sp cur rest ∧ AtI sp cur k ∧ fr 2 = ptrV x ∧ fr 5 = v ∧ fr 6 = .int .i64 k ∧ OwnT dotE S2.n S3 v done ∧ S2.Ext S3) (pathA sp b).length
    ⟨b, k0, pathA sp b, [], nilS, by
      have q1 : pathA sp b = [] ++ pathA sp b := rfl
      have q2 : OwnT dotE S2.n S2 nilS [] := OwnT.nil dotE _ _
      simp (disch := omega) only [go_sem, ↓reduceIte, Nat.reduceEqDiff, Nat.reduceAdd, Nat.reduceMul, Nat.reduceSub, Nat.reduceLT, Nat.reduceLeDiff, Nat.reduceBEq, reduceCtorEq, Int.reduceLT, Int.reduceEq, Int.reduceLE, Int.reduceAdd, Int.reduceSub, Int.reduceToNat, Int.reduceNeg]
      repeat' first | assumption | omega | (exact St.Ext.refl _) | (exact List.Perm.refl _) | rfl | (exact .inl trivial) | (exact trivial) | refine And.intro ?_ ?_
      ⟩ ?_
  rintro n fr S3 ⟨cur, k, rest, done, v, rfl, hl, hpc, hk, h2, h5, h6, ho, e3⟩
  have hlen := congrArg List.length hl
  simp only [List.length_append] at hlen
  have cx3 := cells3 ((e3.obj x hx2).trans ox2)
  obtain ⟨bv, cv, hv⟩ := (ho.sl dotE).len dotE
  have hs3 := hs2.ext stE e3
  subst hv
  simp (disch := omega) only [go_sem, ↓reduceIte, Nat.reduceEqDiff, Nat.reduceAdd, Nat.reduceMul, Nat.reduceSub, Nat.reduceLT, Nat.reduceLeDiff, Nat.reduceBEq, reduceCtorEq, Int.reduceLT, Int.reduceEq, Int.reduceLE, Int.reduceAdd, Int.reduceSub, Int.reduceToNat, Int.reduceNeg, F.osierref10_Tree_Path.l0, h2, h5, h6, cx3]
  cases hpc with
  | stop hn =>
    have hk1 : k = -1 := by
      rcases hk with ⟨h, -⟩ | ⟨_, _, _, _, h⟩
      · exact h
      · rw [hn] at h; cases h
    subst hk1
    simp (disch := omega) only [go_sem, ↓reduceIte, Nat.reduceEqDiff, Nat.reduceAdd, Nat.reduceMul, Nat.reduceSub, Nat.reduceLT, Nat.reduceLeDiff, Nat.reduceBEq, reduceCtorEq, Int.reduceLT, Int.reduceEq, Int.reduceLE, Int.reduceAdd, Int.reduceSub, Int.reduceToNat, Int.reduceNeg, h5]
    rw [List.append_nil] at hl
    rw [hl]
    exact ⟨ho.mono dotE g2.n, g2.trans e3⟩
  | @up _ s rest' hsm hr =>
    obtain ⟨kk, s', rfl, hkk, hs'⟩ : ∃ (kk : Nat) (s : Spot), k = kk ∧ sp[kk]? = some (cur, s) ∧ alook cur sp = some s := by
      rcases hk with ⟨_, h⟩ | h
      · rw [hsm] at h; cases h
      · exact h
    rw [hsm] at hs'
    injection hs' with hs'
    subst hs'
    have hlk := (List.getElem?_eq_some_iff.1 hkk).1
    have hge : (List.getElem?_eq_some_iff.1 hkk).2 = (List.getElem?_eq_some_iff.1 hkk).2 := rfl
    have hel : sp[kk] = (cur, s) := (List.getElem?_eq_some_iff.1 hkk).2
    simp only [List.length_cons] at hlen
    have d0 : (0 : Int) ≤ (kk : Int) := by omega
    have d1 : (done.length : Int) ≤ (sp.length : Int) := by omega
    have c1 : (0 : Int) ≤ (kk : Int) ∧ (kk : Int) < (sp.length : Int) := by omega
    obtain ⟨b0, o0, rfl, hb, ⟨-, x2, -⟩, -⟩ := hs3.stt hlk
    rw [hel] at x2
    simp (disch := omega) only [go_sem, ↓reduceIte, Nat.reduceEqDiff, Nat.reduceAdd, Nat.reduceMul, Nat.reduceSub, Nat.reduceLT, Nat.reduceLeDiff, Nat.reduceBEq, reduceCtorEq, Int.reduceLT, Int.reduceEq, Int.reduceLE, Int.reduceAdd, Int.reduceSub, Int.reduceToNat, Int.reduceNeg, d0, d1, h2, h5, h6, c1, cx3, x2]
    refine walloc_sl [.int .i64 s.1.1, .int .i64 s.1.2] fun u S4 e4 ou hu hun => ?_
    simp (disch := omega) only [go_sem, ↓reduceIte, Nat.reduceEqDiff, Nat.reduceAdd, Nat.reduceMul, Nat.reduceSub, Nat.reduceLT, Nat.reduceLeDiff, Nat.reduceBEq, reduceCtorEq, Int.reduceLT, Int.reduceEq, Int.reduceLE, Int.reduceAdd, Int.reduceSub, Int.reduceToNat, Int.reduceNeg, h5]
    have hlit : SlT dotE S4 (.slice (some ⟨u, 0, none⟩) 1 1) [s.1] := ⟨_, 1, rfl, Nat.le_refl _, .inr rfl, fun _ => ⟨u, 0, rfl, hu, by rw [St.loadN_def, ou]; rfl⟩⟩
    refine wE_app dotE (bytes := 16) (xs := done) (ys := [s.1]) (ho.ext dotE e4) hlit rfl rfl (Nat.le_trans e3.n e4.n) (by simp only [List.length_singleton]; omega) (by simp only [List.length_singleton]; omega) fun v8 S8 ho8 hb8 hv8 => ?_
    have k8 : S2.Ext S8 := (e3.trans e4).but hb8 fun j hj => (ho.blk dotE j hj).1
    have cx8 := cells3 ((k8.obj x hx2).trans ox2)
    obtain ⟨b0', o0', hbb, hb', ⟨-, x2', -⟩, -⟩ := (hs2.stt hlk : ∃ b off, _)
    injection hbb with hbb
    injection hbb with hb1 hb2
    subst hb1 hb2
    have x8 : S8.loadN ⟨b0, o0 + kk * 5 + 2, none⟩ 2 = some [.int .i64 s.1.1, .int .i64 s.1.2] := by
      rw [k8.loadN hb', x2', hel]
    simp (disch := omega) only [go_sem, ↓reduceIte, Nat.reduceEqDiff, Nat.reduceAdd, Nat.reduceMul, Nat.reduceSub, Nat.reduceLT, Nat.reduceLeDiff, Nat.reduceBEq, reduceCtorEq, Int.reduceLT, Int.reduceEq, Int.reduceLE, Int.reduceAdd, Int.reduceSub, Int.reduceToNat, Int.reduceNeg, h2, h6, c1, cx8, x8]
    refine wJ_of (F.osierref10_Tree_At_J (b := s.1) (hs2.ext stE k8) hL) ?_; rintro _ _ ⟨⟨k', rfl, hk'⟩, rfl⟩
    simp (disch := omega) only [go_sem, ↓reduceIte, Nat.reduceEqDiff, Nat.reduceAdd, Nat.reduceMul, Nat.reduceSub, Nat.reduceLT, Nat.reduceLeDiff, Nat.reduceBEq, reduceCtorEq, Int.reduceLT, Int.reduceEq, Int.reduceLE, Int.reduceAdd, Int.reduceSub, Int.reduceToNat, Int.reduceNeg, h2]
    refine ⟨rest'.length, by simp, s.1, k', rest', done ++ [s.1], v8, ?_⟩
    have q1 : pathA sp b = done ++ [s.1] ++ rest' := by rw [hl]; simp
    repeat' first | assumption | omega | (exact St.Ext.refl _) | (exact List.Perm.refl _) | rfl | (exact .inl trivial) | (exact trivial) | refine And.intro ?_ ?_
theorem F.osierref10_root_J {S : St} : J PR F.osierref10_root [] S fun v S' => v = dotV (0, -1) ∧ S = S' := by
  refine J.back (J_by PR.mixed F.osierref10_root.ok (by simp) ?_)
  simp (disch := omega) only [go_sem, ↓reduceIte, Nat.reduceEqDiff, Nat.reduceAdd, Nat.reduceMul, Nat.reduceSub, Nat.reduceLT, Nat.reduceLeDiff, Nat.reduceBEq, reduceCtorEq, Int.reduceLT, Int.reduceEq, Int.reduceLE, Int.reduceAdd, Int.reduceSub, Int.reduceToNat, Int.reduceNeg]
  refine wfresh_of fun x hx => ?_
  simp (disch := omega) only [go_sem, ↓reduceIte, Nat.reduceEqDiff, Nat.reduceAdd, Nat.reduceMul, Nat.reduceSub, Nat.reduceLT, Nat.reduceLeDiff, Nat.reduceBEq, reduceCtorEq, Int.reduceLT, Int.reduceEq, Int.reduceLE, Int.reduceAdd, Int.reduceSub, Int.reduceToNat, Int.reduceNeg]
  exact (St.Ext.refl S).put hx _
theorem F.osierref10_trash_J {S : St} : J PR F.osierref10_trash [] S fun v S' => v = dotV (0, -2) ∧ S = S' := by
  refine J.back (J_by PR.mixed F.osierref10_trash.ok (by simp) ?_)
  simp (disch := omega) only [go_sem, ↓reduceIte, Nat.reduceEqDiff, Nat.reduceAdd, Nat.reduceMul, Nat.reduceSub, Nat.reduceLT, Nat.reduceLeDiff, Nat.reduceBEq, reduceCtorEq, Int.reduceLT, Int.reduceEq, Int.reduceLE, Int.reduceAdd, Int.reduceSub, Int.reduceToNat, Int.reduceNeg]
  refine wfresh_of fun x hx => ?_
  simp (disch := omega) only [go_sem, ↓reduceIte, Nat.reduceEqDiff, Nat.reduceAdd, Nat.reduceMul, Nat.reduceSub, Nat.reduceLT, Nat.reduceLeDiff, Nat.reduceBEq, reduceCtorEq, Int.reduceLT, Int.reduceEq, Int.reduceLE, Int.reduceAdd, Int.reduceSub, Int.reduceToNat, Int.reduceNeg]
  exact (St.Ext.refl S).put hx _
theorem F.osierref10_ends_J {S : St} {d : Dot} : J PR F.osierref10_ends [dotV d] S fun v S' => v = .bool (decide (alwaysP d)) ∧ S = S' := by
  refine J.back (J_by PR.mixed F.osierref10_ends.ok (by simp) ?_)
  simp (disch := omega) only [go_sem, ↓reduceIte, Nat.reduceEqDiff, Nat.reduceAdd, Nat.reduceMul, Nat.reduceSub, Nat.reduceLT, Nat.reduceLeDiff, Nat.reduceBEq, reduceCtorEq, Int.reduceLT, Int.reduceEq, Int.reduceLE, Int.reduceAdd, Int.reduceSub, Int.reduceToNat, Int.reduceNeg]
  refine wfresh_of fun x hx => ?_
  have he := (St.Ext.refl S).put hx (.cells true 2 [.int .i64 d.1, .int .i64 d.2])
  simp (disch := omega) only [go_sem, ↓reduceIte, Nat.reduceEqDiff, Nat.reduceAdd, Nat.reduceMul, Nat.reduceSub, Nat.reduceLT, Nat.reduceLeDiff, Nat.reduceBEq, reduceCtorEq, Int.reduceLT, Int.reduceEq, Int.reduceLE, Int.reduceAdd, Int.reduceSub, Int.reduceToNat, Int.reduceNeg]
  refine wJ_of F.osierref10_root_J ?_; rintro _ _ ⟨rfl, rfl⟩
  by_cases h1 : d = rootD
  · have e1 := eqV_d d (0, -1) (decide_eq_true h1)
    simp (disch := omega) only [go_sem, ↓reduceIte, Nat.reduceEqDiff, Nat.reduceAdd, Nat.reduceMul, Nat.reduceSub, Nat.reduceLT, Nat.reduceLeDiff, Nat.reduceBEq, reduceCtorEq, Int.reduceLT, Int.reduceEq, Int.reduceLE, Int.reduceAdd, Int.reduceSub, Int.reduceToNat, Int.reduceNeg, e1]
    exact ⟨vb_true (.inl h1), he⟩
  · have e1 := eqV_d d (0, -1) (decide_eq_false h1)
    simp (disch := omega) only [go_sem, ↓reduceIte, Nat.reduceEqDiff, Nat.reduceAdd, Nat.reduceMul, Nat.reduceSub, Nat.reduceLT, Nat.reduceLeDiff, Nat.reduceBEq, reduceCtorEq, Int.reduceLT, Int.reduceEq, Int.reduceLE, Int.reduceAdd, Int.reduceSub, Int.reduceToNat, Int.reduceNeg, e1]
    refine wJ_of F.osierref10_trash_J ?_; rintro _ _ ⟨rfl, rfl⟩
    have e2 := eqV_dot d (0, -2)
    simp (disch := omega) only [go_sem, ↓reduceIte, Nat.reduceEqDiff, Nat.reduceAdd, Nat.reduceMul, Nat.reduceSub, Nat.reduceLT, Nat.reduceLeDiff, Nat.reduceBEq, reduceCtorEq, Int.reduceLT, Int.reduceEq, Int.reduceLE, Int.reduceAdd, Int.reduceSub, Int.reduceToNat, Int.reduceNeg, e2]
    exact ⟨vb_dec ⟨fun h => .inr h, fun h => h.resolve_left h1⟩, he⟩
/-- a document's move in a block -/
def rmB (S : St) (x : Nat) (m : Mv) : Prop := x < S.n ∧ S.obj x = some (.cells true 8 (rmC m))
abbrev rmV (m : Mv) : Value := .agg (rmC m).toArray
theorem rmB.ext {S S' : St} {x : Nat} {m : Mv} (h : rmB S x m) (he : S.Ext S') : rmB S' x m := ⟨Nat.lt_of_lt_of_le h.1 he.n, (he.obj x h.1).trans h.2⟩
theorem rmB.c {S : St} {x : Nat} {m : Mv} (h : rmB S x m) :
    (S.cell ⟨x, 2, none⟩ = some (.int .i64 m.time) ∧ S.cell ⟨x, 7, none⟩ = some (.string m.key)) ∧
    (S.loadN ⟨x, 0, none⟩ 2 = some [.int .i64 m.id.1, .int .i64 m.id.2] ∧ S.loadN ⟨x, 3, none⟩ 2 = some [.int .i64 m.block.1, .int .i64 m.block.2] ∧ S.loadN ⟨x, 5, none⟩ 2 = some [.int .i64 m.parent.1, .int .i64 m.parent.2]) ∧
    S.loadN ⟨x, 0, none⟩ 8 = some (rmC m) := by
  simp only [St.cell_def, St.loadN_def, h.2]
  simp [rmC]
theorem wE_boxR {fr : Fr} {S : St} {x : Operand} {k : KV} {m : Mv} (hx : ev fr x = rmV m) (hk : ∀ w S1, S.Ext S1 → rmB S1 w m → S.n ≤ w → k.run (ptrV w) S1) :
    @wfresh S.n ⟨fun b => k.run (.pointer (some ⟨b, 0, none⟩)) (S.put b (.cells true (ev fr x).cells.toList.length (ev fr x).cells.toList))⟩ := by
  refine wfresh_of fun b hb => ?_
  rw [hx]
  exact hk b _ ((St.Ext.refl S).put hb _) ⟨St.lt_put_self _ _ _, St.put_same _ _ _⟩ hb
theorem F.osierref10_ahead_J {S : St} {a b : Mv} : J PR F.osierref10_ahead [rmV a, rmV b] S fun v S' => v = .bool (decide (aheadM a b)) ∧ S = S' := by
  refine J.back (J_by PR.mixed F.osierref10_ahead.ok (by simp) ?_)
  simp (disch := omega) only [go_sem, ↓reduceIte, Nat.reduceEqDiff, Nat.reduceAdd, Nat.reduceMul, Nat.reduceSub, Nat.reduceLT, Nat.reduceLeDiff, Nat.reduceBEq, reduceCtorEq, Int.reduceLT, Int.reduceEq, Int.reduceLE, Int.reduceAdd, Int.reduceSub, Int.reduceToNat, Int.reduceNeg]
  refine wE_boxR (m := a) rfl fun x S1 he1 hx hxn => ?_
  simp (disch := omega) only [go_sem, ↓reduceIte, Nat.reduceEqDiff, Nat.reduceAdd, Nat.reduceMul, Nat.reduceSub, Nat.reduceLT, Nat.reduceLeDiff, Nat.reduceBEq, reduceCtorEq, Int.reduceLT, Int.reduceEq, Int.reduceLE, Int.reduceAdd, Int.reduceSub, Int.reduceToNat, Int.reduceNeg]
  refine wE_boxR (m := b) rfl fun y S2 he2 hy hyn => ?_
  have cx := (hx.ext he2).c
  have cy := hy.c
  simp (disch := omega) only [go_sem, ↓reduceIte, Nat.reduceEqDiff, Nat.reduceAdd, Nat.reduceMul, Nat.reduceSub, Nat.reduceLT, Nat.reduceLeDiff, Nat.reduceBEq, reduceCtorEq, Int.reduceLT, Int.reduceEq, Int.reduceLE, Int.reduceAdd, Int.reduceSub, Int.reduceToNat, Int.reduceNeg, cx, cy]
  unfold aheadM
  refine wcond_dec (fun h => ?_) (fun h => ?_)
  · simp (disch := omega) only [go_sem, ↓reduceIte, Nat.reduceEqDiff, Nat.reduceAdd, Nat.reduceMul, Nat.reduceSub, Nat.reduceLT, Nat.reduceLeDiff, Nat.reduceBEq, reduceCtorEq, Int.reduceLT, Int.reduceEq, Int.reduceLE, Int.reduceAdd, Int.reduceSub, Int.reduceToNat, Int.reduceNeg, cx, cy]
    refine wJ_of (F.osierref03_Less_P (a := a.id) (b := b.id)) ?_; rintro _ _ ⟨rfl, rfl⟩
    simp (disch := omega) only [go_sem, ↓reduceIte, Nat.reduceEqDiff, Nat.reduceAdd, Nat.reduceMul, Nat.reduceSub, Nat.reduceLT, Nat.reduceLeDiff, Nat.reduceBEq, reduceCtorEq, Int.reduceLT, Int.reduceEq, Int.reduceLE, Int.reduceAdd, Int.reduceSub, Int.reduceToNat, Int.reduceNeg]
    exact ⟨vb_dec ⟨fun g => .inr ⟨h, g⟩, fun g => g.elim (fun g => by omega) fun g => g.2⟩, he1.trans he2⟩
  · simp (disch := omega) only [go_sem, ↓reduceIte, Nat.reduceEqDiff, Nat.reduceAdd, Nat.reduceMul, Nat.reduceSub, Nat.reduceLT, Nat.reduceLeDiff, Nat.reduceBEq, reduceCtorEq, Int.reduceLT, Int.reduceEq, Int.reduceLE, Int.reduceAdd, Int.reduceSub, Int.reduceToNat, Int.reduceNeg, cx, cy]
    exact ⟨vb_dec ⟨fun g => .inl g, fun g => g.elim id fun g => absurd g.1 h⟩, he1.trans he2⟩
theorem F.osierref10_Tree_takes_J {S : St} {lv sv tv : Value} {sp : Sp} {m : Mv} (hs : SlT stE S sv sp) (ok : OkS sp) (hL : sp.length < 100000) : J PR F.osierref10_Tree_takes [.agg #[lv, sv, tv], rmV m] S fun v S' => v = .bool (decide (takesP sp m)) ∧ S = S' := by
  obtain ⟨base, cap, rfl⟩ := hs.len stE
  have hp := ok.pth m.parent
  have hpl := hp.len
  refine J.back (J_by PR.mixed F.osierref10_Tree_takes.ok (by simp) ?_)
  simp (disch := omega) only [go_sem, ↓reduceIte, Nat.reduceEqDiff, Nat.reduceAdd, Nat.reduceMul, Nat.reduceSub, Nat.reduceLT, Nat.reduceLeDiff, Nat.reduceBEq, reduceCtorEq, Int.reduceLT, Int.reduceEq, Int.reduceLE, Int.reduceAdd, Int.reduceSub, Int.reduceToNat, Int.reduceNeg]
  refine walloc_x [lv, .slice base sp.length cap, tv] fun x S1 e1 ox hx hxn => ?_
  simp (disch := omega) only [go_sem, ↓reduceIte, Nat.reduceEqDiff, Nat.reduceAdd, Nat.reduceMul, Nat.reduceSub, Nat.reduceLT, Nat.reduceLeDiff, Nat.reduceBEq, reduceCtorEq, Int.reduceLT, Int.reduceEq, Int.reduceLE, Int.reduceAdd, Int.reduceSub, Int.reduceToNat, Int.reduceNeg]
  refine wE_boxR (m := m) rfl fun y S2 e2 hy hyn => ?_
  have g2 := e1.trans e2
  have cx := cells3 ((e2.obj x hx).trans ox)
  have cy := hy.c
  have hs2 := hs.ext stE g2
  simp (disch := omega) only [go_sem, ↓reduceIte, Nat.reduceEqDiff, Nat.reduceAdd, Nat.reduceMul, Nat.reduceSub, Nat.reduceLT, Nat.reduceLeDiff, Nat.reduceBEq, reduceCtorEq, Int.reduceLT, Int.reduceEq, Int.reduceLE, Int.reduceAdd, Int.reduceSub, Int.reduceToNat, Int.reduceNeg, cx, cy]
  refine wJ_of (F.osierref10_Tree_At_J hs2 hL) ?_; rintro _ _ ⟨⟨k1, rfl, hk1⟩, rfl⟩
  simp (disch := omega) only [go_sem, ↓reduceIte, Nat.reduceEqDiff, Nat.reduceAdd, Nat.reduceMul, Nat.reduceSub, Nat.reduceLT, Nat.reduceLeDiff, Nat.reduceBEq, reduceCtorEq, Int.reduceLT, Int.reduceEq, Int.reduceLE, Int.reduceAdd, Int.reduceSub, Int.reduceToNat, Int.reduceNeg, cx, cy]
  refine wJ_of (F.osierref10_Tree_At_J hs2 hL) ?_; rintro _ _ ⟨⟨k2, rfl, hk2⟩, rfl⟩
  simp (disch := omega) only [go_sem, ↓reduceIte, Nat.reduceEqDiff, Nat.reduceAdd, Nat.reduceMul, Nat.reduceSub, Nat.reduceLT, Nat.reduceLeDiff, Nat.reduceBEq, reduceCtorEq, Int.reduceLT, Int.reduceEq, Int.reduceLE, Int.reduceAdd, Int.reduceSub, Int.reduceToNat, Int.reduceNeg, cx, cy]
  refine wJ_of F.osierref10_ends_J ?_; rintro _ _ ⟨rfl, rfl⟩
  have i1 : decide (0 ≤ k1) = (alook m.parent sp).isSome := by rw [Bool.eq_iff_iff, decide_eq_true_eq]; exact hk1.iff
  have i2 : decide (0 ≤ k2) = (alook m.block sp).isSome := by rw [Bool.eq_iff_iff, decide_eq_true_eq]; exact hk2.iff
  unfold takesP
  by_cases a1 : alwaysP m.parent
  · have d1 : decide (alwaysP m.parent) = true := decide_eq_true a1
    have A : alwaysP m.parent ∨ (alook m.parent sp).isSome = true := .inl a1
    simp (disch := omega) only [go_sem, ↓reduceIte, Nat.reduceEqDiff, Nat.reduceAdd, Nat.reduceMul, Nat.reduceSub, Nat.reduceLT, Nat.reduceLeDiff, Nat.reduceBEq, reduceCtorEq, Int.reduceLT, Int.reduceEq, Int.reduceLE, Int.reduceAdd, Int.reduceSub, Int.reduceToNat, Int.reduceNeg, cx, cy, i1, i2, d1]
    by_cases b1 : m.block = m.id
    · have B : m.block = m.id ∨ (alook m.block sp).isSome = true := .inl b1
      have e1 := eqV_d m.block m.id (decide_eq_true b1)
      simp (disch := omega) only [go_sem, ↓reduceIte, Nat.reduceEqDiff, Nat.reduceAdd, Nat.reduceMul, Nat.reduceSub, Nat.reduceLT, Nat.reduceLeDiff, Nat.reduceBEq, reduceCtorEq, Int.reduceLT, Int.reduceEq, Int.reduceLE, Int.reduceAdd, Int.reduceSub, Int.reduceToNat, Int.reduceNeg, cx, cy, e1]
      by_cases b2 : m.block = m.parent
      · have e2 := eqV_d m.block m.parent (decide_eq_true b2)
        simp (disch := omega) only [go_sem, ↓reduceIte, Nat.reduceEqDiff, Nat.reduceAdd, Nat.reduceMul, Nat.reduceSub, Nat.reduceLT, Nat.reduceLeDiff, Nat.reduceBEq, reduceCtorEq, Int.reduceLT, Int.reduceEq, Int.reduceLE, Int.reduceAdd, Int.reduceSub, Int.reduceToNat, Int.reduceNeg, cx, cy, e2]
        exact ⟨vb_false (fun h => h.2.2.1 b2), g2⟩
      have e2 := eqV_d m.block m.parent (decide_eq_false b2)
      simp (disch := omega) only [go_sem, ↓reduceIte, Nat.reduceEqDiff, Nat.reduceAdd, Nat.reduceMul, Nat.reduceSub, Nat.reduceLT, Nat.reduceLeDiff, Nat.reduceBEq, reduceCtorEq, Int.reduceLT, Int.reduceEq, Int.reduceLE, Int.reduceAdd, Int.reduceSub, Int.reduceToNat, Int.reduceNeg, cx, cy, e2]
      refine wJ_of (F.osierref10_Tree_Path_J hs2 ok hL) ?_; rintro pv S3 ⟨hpo, e3⟩
      have cy3 := (hy.ext e3).c
      simp (disch := omega) only [go_sem, ↓reduceIte, Nat.reduceEqDiff, Nat.reduceAdd, Nat.reduceMul, Nat.reduceSub, Nat.reduceLT, Nat.reduceLeDiff, Nat.reduceBEq, reduceCtorEq, Int.reduceLT, Int.reduceEq, Int.reduceLE, Int.reduceAdd, Int.reduceSub, Int.reduceToNat, Int.reduceNeg, cy3]
      refine wJ_of (F.osierref03_In_P (hpo.sl dotE) (by omega)) ?_; rintro _ _ ⟨rfl, rfl⟩
      simp (disch := omega) only [go_sem, ↓reduceIte, Nat.reduceEqDiff, Nat.reduceAdd, Nat.reduceMul, Nat.reduceSub, Nat.reduceLT, Nat.reduceLeDiff, Nat.reduceBEq, reduceCtorEq, Int.reduceLT, Int.reduceEq, Int.reduceLE, Int.reduceAdd, Int.reduceSub, Int.reduceToNat, Int.reduceNeg]
      exact ⟨vb_not ⟨fun h => ⟨A, B, b2, h⟩, fun h => h.2.2.2⟩, g2.trans e3⟩
    have e1 := eqV_d m.block m.id (decide_eq_false b1)
    by_cases t1 : (alook m.block sp).isSome = true
    · have B : m.block = m.id ∨ (alook m.block sp).isSome = true := .inr t1
      simp (disch := omega) only [go_sem, ↓reduceIte, Nat.reduceEqDiff, Nat.reduceAdd, Nat.reduceMul, Nat.reduceSub, Nat.reduceLT, Nat.reduceLeDiff, Nat.reduceBEq, reduceCtorEq, Int.reduceLT, Int.reduceEq, Int.reduceLE, Int.reduceAdd, Int.reduceSub, Int.reduceToNat, Int.reduceNeg, cx, cy, e1, t1]
      by_cases b2 : m.block = m.parent
      · have e2 := eqV_d m.block m.parent (decide_eq_true b2)
        simp (disch := omega) only [go_sem, ↓reduceIte, Nat.reduceEqDiff, Nat.reduceAdd, Nat.reduceMul, Nat.reduceSub, Nat.reduceLT, Nat.reduceLeDiff, Nat.reduceBEq, reduceCtorEq, Int.reduceLT, Int.reduceEq, Int.reduceLE, Int.reduceAdd, Int.reduceSub, Int.reduceToNat, Int.reduceNeg, cx, cy, e2]
        exact ⟨vb_false (fun h => h.2.2.1 b2), g2⟩
      have e2 := eqV_d m.block m.parent (decide_eq_false b2)
      simp (disch := omega) only [go_sem, ↓reduceIte, Nat.reduceEqDiff, Nat.reduceAdd, Nat.reduceMul, Nat.reduceSub, Nat.reduceLT, Nat.reduceLeDiff, Nat.reduceBEq, reduceCtorEq, Int.reduceLT, Int.reduceEq, Int.reduceLE, Int.reduceAdd, Int.reduceSub, Int.reduceToNat, Int.reduceNeg, cx, cy, e2]
      refine wJ_of (F.osierref10_Tree_Path_J hs2 ok hL) ?_; rintro pv S3 ⟨hpo, e3⟩
      have cy3 := (hy.ext e3).c
      simp (disch := omega) only [go_sem, ↓reduceIte, Nat.reduceEqDiff, Nat.reduceAdd, Nat.reduceMul, Nat.reduceSub, Nat.reduceLT, Nat.reduceLeDiff, Nat.reduceBEq, reduceCtorEq, Int.reduceLT, Int.reduceEq, Int.reduceLE, Int.reduceAdd, Int.reduceSub, Int.reduceToNat, Int.reduceNeg, cy3]
      refine wJ_of (F.osierref03_In_P (hpo.sl dotE) (by omega)) ?_; rintro _ _ ⟨rfl, rfl⟩
      simp (disch := omega) only [go_sem, ↓reduceIte, Nat.reduceEqDiff, Nat.reduceAdd, Nat.reduceMul, Nat.reduceSub, Nat.reduceLT, Nat.reduceLeDiff, Nat.reduceBEq, reduceCtorEq, Int.reduceLT, Int.reduceEq, Int.reduceLE, Int.reduceAdd, Int.reduceSub, Int.reduceToNat, Int.reduceNeg]
      exact ⟨vb_not ⟨fun h => ⟨A, B, b2, h⟩, fun h => h.2.2.2⟩, g2.trans e3⟩
    · have t2 : (alook m.block sp).isSome = false := by simpa using t1
      simp (disch := omega) only [go_sem, ↓reduceIte, Nat.reduceEqDiff, Nat.reduceAdd, Nat.reduceMul, Nat.reduceSub, Nat.reduceLT, Nat.reduceLeDiff, Nat.reduceBEq, reduceCtorEq, Int.reduceLT, Int.reduceEq, Int.reduceLE, Int.reduceAdd, Int.reduceSub, Int.reduceToNat, Int.reduceNeg, cx, cy, e1, t2]
      exact ⟨vb_false (fun h => h.2.1.elim b1 (fun g => by first | exact t1 g | exact g)), g2⟩
  · have d1 : decide (alwaysP m.parent) = false := decide_eq_false a1
    by_cases p1 : (alook m.parent sp).isSome = true
    · have A : alwaysP m.parent ∨ (alook m.parent sp).isSome = true := .inr p1
      simp (disch := omega) only [go_sem, ↓reduceIte, Nat.reduceEqDiff, Nat.reduceAdd, Nat.reduceMul, Nat.reduceSub, Nat.reduceLT, Nat.reduceLeDiff, Nat.reduceBEq, reduceCtorEq, Int.reduceLT, Int.reduceEq, Int.reduceLE, Int.reduceAdd, Int.reduceSub, Int.reduceToNat, Int.reduceNeg, cx, cy, i1, i2, d1, p1]
      by_cases b1 : m.block = m.id
      · have B : m.block = m.id ∨ (alook m.block sp).isSome = true := .inl b1
        have e1 := eqV_d m.block m.id (decide_eq_true b1)
        simp (disch := omega) only [go_sem, ↓reduceIte, Nat.reduceEqDiff, Nat.reduceAdd, Nat.reduceMul, Nat.reduceSub, Nat.reduceLT, Nat.reduceLeDiff, Nat.reduceBEq, reduceCtorEq, Int.reduceLT, Int.reduceEq, Int.reduceLE, Int.reduceAdd, Int.reduceSub, Int.reduceToNat, Int.reduceNeg, cx, cy, e1]
        by_cases b2 : m.block = m.parent
        · have e2 := eqV_d m.block m.parent (decide_eq_true b2)
          simp (disch := omega) only [go_sem, ↓reduceIte, Nat.reduceEqDiff, Nat.reduceAdd, Nat.reduceMul, Nat.reduceSub, Nat.reduceLT, Nat.reduceLeDiff, Nat.reduceBEq, reduceCtorEq, Int.reduceLT, Int.reduceEq, Int.reduceLE, Int.reduceAdd, Int.reduceSub, Int.reduceToNat, Int.reduceNeg, cx, cy, e2]
          exact ⟨vb_false (fun h => h.2.2.1 b2), g2⟩
        have e2 := eqV_d m.block m.parent (decide_eq_false b2)
        simp (disch := omega) only [go_sem, ↓reduceIte, Nat.reduceEqDiff, Nat.reduceAdd, Nat.reduceMul, Nat.reduceSub, Nat.reduceLT, Nat.reduceLeDiff, Nat.reduceBEq, reduceCtorEq, Int.reduceLT, Int.reduceEq, Int.reduceLE, Int.reduceAdd, Int.reduceSub, Int.reduceToNat, Int.reduceNeg, cx, cy, e2]
        refine wJ_of (F.osierref10_Tree_Path_J hs2 ok hL) ?_; rintro pv S3 ⟨hpo, e3⟩
        have cy3 := (hy.ext e3).c
        simp (disch := omega) only [go_sem, ↓reduceIte, Nat.reduceEqDiff, Nat.reduceAdd, Nat.reduceMul, Nat.reduceSub, Nat.reduceLT, Nat.reduceLeDiff, Nat.reduceBEq, reduceCtorEq, Int.reduceLT, Int.reduceEq, Int.reduceLE, Int.reduceAdd, Int.reduceSub, Int.reduceToNat, Int.reduceNeg, cy3]
        refine wJ_of (F.osierref03_In_P (hpo.sl dotE) (by omega)) ?_; rintro _ _ ⟨rfl, rfl⟩
        simp (disch := omega) only [go_sem, ↓reduceIte, Nat.reduceEqDiff, Nat.reduceAdd, Nat.reduceMul, Nat.reduceSub, Nat.reduceLT, Nat.reduceLeDiff, Nat.reduceBEq, reduceCtorEq, Int.reduceLT, Int.reduceEq, Int.reduceLE, Int.reduceAdd, Int.reduceSub, Int.reduceToNat, Int.reduceNeg]
        exact ⟨vb_not ⟨fun h => ⟨A, B, b2, h⟩, fun h => h.2.2.2⟩, g2.trans e3⟩
      have e1 := eqV_d m.block m.id (decide_eq_false b1)
      by_cases t1 : (alook m.block sp).isSome = true
      · have B : m.block = m.id ∨ (alook m.block sp).isSome = true := .inr t1
        simp (disch := omega) only [go_sem, ↓reduceIte, Nat.reduceEqDiff, Nat.reduceAdd, Nat.reduceMul, Nat.reduceSub, Nat.reduceLT, Nat.reduceLeDiff, Nat.reduceBEq, reduceCtorEq, Int.reduceLT, Int.reduceEq, Int.reduceLE, Int.reduceAdd, Int.reduceSub, Int.reduceToNat, Int.reduceNeg, cx, cy, e1, t1]
        by_cases b2 : m.block = m.parent
        · have e2 := eqV_d m.block m.parent (decide_eq_true b2)
          simp (disch := omega) only [go_sem, ↓reduceIte, Nat.reduceEqDiff, Nat.reduceAdd, Nat.reduceMul, Nat.reduceSub, Nat.reduceLT, Nat.reduceLeDiff, Nat.reduceBEq, reduceCtorEq, Int.reduceLT, Int.reduceEq, Int.reduceLE, Int.reduceAdd, Int.reduceSub, Int.reduceToNat, Int.reduceNeg, cx, cy, e2]
          exact ⟨vb_false (fun h => h.2.2.1 b2), g2⟩
        have e2 := eqV_d m.block m.parent (decide_eq_false b2)
        simp (disch := omega) only [go_sem, ↓reduceIte, Nat.reduceEqDiff, Nat.reduceAdd, Nat.reduceMul, Nat.reduceSub, Nat.reduceLT, Nat.reduceLeDiff, Nat.reduceBEq, reduceCtorEq, Int.reduceLT, Int.reduceEq, Int.reduceLE, Int.reduceAdd, Int.reduceSub, Int.reduceToNat, Int.reduceNeg, cx, cy, e2]
        refine wJ_of (F.osierref10_Tree_Path_J hs2 ok hL) ?_; rintro pv S3 ⟨hpo, e3⟩
        have cy3 := (hy.ext e3).c
        simp (disch := omega) only [go_sem, ↓reduceIte, Nat.reduceEqDiff, Nat.reduceAdd, Nat.reduceMul, Nat.reduceSub, Nat.reduceLT, Nat.reduceLeDiff, Nat.reduceBEq, reduceCtorEq, Int.reduceLT, Int.reduceEq, Int.reduceLE, Int.reduceAdd, Int.reduceSub, Int.reduceToNat, Int.reduceNeg, cy3]
        refine wJ_of (F.osierref03_In_P (hpo.sl dotE) (by omega)) ?_; rintro _ _ ⟨rfl, rfl⟩
        simp (disch := omega) only [go_sem, ↓reduceIte, Nat.reduceEqDiff, Nat.reduceAdd, Nat.reduceMul, Nat.reduceSub, Nat.reduceLT, Nat.reduceLeDiff, Nat.reduceBEq, reduceCtorEq, Int.reduceLT, Int.reduceEq, Int.reduceLE, Int.reduceAdd, Int.reduceSub, Int.reduceToNat, Int.reduceNeg]
        exact ⟨vb_not ⟨fun h => ⟨A, B, b2, h⟩, fun h => h.2.2.2⟩, g2.trans e3⟩
      · have t2 : (alook m.block sp).isSome = false := by simpa using t1
        simp (disch := omega) only [go_sem, ↓reduceIte, Nat.reduceEqDiff, Nat.reduceAdd, Nat.reduceMul, Nat.reduceSub, Nat.reduceLT, Nat.reduceLeDiff, Nat.reduceBEq, reduceCtorEq, Int.reduceLT, Int.reduceEq, Int.reduceLE, Int.reduceAdd, Int.reduceSub, Int.reduceToNat, Int.reduceNeg, cx, cy, e1, t2]
        exact ⟨vb_false (fun h => h.2.1.elim b1 (fun g => by first | exact t1 g | exact g)), g2⟩
    · have p2 : (alook m.parent sp).isSome = false := by simpa using p1
      simp (disch := omega) only [go_sem, ↓reduceIte, Nat.reduceEqDiff, Nat.reduceAdd, Nat.reduceMul, Nat.reduceSub, Nat.reduceLT, Nat.reduceLeDiff, Nat.reduceBEq, reduceCtorEq, Int.reduceLT, Int.reduceEq, Int.reduceLE, Int.reduceAdd, Int.reduceSub, Int.reduceToNat, Int.reduceNeg, cx, cy, i1, i2, d1, p2]
      exact ⟨vb_false (fun h => h.1.elim a1 (fun g => by first | exact p1 g | exact g)), g2⟩
theorem F.osierref10_put_J {S : St} {sv : Value} {sp : Sp} {p : Dot × Spot} (hs : SlT stE S sv sp) (hL : sp.length < 100000) : J PR F.osierref10_put [sv, .agg (stC p).toArray] S fun v S' => OwnT stE S.n S' v (putS p.1 p.2 sp) ∧ S.Ext S' := by
  obtain ⟨base, cap, rfl⟩ := hs.len stE
  refine J_by PR.mixed F.osierref10_put.ok (by simp) ?_
  simp (disch := omega) only [go_sem, ↓reduceIte, Nat.reduceEqDiff, Nat.reduceAdd, Nat.reduceMul, Nat.reduceSub, Nat.reduceLT, Nat.reduceLeDiff, Nat.reduceBEq, reduceCtorEq, Int.reduceLT, Int.reduceEq, Int.reduceLE, Int.reduceAdd, Int.reduceSub, Int.reduceToNat, Int.reduceNeg]
  refine walloc_x (stC p) fun x S1 e1 ox hx hxn => ?_
  have lx : ∀ S', S1.Ext S' → S'.loadN ⟨x, 0, none⟩ 2 = some [.int .i64 p.1.1, .int .i64 p.1.2] ∧ S'.loadN ⟨x, 0, none⟩ 5 = some (stC p) := fun S' e => by
    have o := (e.obj x hx).trans ox
    exact ⟨by rw [St.loadN_def, o]; rfl, by rw [St.loadN_def, o]; rfl⟩
  simp (disch := omega) only [go_sem, ↓reduceIte, Nat.reduceEqDiff, Nat.reduceAdd, Nat.reduceMul, Nat.reduceSub, Nat.reduceLT, Nat.reduceLeDiff, Nat.reduceBEq, reduceCtorEq, Int.reduceLT, Int.reduceEq, Int.reduceLE, Int.reduceAdd, Int.reduceSub, Int.reduceToNat, Int.reduceNeg]
  refine wC_at 0 (fun fr S2 => ∃ v : Value, fr 3 = ptrV x ∧ fr 5 = v ∧ OwnT stE S1.n S2 v (sp.filter fun q => decide (q.1 ≠ p.1)) ∧ S1.Ext S2) ?_ ?_
  · refine wC_loop (fun n fr S2 => ∃ (i : Nat) (v : Value), n = sp.length - i ∧ i ≤ sp.length ∧ fr 0 = .slice base sp.length cap ∧ fr 3 = ptrV x ∧ fr 5 = v ∧ fr 6 = .int .i64 (i : Nat) ∧ OwnT stE S1.n S2 v ((sp.take i).filter fun q => decide (q.1 ≠ p.1)) ∧ S1.Ext S2) sp.length
      ⟨0, nilS, by
        have k0 : OwnT stE S1.n S1 nilS ((sp.take 0).filter fun q => decide (q.1 ≠ p.1)) := OwnT.nil stE _ _
        simp (disch := omega) only [go_sem, ↓reduceIte, Nat.reduceEqDiff, Nat.reduceAdd, Nat.reduceMul, Nat.reduceSub, Nat.reduceLT, Nat.reduceLeDiff, Nat.reduceBEq, reduceCtorEq, Int.reduceLT, Int.reduceEq, Int.reduceLE, Int.reduceAdd, Int.reduceSub, Int.reduceToNat, Int.reduceNeg]
        repeat' first | assumption | omega | (exact St.Ext.refl _) | (exact List.Perm.refl _) | rfl | (exact .inl trivial) | (exact trivial) | refine And.intro ?_ ?_
        ⟩ ?_
    rintro n fr S2 ⟨i, v, rfl, hi, h0, h3, h5, h6, ho, g2⟩
    simp (disch := omega) only [go_sem, ↓reduceIte, Nat.reduceEqDiff, Nat.reduceAdd, Nat.reduceMul, Nat.reduceSub, Nat.reduceLT, Nat.reduceLeDiff, Nat.reduceBEq, reduceCtorEq, Int.reduceLT, Int.reduceEq, Int.reduceLE, Int.reduceAdd, Int.reduceSub, Int.reduceToNat, Int.reduceNeg, F.osierref10_put.l0, h0, h3, h5, h6]
    refine wcond_dec (fun hlt => ?_) (fun hge => ?_)
    rotate_left
    · simp (disch := omega) only [go_sem, ↓reduceIte, Nat.reduceEqDiff, Nat.reduceAdd, Nat.reduceMul, Nat.reduceSub, Nat.reduceLT, Nat.reduceLeDiff, Nat.reduceBEq, reduceCtorEq, Int.reduceLT, Int.reduceEq, Int.reduceLE, Int.reduceAdd, Int.reduceSub, Int.reduceToNat, Int.reduceNeg, h3, h5]
      rw [List.take_of_length_le (by omega)] at ho
      refine ⟨v, ?_⟩
      repeat' first | assumption | omega | (exact St.Ext.refl _) | (exact List.Perm.refl _) | rfl | (exact .inl trivial) | (exact trivial) | refine And.intro ?_ ?_
    have hli : i < sp.length := by omega
    have c1 : (0 : Int) ≤ (i : Int) ∧ (i : Int) < (sp.length : Int) := by omega
    have lp := lx S2 g2
    obtain ⟨b0, o0, rfl, hb, ⟨x1, -⟩, x5⟩ := (hs.ext stE (e1.trans g2)).stt hli
    have eq := eqV_dot sp[i].1 p.1
    have htk : (sp.take (i + 1)).filter (fun q => decide (q.1 ≠ p.1)) = (sp.take i).filter (fun q => decide (q.1 ≠ p.1)) ++ (if sp[i].1 = p.1 then [] else [sp[i]]) := by
      rw [take_snoc (List.getElem?_eq_getElem hli), List.filter_append]
      congr 1
      simp only [List.filter_cons, List.filter_nil, decide_eq_true_eq]
      by_cases h : sp[i].1 = p.1
      · simp [h]
      · simp [h]
    have hfl : ((sp.take i).filter fun q => decide (q.1 ≠ p.1)).length ≤ sp.length := Nat.le_trans (List.length_filter_le _ _) (by rw [List.length_take]; omega)
    generalize (sp.take i).filter (fun q => decide (q.1 ≠ p.1)) = Y at *
    simp (disch := omega) only [go_sem, ↓reduceIte, Nat.reduceEqDiff, Nat.reduceAdd, Nat.reduceMul, Nat.reduceSub, Nat.reduceLT, Nat.reduceLeDiff, Nat.reduceBEq, reduceCtorEq, Int.reduceLT, Int.reduceEq, Int.reduceLE, Int.reduceAdd, Int.reduceSub, Int.reduceToNat, Int.reduceNeg, h0, h3, h5, h6, c1, x1, lp, eq]
    refine wcond_ndec (fun hq => ?_) (fun hq => ?_)
    · rw [if_neg hq] at htk
      simp (disch := omega) only [go_sem, ↓reduceIte, Nat.reduceEqDiff, Nat.reduceAdd, Nat.reduceMul, Nat.reduceSub, Nat.reduceLT, Nat.reduceLeDiff, Nat.reduceBEq, reduceCtorEq, Int.reduceLT, Int.reduceEq, Int.reduceLE, Int.reduceAdd, Int.reduceSub, Int.reduceToNat, Int.reduceNeg, h0, h6, c1, x5, stC_len]
      refine walloc_sl (stC sp[i]) fun u S4 e4 ou hu hun => ?_
      simp (disch := omega) only [go_sem, ↓reduceIte, Nat.reduceEqDiff, Nat.reduceAdd, Nat.reduceMul, Nat.reduceSub, Nat.reduceLT, Nat.reduceLeDiff, Nat.reduceBEq, reduceCtorEq, Int.reduceLT, Int.reduceEq, Int.reduceLE, Int.reduceAdd, Int.reduceSub, Int.reduceToNat, Int.reduceNeg, h5]
      have hlit : SlT stE S4 (.slice (some ⟨u, 0, none⟩) 1 1) [sp[i]] := ⟨_, 1, rfl, Nat.le_refl _, .inr rfl, fun _ => ⟨u, 0, rfl, hu, by rw [St.loadN_def, ou]; rfl⟩⟩
      refine wE_app stE (bytes := 48) (xs := Y) (ys := [sp[i]]) (ho.ext stE e4) hlit rfl rfl (Nat.le_trans g2.n e4.n) (by simp only [List.length_singleton]; omega) (by simp only [List.length_singleton]; omega) fun v8 S8 ho8 hb8 hv8 => ?_
      have k8 : S1.Ext S8 := (g2.trans e4).but hb8 fun j hj => (ho.blk stE j hj).1
      rw [← htk] at ho8
      simp (disch := omega) only [go_sem, ↓reduceIte, Nat.reduceEqDiff, Nat.reduceAdd, Nat.reduceMul, Nat.reduceSub, Nat.reduceLT, Nat.reduceLeDiff, Nat.reduceBEq, reduceCtorEq, Int.reduceLT, Int.reduceEq, Int.reduceLE, Int.reduceAdd, Int.reduceSub, Int.reduceToNat, Int.reduceNeg, h0, h3, h6]
      refine ⟨sp.length - (i + 1), by omega, i + 1, v8, ?_⟩
      repeat' first | assumption | omega | (exact St.Ext.refl _) | (exact List.Perm.refl _) | rfl | (exact .inl trivial) | (exact trivial) | refine And.intro ?_ ?_
    · rw [if_pos hq, List.append_nil] at htk
      rw [← htk] at ho
      simp (disch := omega) only [go_sem, ↓reduceIte, Nat.reduceEqDiff, Nat.reduceAdd, Nat.reduceMul, Nat.reduceSub, Nat.reduceLT, Nat.reduceLeDiff, Nat.reduceBEq, reduceCtorEq, Int.reduceLT, Int.reduceEq, Int.reduceLE, Int.reduceAdd, Int.reduceSub, Int.reduceToNat, Int.reduceNeg, h0, h3, h5, h6]
      refine ⟨sp.length - (i + 1), by omega, i + 1, v, ?_⟩
      repeat' first | assumption | omega | (exact St.Ext.refl _) | (exact List.Perm.refl _) | rfl | (exact .inl trivial) | (exact trivial) | refine And.intro ?_ ?_
  rintro fr S2 ⟨v, h3, h5, ho, g2⟩
  have lp := lx S2 g2
  have hfl : (sp.filter fun q => decide (q.1 ≠ p.1)).length ≤ sp.length := List.length_filter_le _ _
  unfold putS
  generalize sp.filter (fun q => decide (q.1 ≠ p.1)) = Y at *
  simp (disch := omega) only [go_sem, ↓reduceIte, Nat.reduceEqDiff, Nat.reduceAdd, Nat.reduceMul, Nat.reduceSub, Nat.reduceLT, Nat.reduceLeDiff, Nat.reduceBEq, reduceCtorEq, Int.reduceLT, Int.reduceEq, Int.reduceLE, Int.reduceAdd, Int.reduceSub, Int.reduceToNat, Int.reduceNeg, h3, h5, lp, stC_len]
  refine walloc_sl (stC p) fun u S4 e4 ou hu hun => ?_
  simp (disch := omega) only [go_sem, ↓reduceIte, Nat.reduceEqDiff, Nat.reduceAdd, Nat.reduceMul, Nat.reduceSub, Nat.reduceLT, Nat.reduceLeDiff, Nat.reduceBEq, reduceCtorEq, Int.reduceLT, Int.reduceEq, Int.reduceLE, Int.reduceAdd, Int.reduceSub, Int.reduceToNat, Int.reduceNeg, h5]
  have hlit : SlT stE S4 (.slice (some ⟨u, 0, none⟩) 1 1) [p] := ⟨_, 1, rfl, Nat.le_refl _, .inr rfl, fun _ => ⟨u, 0, rfl, hu, by rw [St.loadN_def, ou]; rfl⟩⟩
  refine wE_app stE (bytes := 48) (xs := Y) (ys := [p]) (ho.ext stE e4) hlit rfl rfl (Nat.le_trans g2.n e4.n) (by simp only [List.length_singleton]; omega) (by simp only [List.length_singleton]; omega) fun v8 S8 ho8 hb8 hv8 => ?_
  simp (disch := omega) only [go_sem, ↓reduceIte, Nat.reduceEqDiff, Nat.reduceAdd, Nat.reduceMul, Nat.reduceSub, Nat.reduceLT, Nat.reduceLeDiff, Nat.reduceBEq, reduceCtorEq, Int.reduceLT, Int.reduceEq, Int.reduceLE, Int.reduceAdd, Int.reduceSub, Int.reduceToNat, Int.reduceNeg]
  exact ⟨ho8.mono stE e1.n, e1.trans ((g2.trans e4).but hb8 fun j hj => (ho.blk stE j hj).1)⟩
end Go.Osj
