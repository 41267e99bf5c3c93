/- The law TreePlays. -/
import Derived.Test.YtdabompehgancaaRE
set_option linter.unusedVariables false
set_option linter.unusedSimpArgs false
set_option maxHeartbeats 2000000
namespace Go.Osj
theorem SlT.is {α : Type} {E : Enc α} {S : St} {v : Value} {xs : List α} (h : SlT E S v xs) : ∃ b n c, v = .slice b n c := let ⟨a, c, h⟩ := h.len E; ⟨a, _, c, h⟩
/-- the document's tree in its place, clear of the tree's own blocks -/
structure DocT (S : St) (Z : Nat → Prop) (p : Nat) (lv sv tv : Value) (L : List Mv) : Prop where
  ob : S.obj p = some (.cells true 3 [lv, sv, tv])
  lt : p < S.n
  np : ¬ Z p
  l : OwnT rmE 0 S lv L
  s : OwnT stE 0 S sv (doneR L).1
  t : OwnT dotE 0 S tv (doneR L).2
  nl : ∀ j, blkOf lv = some j → ¬ Z j ∧ j ≠ p
  ns : ∀ j, blkOf sv = some j → ¬ Z j ∧ j ≠ p
  nt : ∀ j, blkOf tv = some j → ¬ Z j ∧ j ≠ p
theorem DocT.ext {S S' : St} {Z : Nat → Prop} {p : Nat} {lv sv tv : Value} {L : List Mv} (d : DocT S Z p lv sv tv L) (e : S.Ext S') : DocT S' Z p lv sv tv L :=
  ⟨(e.obj p d.lt).trans d.ob, Nat.lt_of_lt_of_le d.lt e.n, d.np, d.l.ext rmE e, d.s.ext stE e, d.t.ext dotE e, d.nl, d.ns, d.nt⟩
theorem DocT.frm {S S' : St} {Z Z' : Nat → Prop} {p : Nat} {lv sv tv : Value} {L : List Mv} (d : DocT S Z p lv sv tv L) (f : St.Frm Z S S') (hz : ∀ i, Z' i → Z i ∨ S.n ≤ i) : DocT S' Z' p lv sv tv L where
  ob := (f.obj p d.lt d.np).trans d.ob
  lt := Nat.lt_of_lt_of_le d.lt f.n
  np h := (hz p h).elim d.np (by have := d.lt; omega)
  l := d.l.congr rmE f.n fun b l c hv hb => f.obj b hb (d.nl b (by rw [hv]; rfl)).1
  s := d.s.congr stE f.n fun b l c hv hb => f.obj b hb (d.ns b (by rw [hv]; rfl)).1
  t := d.t.congr dotE f.n fun b l c hv hb => f.obj b hb (d.nt b (by rw [hv]; rfl)).1
  nl j hj := ⟨fun h => (hz j h).elim (d.nl j hj).1 (by have := (d.l.blk rmE j hj).2; omega), (d.nl j hj).2⟩
  ns j hj := ⟨fun h => (hz j h).elim (d.ns j hj).1 (by have := (d.s.blk stE j hj).2; omega), (d.ns j hj).2⟩
  nt j hj := ⟨fun h => (hz j h).elim (d.nt j hj).1 (by have := (d.t.blk dotE j hj).2; omega), (d.nt j hj).2⟩
theorem moveA_same {L : List Mv} {m : Mv} (h : (moveA L m).1 ≠ 0) : (moveA L m).2 = L := by
  unfold moveA at *
  split
  · rfl
  · rename_i h1
    rw [if_neg h1] at h
    split
    · rfl
    · rename_i h2
      rw [if_neg h2] at h
      exact absurd rfl h
/-- another row in its place -/
theorem DocT.set {S S' : St} {Z : Nat → Prop} {p : Nat} {lv sv tv lv' sv' tv' : Value} {L L' : List Mv} (d : DocT S Z p lv sv tv L) (hZ : ∀ i, Z i → i < S.n) (e : S.n ≤ S'.n) (ob : S'.obj p = some (.cells true 3 [lv', sv', tv']))
    (l : OwnT rmE S.n S' lv' L') (s : OwnT stE S.n S' sv' (doneR L').1) (t : OwnT dotE S.n S' tv' (doneR L').2) : DocT S' Z p lv' sv' tv' L' where
  ob := ob
  lt := Nat.lt_of_lt_of_le d.lt e
  np := d.np
  l := l.mono rmE (Nat.zero_le _)
  s := s.mono stE (Nat.zero_le _)
  t := t.mono dotE (Nat.zero_le _)
  nl j hj := by have h1 := (l.blk rmE j hj).1; have h2 := d.lt; exact ⟨fun h => by have := hZ j h; omega, by omega⟩
  ns j hj := by have h1 := (s.blk stE j hj).1; have h2 := d.lt; exact ⟨fun h => by have := hZ j h; omega, by omega⟩
  nt j hj := by have h1 := (t.blk dotE j hj).1; have h2 := d.lt; exact ⟨fun h => by have := hZ j h; omega, by omega⟩
theorem DocT.put {S S' : St} {Z : Nat → Prop} {p : Nat} {lv sv tv : Value} {L : List Mv} (d : DocT S Z p lv sv tv L) (b : St.But (ptrV p) S S') (ob : S'.obj p = some (.cells true 3 [lv, sv, tv])) : DocT S' Z p lv sv tv L where
  ob := ob
  lt := Nat.lt_of_lt_of_le d.lt b.n
  np := d.np
  l := d.l.but rmE b fun j hj h => by simp [blkOf] at h; exact (d.nl j hj).2 h.symm
  s := d.s.but stE b fun j hj h => by simp [blkOf] at h; exact (d.ns j hj).2 h.symm
  t := d.t.but dotE b fun j hj h => by simp [blkOf] at h; exact (d.nt j hj).2 h.symm
  nl := d.nl
  ns := d.ns
  nt := d.nt
theorem F.osierlaw10_TreePlays.J {S : St} {l : Value} {xs : List Mv} {o : Dot} (hl : SlT rmE S l xs) (hX : xs.length < 9223372036854775808) :
    J PR F.osierlaw10_TreePlays [l, dotV o] S fun v _ => v = .bool true := by
  obtain ⟨base, cap, rfl⟩ := hl.len rmE
  refine J_by PR.mixed F.osierlaw10_TreePlays.ok (by simp) ?_
  simp (disch := omega) only [go_sem, ↓reduceIte, Nat.reduceEqDiff, Nat.reduceAdd, Nat.reduceMul, Nat.reduceSub, Nat.reduceLT, Nat.reduceLeDiff, Nat.reduceBEq, reduceCtorEq, Int.reduceLT, Int.reduceEq, Int.reduceLE, Int.reduceAdd, Int.reduceSub, Int.reduceToNat, Int.reduceNeg]
  refine walloc_x [.int .i64 o.1, .int .i64 o.2] fun x S1 e1 ox hx0 hxn => ?_
  simp (disch := omega) only [go_sem, ↓reduceIte, Nat.reduceEqDiff, Nat.reduceAdd, Nat.reduceMul, Nat.reduceSub, Nat.reduceLT, Nat.reduceLeDiff, Nat.reduceBEq, reduceCtorEq, Int.reduceLT, Int.reduceEq, Int.reduceLE, Int.reduceAdd, Int.reduceSub, Int.reduceToNat, Int.reduceNeg]
  refine wJ_of F.osierlaw10_awake_J ?_; rintro _ _ ⟨rfl, rfl⟩
  simp (disch := omega) only [go_sem, ↓reduceIte, Nat.reduceEqDiff, Nat.reduceAdd, Nat.reduceMul, Nat.reduceSub, Nat.reduceLT, Nat.reduceLeDiff, Nat.reduceBEq, reduceCtorEq, Int.reduceLT, Int.reduceEq, Int.reduceLE, Int.reduceAdd, Int.reduceSub, Int.reduceToNat, Int.reduceNeg]
  refine wJ_of F.movetree_New_J ?_; rintro _ S2 ⟨q, Z1, rfl, T2, z1, g2⟩
  have hl1 := hl.ext rmE e1
  simp (disch := omega) only [go_sem, ↓reduceIte, Nat.reduceEqDiff, Nat.reduceAdd, Nat.reduceMul, Nat.reduceSub, Nat.reduceLT, Nat.reduceLeDiff, Nat.reduceBEq, reduceCtorEq, Int.reduceLT, Int.reduceEq, Int.reduceLE, Int.reduceAdd, Int.reduceSub, Int.reduceToNat, Int.reduceNeg]
  refine walloc_x [nilS, nilS, nilS] fun p S3 e3 op hp hpn => ?_
  have T3 := T2.ext e3
  have D3 : DocT S3 Z1 p nilS nilS nilS [] := ⟨op, hp, fun h => by have := T2.1 p h; omega, OwnT.nil rmE _ _, OwnT.nil stE _ _, OwnT.nil dotE _ _, fun j hj => by simp [nilS, blkOf] at hj, fun j hj => by simp [nilS, blkOf] at hj, fun j hj => by simp [nilS, blkOf] at hj⟩
  have g3 := g2.trans e3
  have hp1 : S1.n ≤ p := by have := g2.n; omega
  simp (disch := omega) only [go_sem, ↓reduceIte, Nat.reduceEqDiff, Nat.reduceAdd, Nat.reduceMul, Nat.reduceSub, Nat.reduceLT, Nat.reduceLeDiff, Nat.reduceBEq, reduceCtorEq, Int.reduceLT, Int.reduceEq, Int.reduceLE, Int.reduceAdd, Int.reduceSub, Int.reduceToNat, Int.reduceNeg]
  refine wC_at 0 (fun fr S4 => ∃ (L : List Mv) (Z : Nat → Prop) (lv sv tv : Value), fr 3 = ptrV x ∧ fr 6 = ptrV q ∧ fr 7 = ptrV p ∧ TreeT S4 Z q L ∧ DocT S4 Z p lv sv tv L ∧ S1.Ext S4 ∧ L.length ≤ 25) ?_ ?_
  · refine wC_loop (fun n fr S4 => ∃ (i : Nat) (L : List Mv) (Z : Nat → Prop) (lv sv tv : Value), n = 25 - i ∧ i ≤ 25 ∧ i ≤ xs.length ∧ fr 0 = .slice base xs.length cap ∧ fr 3 = ptrV x ∧ fr 6 = ptrV q ∧ fr 7 = ptrV p ∧ fr 8 = .int .i64 (i : Nat) ∧ TreeT S4 Z q L ∧ DocT S4 Z p lv sv tv L ∧ (∀ j, Z j → S1.n ≤ j) ∧ S1.Ext S4 ∧ L.length ≤ i) 25
      ⟨0, [], Z1, nilS, nilS, nilS, by
        simp (disch := omega) only [go_sem, ↓reduceIte, Nat.reduceEqDiff, Nat.reduceAdd, Nat.reduceMul, Nat.reduceSub, Nat.reduceLT, Nat.reduceLeDiff, Nat.reduceBEq, reduceCtorEq, Int.reduceLT, Int.reduceEq, Int.reduceLE, Int.reduceAdd, Int.reduceSub, Int.reduceToNat, Int.reduceNeg]
        repeat' first | assumption | omega | (exact St.Ext.refl _) | (exact List.Perm.refl _) | rfl | (exact .inl trivial) | (exact trivial) | refine And.intro ?_ ?_
        ⟩ ?_
    rintro n fr S4 ⟨i, L, Z, lv, sv, tv, rfl, hi, hix, h0, h3, h6, h7, h8, T4, D4, hz, g4, hLi⟩
    simp (disch := omega) only [go_sem, ↓reduceIte, Nat.reduceEqDiff, Nat.reduceAdd, Nat.reduceMul, Nat.reduceSub, Nat.reduceLT, Nat.reduceLeDiff, Nat.reduceBEq, reduceCtorEq, Int.reduceLT, Int.reduceEq, Int.reduceLE, Int.reduceAdd, Int.reduceSub, Int.reduceToNat, Int.reduceNeg, F.osierlaw10_TreePlays.l0, h0, h3, h6, h7, h8]
    by_cases hx : i < xs.length
    rotate_left
    · have d1 : ¬ ((i : Int) < (xs.length : Int)) := by omega
      simp (disch := omega) only [go_sem, ↓reduceIte, Nat.reduceEqDiff, Nat.reduceAdd, Nat.reduceMul, Nat.reduceSub, Nat.reduceLT, Nat.reduceLeDiff, Nat.reduceBEq, reduceCtorEq, Int.reduceLT, Int.reduceEq, Int.reduceLE, Int.reduceAdd, Int.reduceSub, Int.reduceToNat, Int.reduceNeg, d1, h3, h6, h7]
      refine ⟨L, Z, lv, sv, tv, ?_⟩
      repeat' first | assumption | omega | (exact St.Ext.refl _) | (exact List.Perm.refl _) | rfl | (exact .inl trivial) | (exact trivial) | refine And.intro ?_ ?_
    have d1 : (i : Int) < (xs.length : Int) := by omega
    by_cases hx25 : i < 25
    rotate_left
    · have d2 : ¬ ((i : Int) < 25) := by omega
      simp (disch := omega) only [go_sem, ↓reduceIte, Nat.reduceEqDiff, Nat.reduceAdd, Nat.reduceMul, Nat.reduceSub, Nat.reduceLT, Nat.reduceLeDiff, Nat.reduceBEq, reduceCtorEq, Int.reduceLT, Int.reduceEq, Int.reduceLE, Int.reduceAdd, Int.reduceSub, Int.reduceToNat, Int.reduceNeg, d1, d2, h3, h6, h7, h8]
      refine ⟨L, Z, lv, sv, tv, ?_⟩
      repeat' first | assumption | omega | (exact St.Ext.refl _) | (exact List.Perm.refl _) | rfl | (exact .inl trivial) | (exact trivial) | refine And.intro ?_ ?_
    have d2 : (i : Int) < 25 := by omega
    have d3 : (0 : Int) ≤ (i : Int) ∧ (i : Int) < (xs.length : Int) := by omega
    obtain ⟨b, off, rfl, hb, -, -⟩ := hl1.rm hx
    have x6 : ∀ S', S1.Ext S' → S'.loadN ⟨b, off + i * 8, none⟩ 8 = some (rmC xs[i]) := fun S' e => by
      obtain ⟨b', off', hbb, -, -, h⟩ := (hl1.ext rmE e).rm hx
      injection hbb with hbb
      injection hbb with hb1 hb2
      subst hb1 hb2
      exact h
    generalize xs[i] = m at *
    have x64 := x6 S4 g4
    simp (disch := omega) only [go_sem, ↓reduceIte, Nat.reduceEqDiff, Nat.reduceAdd, Nat.reduceMul, Nat.reduceSub, Nat.reduceLT, Nat.reduceLeDiff, Nat.reduceBEq, reduceCtorEq, Int.reduceLT, Int.reduceEq, Int.reduceLE, Int.reduceAdd, Int.reduceSub, Int.reduceToNat, Int.reduceNeg, d1, d2, d3, h0, h7, h8, x64]
    refine walloc_x (rmC ⟨(0, 0), 0, (0, 0), ⟨#[]⟩, (0, 0)⟩) fun y S5 e5 oy hy hyn => ?_
    simp (disch := omega) only [go_sem, ↓reduceIte, Nat.reduceEqDiff, Nat.reduceAdd, Nat.reduceMul, Nat.reduceSub, Nat.reduceLT, Nat.reduceLeDiff, Nat.reduceBEq, reduceCtorEq, Int.reduceLT, Int.reduceEq, Int.reduceLE, Int.reduceAdd, Int.reduceSub, Int.reduceToNat, Int.reduceNeg]
    refine wst_w (rmC m) oy rfl rfl (by simp [rmC]) (by decide) rfl fun S6 oy6 b6 hy6 => ?_
    have e6 : S4.Ext S6 := e5.but b6 fun j hj => by simp [blkOf] at hj; omega
    have D6 := D4.ext e6
    have T6 := T4.ext e6
    have cp6 := cells3 D6.ob
    have hy6' : rmB S6 y m := ⟨hy6, oy6⟩
    have cy6 := hy6'.c
    obtain ⟨bl, kl, cl, rfl⟩ := (D6.l.sl rmE).is
    obtain ⟨bs, ks, cs, rfl⟩ := (D6.s.sl stE).is
    obtain ⟨bt, kt, ct, rfl⟩ := (D6.t.sl dotE).is
    simp (disch := omega) only [go_sem, ↓reduceIte, Nat.reduceEqDiff, Nat.reduceAdd, Nat.reduceMul, Nat.reduceSub, Nat.reduceLT, Nat.reduceLeDiff, Nat.reduceBEq, reduceCtorEq, Int.reduceLT, Int.reduceEq, Int.reduceLE, Int.reduceAdd, Int.reduceSub, Int.reduceToNat, Int.reduceNeg, h0, h3, h6, h7, h8, cp6, cy6]
    refine wJ_of (F.osierref10_Tree_Move_J (m := m) (D6.l.sl rmE) ⟨_, _, _, rfl⟩ ⟨_, _, _, rfl⟩ T6.2.1 (by omega)) ?_; rintro _ S7 ⟨⟨w, rfl, hw1, hw2⟩, e7⟩
    simp (disch := omega) only [go_sem, ↓reduceIte, Nat.reduceEqDiff, Nat.reduceAdd, Nat.reduceMul, Nat.reduceSub, Nat.reduceLT, Nat.reduceLeDiff, Nat.reduceBEq, reduceCtorEq, Int.reduceLT, Int.reduceEq, Int.reduceLE, Int.reduceAdd, Int.reduceSub, Int.reduceToNat, Int.reduceNeg, h0, h3, h6, h7, h8]
    refine walloc_x [nilS, nilS, nilS] fun z S8 e8 oz hz8 hzn => ?_
    simp (disch := omega) only [go_sem, ↓reduceIte, Nat.reduceEqDiff, Nat.reduceAdd, Nat.reduceMul, Nat.reduceSub, Nat.reduceLT, Nat.reduceLeDiff, Nat.reduceBEq, reduceCtorEq, Int.reduceLT, Int.reduceEq, Int.reduceLE, Int.reduceAdd, Int.reduceSub, Int.reduceToNat, Int.reduceNeg, h0, h3, h6, h7, h8]
    by_cases c0 : (moveA L m).1 = 0
    rotate_left
    · obtain rfl := hw1 c0
      refine wst_w [.slice bl kl cl, .slice bs ks cs, .slice bt kt ct] oz rfl rfl (by simp) (by decide) rfl fun S9 oz9 b9 hz9 => ?_
      have e9 : S7.Ext S9 := e8.but b9 fun j hj => by simp [blkOf] at hj; omega
      have g9 : S6.Ext S9 := e7.trans e9
      have D9 := D6.ext g9
      have T9 := T6.ext g9
      have cp9 := cells3 D9.ob
      have cz9 := cells3 oz9
      have cy9 := (hy6'.ext g9).c
      simp (disch := omega) only [go_sem, ↓reduceIte, Nat.reduceEqDiff, Nat.reduceAdd, Nat.reduceMul, Nat.reduceSub, Nat.reduceLT, Nat.reduceLeDiff, Nat.reduceBEq, reduceCtorEq, Int.reduceLT, Int.reduceEq, Int.reduceLE, Int.reduceAdd, Int.reduceSub, Int.reduceToNat, Int.reduceNeg, h0, h3, h6, h7, h8, cz9, cp9]
      refine wst_w [.slice bl kl cl, .slice bs ks cs, .slice bt kt ct] D9.ob rfl rfl (by simp) (by decide) rfl fun S10 op10 b10 hp10 => ?_
      have hL2 := moveA_same c0
      have D10 := D9.put b10 op10
      have T10 := T9.but b10 fun j hj => by simp [blkOf] at hj; subst hj; exact D9.np
      have g10 : S1.Ext S10 := ((g4.trans e6).trans g9).but b10 fun j hj => by simp [blkOf] at hj; omega
      have hyp : y ≠ p := by have := D4.lt; omega
      have cy10 := (rmB.c (S := S10) (x := y) (m := m) ⟨Nat.lt_of_lt_of_le (hy6'.ext g9).1 b10.n, (b10.obj y (hy6'.ext g9).1 (by simp [blkOf]; omega)).trans (hy6'.ext g9).2⟩)
      rw [← hL2] at D10
      simp (disch := omega) only [go_sem, ↓reduceIte, Nat.reduceEqDiff, Nat.reduceAdd, Nat.reduceMul, Nat.reduceSub, Nat.reduceLT, Nat.reduceLeDiff, Nat.reduceBEq, reduceCtorEq, Int.reduceLT, Int.reduceEq, Int.reduceLE, Int.reduceAdd, Int.reduceSub, Int.reduceToNat, Int.reduceNeg, h0, h3, h6, h7, h8, cy10]
      refine wJ_of (F.movetree_Tree_Move_J (m := m) T10 (by omega)) ?_; rintro _ S11 ⟨rfl, Z2, T11, z11, f11⟩
      have D11 := D10.frm f11 z11
      have g11 : S1.Ext S11 := g10.frm f11 hz
      have hz11 : ∀ j, Z2 j → S1.n ≤ j := fun j hj => (z11 j hj).elim (hz j) (fun h => Nat.le_trans g10.n h)
      have hl11 := moveA_len L m
      have cp11 := cells3 D11.ob
      have cx11 := cells2 ((g11.obj x hx0).trans ox)
      simp (disch := omega) only [go_sem, ↓reduceIte, Nat.reduceEqDiff, Nat.reduceAdd, Nat.reduceMul, Nat.reduceSub, Nat.reduceLT, Nat.reduceLeDiff, Nat.reduceBEq, reduceCtorEq, Int.reduceLT, Int.reduceEq, Int.reduceLE, Int.reduceAdd, Int.reduceSub, Int.reduceToNat, Int.reduceNeg, h0, h3, h6, h7, h8, cp11, cx11]
      refine wJ_of (F.osierlaw10_is_J (o := o) T11 (D11.l.sl rmE) (D11.s.sl stE) (D11.t.sl dotE) (by omega)) ?_; rintro _ S12 ⟨rfl, e12⟩
      have D12 := D11.ext e12
      have T12 := T11.ext e12
      have g12 := g11.trans e12
      simp (disch := omega) only [go_sem, ↓reduceIte, Nat.reduceEqDiff, Nat.reduceAdd, Nat.reduceMul, Nat.reduceSub, Nat.reduceLT, Nat.reduceLeDiff, Nat.reduceBEq, reduceCtorEq, Int.reduceLT, Int.reduceEq, Int.reduceLE, Int.reduceAdd, Int.reduceSub, Int.reduceToNat, Int.reduceNeg, h0, h3, h6, h7, h8]
      obtain ⟨lv2, sv2, tv2, D13⟩ : ∃ a b c, DocT S12 Z2 p a b c (moveA L m).2 := ⟨_, _, _, D12⟩
      refine ⟨25 - (i + 1), by omega, i + 1, (moveA L m).2, Z2, lv2, sv2, tv2, ?_⟩
      repeat' first | assumption | omega | (exact St.Ext.refl _) | (exact List.Perm.refl _) | rfl | (exact .inl trivial) | (exact trivial) | refine And.intro ?_ ?_
    obtain ⟨lv', sv', tv', rfl, ol, os, ot⟩ := hw2 c0
    obtain ⟨bl', kl', cl', rfl⟩ := (ol.sl rmE).is
    obtain ⟨bs', ks', cs', rfl⟩ := (os.sl stE).is
    obtain ⟨bt', kt', ct', rfl⟩ := (ot.sl dotE).is
    refine wst_w [.slice bl' kl' cl', .slice bs' ks' cs', .slice bt' kt' ct'] oz rfl rfl (by simp) (by decide) rfl fun S9 oz9 b9 hz9 => ?_
    have e9 : S7.Ext S9 := e8.but b9 fun j hj => by simp [blkOf] at hj; omega
    have g9 : S6.Ext S9 := e7.trans e9
    have D9 := D6.ext g9
    have T9 := T6.ext g9
    have cp9 := cells3 D9.ob
    have cz9 := cells3 oz9
    have cy9 := (hy6'.ext g9).c
    simp (disch := omega) only [go_sem, ↓reduceIte, Nat.reduceEqDiff, Nat.reduceAdd, Nat.reduceMul, Nat.reduceSub, Nat.reduceLT, Nat.reduceLeDiff, Nat.reduceBEq, reduceCtorEq, Int.reduceLT, Int.reduceEq, Int.reduceLE, Int.reduceAdd, Int.reduceSub, Int.reduceToNat, Int.reduceNeg, h0, h3, h6, h7, h8, cz9, cp9]
    refine wst_w [.slice bl' kl' cl', .slice bs' ks' cs', .slice bt' kt' ct'] D9.ob rfl rfl (by simp) (by decide) rfl fun S10 op10 b10 hp10 => ?_
    have hpj : ∀ j, S6.n ≤ j → blkOf (ptrV p) ≠ some j := fun j hj h => by simp [blkOf] at h; have := D6.lt; omega
    have D10 := D6.set (T6.1) (Nat.le_trans g9.n b10.n) op10 ((ol.ext rmE e9).but rmE b10 fun j hj => hpj j (ol.blk rmE j hj).1) ((os.ext stE e9).but stE b10 fun j hj => hpj j (os.blk stE j hj).1) ((ot.ext dotE e9).but dotE b10 fun j hj => hpj j (ot.blk dotE j hj).1)
    have T10 := T9.but b10 fun j hj => by simp [blkOf] at hj; subst hj; exact D9.np
    have g10 : S1.Ext S10 := ((g4.trans e6).trans g9).but b10 fun j hj => by simp [blkOf] at hj; omega
    have hyp : y ≠ p := by have := D4.lt; omega
    have cy10 := (rmB.c (S := S10) (x := y) (m := m) ⟨Nat.lt_of_lt_of_le (hy6'.ext g9).1 b10.n, (b10.obj y (hy6'.ext g9).1 (by simp [blkOf]; omega)).trans (hy6'.ext g9).2⟩)
    simp (disch := omega) only [go_sem, ↓reduceIte, Nat.reduceEqDiff, Nat.reduceAdd, Nat.reduceMul, Nat.reduceSub, Nat.reduceLT, Nat.reduceLeDiff, Nat.reduceBEq, reduceCtorEq, Int.reduceLT, Int.reduceEq, Int.reduceLE, Int.reduceAdd, Int.reduceSub, Int.reduceToNat, Int.reduceNeg, h0, h3, h6, h7, h8, cy10]
    refine wJ_of (F.movetree_Tree_Move_J (m := m) T10 (by omega)) ?_; rintro _ S11 ⟨rfl, Z2, T11, z11, f11⟩
    have D11 := D10.frm f11 z11
    have g11 : S1.Ext S11 := g10.frm f11 hz
    have hz11 : ∀ j, Z2 j → S1.n ≤ j := fun j hj => (z11 j hj).elim (hz j) (fun h => Nat.le_trans g10.n h)
    have hl11 := moveA_len L m
    have cp11 := cells3 D11.ob
    have cx11 := cells2 ((g11.obj x hx0).trans ox)
    simp (disch := omega) only [go_sem, ↓reduceIte, Nat.reduceEqDiff, Nat.reduceAdd, Nat.reduceMul, Nat.reduceSub, Nat.reduceLT, Nat.reduceLeDiff, Nat.reduceBEq, reduceCtorEq, Int.reduceLT, Int.reduceEq, Int.reduceLE, Int.reduceAdd, Int.reduceSub, Int.reduceToNat, Int.reduceNeg, h0, h3, h6, h7, h8, cp11, cx11]
    refine wJ_of (F.osierlaw10_is_J (o := o) T11 (D11.l.sl rmE) (D11.s.sl stE) (D11.t.sl dotE) (by omega)) ?_; rintro _ S12 ⟨rfl, e12⟩
    have D12 := D11.ext e12
    have T12 := T11.ext e12
    have g12 := g11.trans e12
    simp (disch := omega) only [go_sem, ↓reduceIte, Nat.reduceEqDiff, Nat.reduceAdd, Nat.reduceMul, Nat.reduceSub, Nat.reduceLT, Nat.reduceLeDiff, Nat.reduceBEq, reduceCtorEq, Int.reduceLT, Int.reduceEq, Int.reduceLE, Int.reduceAdd, Int.reduceSub, Int.reduceToNat, Int.reduceNeg, h0, h3, h6, h7, h8]
    obtain ⟨lv2, sv2, tv2, D13⟩ : ∃ a b c, DocT S12 Z2 p a b c (moveA L m).2 := ⟨_, _, _, D12⟩
    refine ⟨25 - (i + 1), by omega, i + 1, (moveA L m).2, Z2, lv2, sv2, tv2, ?_⟩
    repeat' first | assumption | omega | (exact St.Ext.refl _) | (exact List.Perm.refl _) | rfl | (exact .inl trivial) | (exact trivial) | refine And.intro ?_ ?_
  rintro fr S4 ⟨L, Z, lv, sv, tv, h3, h6, h7, T4, D4, g4, hLi⟩
  have cx4 := cells2 ((g4.obj x hx0).trans ox)
  have cp4 := cells3 D4.ob
  simp (disch := omega) only [go_sem, ↓reduceIte, Nat.reduceEqDiff, Nat.reduceAdd, Nat.reduceMul, Nat.reduceSub, Nat.reduceLT, Nat.reduceLeDiff, Nat.reduceBEq, reduceCtorEq, Int.reduceLT, Int.reduceEq, Int.reduceLE, Int.reduceAdd, Int.reduceSub, Int.reduceToNat, Int.reduceNeg, h3, h6, h7]
  simp (disch := omega) only [go_sem, ↓reduceIte, Nat.reduceEqDiff, Nat.reduceAdd, Nat.reduceMul, Nat.reduceSub, Nat.reduceLT, Nat.reduceLeDiff, Nat.reduceBEq, reduceCtorEq, Int.reduceLT, Int.reduceEq, Int.reduceLE, Int.reduceAdd, Int.reduceSub, Int.reduceToNat, Int.reduceNeg, cp4, h3, h6, cx4]
  refine wJ_of (F.osierlaw10_is_J (o := o) T4 (D4.l.sl rmE) (D4.s.sl stE) (D4.t.sl dotE) (by omega)) ?_; rintro _ S5 ⟨rfl, e5⟩
  simp (disch := omega) only [go_sem, ↓reduceIte, Nat.reduceEqDiff, Nat.reduceAdd, Nat.reduceMul, Nat.reduceSub, Nat.reduceLT, Nat.reduceLeDiff, Nat.reduceBEq, reduceCtorEq, Int.reduceLT, Int.reduceEq, Int.reduceLE, Int.reduceAdd, Int.reduceSub, Int.reduceToNat, Int.reduceNeg]
end Go.Osj
