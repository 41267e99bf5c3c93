/- Sorting that keeps the order of equals, at operations. -/
import Derived.Test.YtfadbihdmohdiaaGreatDoorGA
set_option linter.unusedVariables false
set_option linter.unusedSimpArgs false
set_option maxHeartbeats 1000000
namespace Go.Osj
abbrev OpR : Type := OpA × SlP
open Stab in
theorem Enc.flat_set {α : Type} (E : Enc α) {zs : List α} {i : Nat} {y : α} (hi : i < zs.length) : wrote (E.flat zs) (i * E.k) (E.enc y) = E.flat (zs.set i y) := by
  have h1 : (E.flat zs).take (i * E.k) = E.flat (zs.take i) := E.flat_take zs i
  have h2 : (E.flat zs).drop ((i + 1) * E.k) = E.flat (zs.drop (i + 1)) := E.flat_drop zs (i + 1)
  unfold wrote
  rw [E.len, h1, show i * E.k + E.k = (i + 1) * E.k by rw [Nat.succ_mul], h2, List.set_eq_take_append_cons_drop, if_pos hi, E.flat_append, E.flat_cons, List.append_assoc]
/-- a row in a block of one's own -/
def DatS {α : Type} (E : Enc α) (S : St) (b cap : Nat) (zs : List α) : St := S.put b (.cells true cap (E.flat zs))
theorem DatS.load {α : Type} {E : Enc α} {S : St} {b cap : Nat} {zs : List α} {i : Nat} {x : α} (h : zs[i]? = some x) : (DatS E S b cap zs).loadN ⟨b, i * E.k, none⟩ E.k = some (E.enc x) := by
  have hi := (List.getElem?_eq_some_iff.1 h).1
  have hle : i * E.k + E.k ≤ zs.length * E.k := by rw [← Nat.succ_mul]; exact Nat.mul_le_mul_right _ hi
  unfold DatS
  rw [St.loadN_same, if_pos (by rw [E.flat_length]; exact hle), E.flat_at zs i x h]
theorem DatS.st {α : Type} {E : Enc α} {S : St} {b cap : Nat} {zs : List α} {i : Nat} {y : α} {k : KV} (hi : i < zs.length) (hc : zs.length * E.k ≤ cap) (hk : k.run undef (DatS E S b cap (zs.set i y))) :
    @wst (.pointer (some ⟨b, i * E.k, none⟩)) (.agg (E.enc y).toArray) E.k (DatS E S b cap zs) k := by
  have hle : i * E.k + E.k ≤ zs.length * E.k := by rw [← Nat.succ_mul]; exact Nat.mul_le_mul_right _ hi
  refine wst_of (St.put_same _ _ _) (by simp [Value.cells, E.len]) (by simpa [Value.cells] using E.one y) (by rw [E.flat_length]; omega) (by omega) ?_
  have e : (Value.agg (E.enc y).toArray).cells.toList = E.enc y := by simp [Value.cells]
  rw [e, E.flat_set hi]
  unfold DatS at *
  rw [St.put_put]
  exact hk
theorem DatS.back {α : Type} {E : Enc α} {S : St} {b cap : Nat} {zs : List α} (h : S.obj b = some (.cells true cap (E.flat zs))) (hb : b < S.n) : DatS E S b cap zs = S := St.put_eq' h hb
/-- a comparing function value -/
def CmpF {α : Type} (P : Program) (E : Enc α) (f : Value) (G : St → Prop) (lt : α → α → Prop) : Prop :=
  ∃ g first captured, f = .func (.func g) first captured ∧ callable P g = true ∧ ∀ S, G S → ∀ x y, J P g (first.toList ++ [.agg (E.enc x).toArray, .agg (E.enc y).toArray] ++ captured.toList) S fun v S' => (∃ c : Int, v = .int .i64 c ∧ (c < 0 ↔ lt x y)) ∧ S = S'
theorem CmpF.call {α : Type} {P : Program} {E : Enc α} {f : Value} {G : St → Prop} {lt : α → α → Prop} (h : CmpF P E f G lt) {S : St} (hG : G S) (x y : α) {k : KV} (hk : ∀ c : Int, (c < 0 ↔ lt x y) → k.run (.int .i64 c) S) :
    @wcallv P f [.agg (E.enc x).toArray, .agg (E.enc y).toArray] S k := by
  obtain ⟨g, first, captured, rfl, hc, hj⟩ := h
  exact ⟨hc, (hj S hG x y).mono fun v S' ⟨⟨c, h1, h2⟩, h3⟩ => by subst h1 h3; exact hk c h2⟩
theorem half64 {i j : Nat} (h : i + j < 4611686018427387904) : IntKind.i64.wrap (Int.fdiv (IntKind.u64.wrap ((i : Int) + (j : Int))) (2 ^ min 1 64)) = (((i + j) / 2 : Nat) : Int) := by
  have e1 : IntKind.u64.wrap ((i : Int) + (j : Int)) = ((i + j : Nat) : Int) := by simp [IntKind.wrap, IntKind.bits, IntKind.signed]; omega
  rw [e1, show ((2 : Int) ^ min 1 64) = 2 by decide, Int.fdiv_eq_ediv_of_nonneg _ (by decide), wrap64 (by omega) (by omega)]
  omega
open Stab in
theorem F.slices_swapRangeCmpFunc_api_Op_J {S : St} {b cap c N a b2 n : Nat} {f : Value} {A X M Y B : List OpR} (ha : A.length = a) (hx : X.length = n) (hb : a + n + M.length = b2) (hy : Y.length = n) (hN : b2 + n + B.length = N) (hcap : N * 14 ≤ cap) (hNb : N < 1000000000000) :
    J PR F.slices_swapRangeCmpFunc_api_Op [.slice (some ⟨b, 0, none⟩) N c, .int .i64 a, .int .i64 b2, .int .i64 n, f] (DatS opE S b cap (A ++ (X ++ (M ++ (Y ++ B))))) fun _ S' => S' = DatS opE S b cap (A ++ (Y ++ (M ++ (X ++ B)))) := by
  refine J_by PR.mixed F.slices_swapRangeCmpFunc_api_Op.ok (by simp) ?_
  simp (disch := omega) only [go_sem, simprocAttr]
  refine wC_loop (fun k fr S' => ∃ (i : Nat) (X1 X2 Y1 Y2 : List OpR), k = X2.length ∧ X = X1 ++ X2 ∧ Y = Y1 ++ Y2 ∧ X1.length = i ∧ Y1.length = i ∧ fr 0 = .slice (some ⟨b, 0, none⟩) N c ∧ fr 1 = .int .i64 a ∧ fr 2 = .int .i64 b2 ∧ fr 3 = .int .i64 n ∧ fr 10 = .int .i64 (i : Nat) ∧
      S' = DatS opE S b cap (A ++ (Y1 ++ (X2 ++ (M ++ (X1 ++ (Y2 ++ B))))))) n ⟨0, [], X, [], Y, by simp (disch := omega) only [go_sem, simprocAttr]; simp [hx]⟩ ?_
  rintro k fr S' ⟨i, X1, X2, Y1, Y2, rfl, rfl, rfl, h1, h2, g0, g1, g2, g3, g10, rfl⟩
  simp only [List.length_append] at hx hy
  simp (disch := omega) only [go_sem, simprocAttr, F.slices_swapRangeCmpFunc_api_Op.l0, g0, g1, g2, g3, g10]
  refine wcond_dec (fun hlt => ?_) (fun hge => ?_)
  · obtain ⟨x, X2, rfl⟩ : ∃ x X', X2 = x :: X' := by cases X2 with
      | nil => simp at hx; omega
      | cons x X' => exact ⟨x, X', rfl⟩
    obtain ⟨y, Y2, rfl⟩ : ∃ y Y', Y2 = y :: Y' := by cases Y2 with
      | nil => simp at hy; omega
      | cons y Y' => exact ⟨y, Y', rfl⟩
    simp only [List.length_cons] at hx hy
    have e0 : A ++ (Y1 ++ (x :: X2 ++ (M ++ (X1 ++ (y :: Y2 ++ B))))) = (A ++ Y1) ++ x :: ((X2 ++ (M ++ X1)) ++ y :: (Y2 ++ B)) := by simp
    obtain ⟨s1, s2, s3⟩ := swap_mid (P := A ++ Y1) (Q := X2 ++ (M ++ X1)) (R := Y2 ++ B) (x := x) (y := y) (i := a + i) (j := b2 + i) (by simp; omega) (by simp; omega)
    rw [e0]
    have l1 : (DatS opE S b cap ((A ++ Y1) ++ x :: ((X2 ++ (M ++ X1)) ++ y :: (Y2 ++ B)))).loadN ⟨b, (a + i) * 14, none⟩ 14 = some (opE.enc x) := DatS.load s1
    have l2 : (DatS opE S b cap ((A ++ Y1) ++ x :: ((X2 ++ (M ++ X1)) ++ y :: (Y2 ++ B)))).loadN ⟨b, (b2 + i) * 14, none⟩ 14 = some (opE.enc y) := DatS.load s2
    have c1 : (0 : Int) ≤ (a : Int) + (i : Int) ∧ (a : Int) + (i : Int) < (N : Int) := by omega
    have c2 : (0 : Int) ≤ (b2 : Int) + (i : Int) ∧ (b2 : Int) + (i : Int) < (N : Int) := by omega
    have t1 : ((a : Int) + (i : Int)).toNat = a + i := by omega
    have t2 : ((b2 : Int) + (i : Int)).toNat = b2 + i := by omega
    have hlen : ((A ++ Y1) ++ x :: ((X2 ++ (M ++ X1)) ++ y :: (Y2 ++ B))).length = N := by simp; omega
    simp (disch := omega) only [go_sem, simprocAttr, g0, g1, g2, g10, c1, c2, t1, t2, l1, l2]
    refine DatS.st (E := opE) (i := a + i) (y := y) (by rw [hlen]; omega) (by rw [hlen]; exact hcap) ?_
    simp (disch := omega) only [go_sem, simprocAttr, g0, g1, g2, g10, c1, c2, t1, t2]
    refine DatS.st (E := opE) (i := b2 + i) (y := x) (by rw [List.length_set, hlen]; omega) (by rw [List.length_set, hlen]; exact hcap) ?_
    rw [s3]
    simp (disch := omega) only [go_sem, simprocAttr, g0, g1, g2, g3, g10]
    refine ⟨X2.length, by simp, i + 1, X1 ++ [x], X2, Y1 ++ [y], Y2, ?_⟩
    have e9 : DatS opE S b cap (A ++ Y1 ++ y :: (X2 ++ (M ++ X1) ++ x :: (Y2 ++ B))) = DatS opE S b cap (A ++ (Y1 ++ [y] ++ (X2 ++ (M ++ (X1 ++ [x] ++ (Y2 ++ B)))))) := by congr 1; simp
    have k1 : (X1 ++ [x]).length = i + 1 := by simp; omega
    have k2 : (Y1 ++ [y]).length = i + 1 := by simp; omega
    have k3 : X1 ++ x :: X2 = X1 ++ [x] ++ X2 := by simp
    have k4 : Y1 ++ y :: Y2 = Y1 ++ [y] ++ Y2 := by simp
    repeat' first | assumption | omega | (exact St.Ext.refl _) | (exact List.Perm.refl _) | rfl | (exact .inl trivial) | (exact trivial) | refine And.intro ?_ ?_
  · simp (disch := omega) only [go_sem, simprocAttr]
    obtain rfl : X2 = [] := List.eq_nil_of_length_eq_zero (by omega)
    obtain rfl : Y2 = [] := List.eq_nil_of_length_eq_zero (by omega)
    simp
open Stab in
theorem F.slices_rotateCmpFunc_api_Op_J {S : St} {b cap c N a m b2 : Nat} {f : Value} {A X Y B : List OpR} (ha : A.length = a) (hx : a + X.length = m) (hy : m + Y.length = b2) (hX : 0 < X.length) (hY : 0 < Y.length) (hN : b2 + B.length = N) (hcap : N * 14 ≤ cap) (hNb : N < 1000000000000) :
    J PR F.slices_rotateCmpFunc_api_Op [.slice (some ⟨b, 0, none⟩) N c, .int .i64 a, .int .i64 m, .int .i64 b2, f] (DatS opE S b cap (A ++ (X ++ (Y ++ B)))) fun _ S' => S' = DatS opE S b cap (A ++ (Y ++ (X ++ B))) := by
  refine J_by PR.mixed F.slices_rotateCmpFunc_api_Op.ok (by simp) ?_
  simp (disch := omega) only [go_sem, simprocAttr]
  refine wC_at 0 (fun fr S' => ∃ (i : Nat) (A' X' Y' B' : List OpR), A'.length + i = m ∧ X'.length = i ∧ Y'.length = i ∧ fr 0 = .slice (some ⟨b, 0, none⟩) N c ∧ fr 2 = .int .i64 m ∧ fr 4 = f ∧ fr 10 = .int .i64 (i : Nat) ∧
      m + i + B'.length = N ∧ S' = DatS opE S b cap (A' ++ (X' ++ (Y' ++ B'))) ∧ A' ++ (Y' ++ (X' ++ B')) = A ++ (Y ++ (X ++ B))) ?_ ?_
  · refine wC_loop (fun k fr S' => ∃ (i j : Nat) (A' X' Y' B' : List OpR), k = i + j ∧ 0 < i ∧ 0 < j ∧ A'.length + i = m ∧ X'.length = i ∧ Y'.length = j ∧ fr 0 = .slice (some ⟨b, 0, none⟩) N c ∧ fr 2 = .int .i64 m ∧ fr 4 = f ∧ fr 10 = .int .i64 (i : Nat) ∧ fr 11 = .int .i64 (j : Nat) ∧
        m + j + B'.length = N ∧ S' = DatS opE S b cap (A' ++ (X' ++ (Y' ++ B'))) ∧ A' ++ (Y' ++ (X' ++ B')) = A ++ (Y ++ (X ++ B))) (X.length + Y.length)
      ⟨X.length, Y.length, A, X, Y, B, by
        have k1 : (m : Int) - (a : Int) = (X.length : Int) := by omega
        have k2 : (b2 : Int) - (m : Int) = (Y.length : Int) := by omega
        simp (disch := omega) only [go_sem, simprocAttr, k1, k2]
        repeat' first | assumption | omega | (exact St.Ext.refl _) | (exact List.Perm.refl _) | rfl | (exact .inl trivial) | (exact trivial) | refine And.intro ?_ ?_
        ⟩ ?_
    rintro k fr S' ⟨i, j, A', X', Y', B', rfl, hi, hj, hA, hX', hY', g0, g2, g4, g10, g11, hB, rfl, htgt⟩
    simp (disch := omega) only [go_sem, simprocAttr, F.slices_rotateCmpFunc_api_Op.l0, g0, g2, g4, g10, g11]
    refine wcond_ndec (fun hne => ?_) (fun he => ?_)
    · have i0 : (m : Int) - (i : Int) = ((m - i : Nat) : Int) := by omega
      simp (disch := omega) only [go_sem, simprocAttr, g10, g11]
      refine wcond_dec (fun hlt => ?_) (fun hge => ?_)
      · simp (disch := omega) only [go_sem, simprocAttr, g0, g2, g4, g10, g11, i0]
        obtain ⟨X1, X2, rfl, hl⟩ : ∃ X1 X2, X' = X1 ++ X2 ∧ X1.length = j := ⟨X'.take j, X'.drop j, (List.take_append_drop _ _).symm, by rw [List.length_take]; omega⟩
        simp only [List.length_append] at hX'
        have e0 : A' ++ (X1 ++ X2 ++ (Y' ++ B')) = A' ++ (X1 ++ (X2 ++ (Y' ++ B'))) := by simp
        rw [e0]
        refine wJ_of (F.slices_swapRangeCmpFunc_api_Op_J (A := A') (X := X1) (M := X2) (Y := Y') (B := B') (by omega) hl (by omega) hY' (by omega) hcap hNb) ?_; rintro _ _ rfl
        simp (disch := omega) only [go_sem, simprocAttr, g0, g2, g4, g10, g11]
        refine ⟨i - j + j, by omega, i - j, j, A' ++ Y', X2, X1, B', ?_⟩
        have k1 : (i : Int) - (j : Int) = ((i - j : Nat) : Int) := by omega
        have k2 : (A' ++ Y').length + (i - j) = m := by simp; omega
        have k3 : DatS opE S b cap (A' ++ (Y' ++ (X2 ++ (X1 ++ B')))) = DatS opE S b cap (A' ++ Y' ++ (X2 ++ (X1 ++ B'))) := by congr 1; simp
        have k4 : A' ++ Y' ++ (X1 ++ (X2 ++ B')) = A ++ (Y ++ (X ++ B)) := by rw [← htgt]; simp
        rw [k1]
        repeat' first | assumption | omega | (exact St.Ext.refl _) | (exact List.Perm.refl _) | rfl | (exact .inl trivial) | (exact trivial) | refine And.intro ?_ ?_
      · have i1 : (m : Int) + (j : Int) - (i : Int) = ((m + j - i : Nat) : Int) := by omega
        simp (disch := omega) only [go_sem, simprocAttr, g0, g2, g4, g10, g11, i0, i1]
        obtain ⟨Y1, Y2, rfl, hl⟩ : ∃ Y1 Y2, Y' = Y1 ++ Y2 ∧ Y2.length = i := ⟨Y'.take (j - i), Y'.drop (j - i), (List.take_append_drop _ _).symm, by rw [List.length_drop]; omega⟩
        simp only [List.length_append] at hY'
        have e0 : A' ++ (X' ++ (Y1 ++ Y2 ++ B')) = A' ++ (X' ++ (Y1 ++ (Y2 ++ B'))) := by simp
        rw [e0]
        refine wJ_of (F.slices_swapRangeCmpFunc_api_Op_J (A := A') (X := X') (M := Y1) (Y := Y2) (B := B') (by omega) hX' (by omega) hl (by omega) hcap hNb) ?_; rintro _ _ rfl
        simp (disch := omega) only [go_sem, simprocAttr, g0, g2, g4, g10, g11]
        refine ⟨i + (j - i), by omega, i, j - i, A', Y2, Y1, X' ++ B', ?_⟩
        have k1 : (j : Int) - (i : Int) = ((j - i : Nat) : Int) := by omega
        have k2 : m + (j - i) + (X' ++ B').length = N := by simp; omega
        have k4 : A' ++ (Y1 ++ (Y2 ++ (X' ++ B'))) = A ++ (Y ++ (X ++ B)) := by rw [← htgt]; simp
        rw [k1]
        repeat' first | assumption | omega | (exact St.Ext.refl _) | (exact List.Perm.refl _) | rfl | (exact .inl trivial) | (exact trivial) | refine And.intro ?_ ?_
    · simp (disch := omega) only [go_sem, simprocAttr]
      obtain rfl : i = j := by omega
      refine ⟨i, A', X', Y', B', ?_⟩
      repeat' first | assumption | omega | (exact St.Ext.refl _) | (exact List.Perm.refl _) | rfl | (exact .inl trivial) | (exact trivial) | refine And.intro ?_ ?_
  rintro fr S' ⟨i, A', X', Y', B', hA, hX', hY', g0, g2, g4, g10, hB, rfl, htgt⟩
  have i0 : (m : Int) - (i : Int) = ((m - i : Nat) : Int) := by omega
  simp (disch := omega) only [go_sem, simprocAttr, g0, g2, g4, g10, i0]
  refine wJ_of (F.slices_swapRangeCmpFunc_api_Op_J (A := A') (X := X') (M := []) (Y := Y') (B := B') (by omega) hX' (by simp; omega) hY' (by omega) hcap hNb) ?_; rintro _ _ rfl
  simp (disch := omega) only [go_sem, simprocAttr]
  rw [← htgt]
open Stab in
theorem F.slices_insertionSortCmpFunc_api_Op_J {S : St} {b cap c N a b2 : Nat} {f : Value} {G : St → Prop} {lt R : OpR → OpR → Prop} {A X B : List OpR} (hf : CmpF PR opE f G lt) (hG : ∀ zs, G (DatS opE S b cap zs)) (hsw : SW lt R) (hR : X.Pairwise R)
    (ha : A.length = a) (hx : a + X.length = b2) (hN : b2 + B.length = N) (hcap : N * 14 ≤ cap) (hNb : N < 1000000000000) :
    J PR F.slices_insertionSortCmpFunc_api_Op [.slice (some ⟨b, 0, none⟩) N c, .int .i64 a, .int .i64 b2, f] (DatS opE S b cap (A ++ (X ++ B))) fun _ S' => ∃ Z : List OpR, Z.Perm X ∧ Sd lt R Z ∧ S' = DatS opE S b cap (A ++ (Z ++ B)) := by
  refine J_by PR.mixed F.slices_insertionSortCmpFunc_api_Op.ok (by simp) ?_
  simp (disch := omega) only [go_sem, simprocAttr]
  cases X with
  | nil =>
    refine wC_unroll ?_
    have k1 : ¬ ((a : Int) + 1 < (b2 : Int)) := by simp at hx; omega
    simp (disch := omega) only [go_sem, simprocAttr, F.slices_insertionSortCmpFunc_api_Op.l1, k1]
    exact ⟨[], List.Perm.refl _, List.Pairwise.nil, rfl⟩
  | cons x0 X0 =>
  refine wC_loop (fun k fr S' => ∃ (i : Nat) (X1 X2 Z1 : List OpR), k = X2.length ∧ x0 :: X0 = X1 ++ X2 ∧ Z1.Perm X1 ∧ Sd lt R Z1 ∧ a + X1.length = i ∧ fr 0 = .slice (some ⟨b, 0, none⟩) N c ∧ fr 1 = .int .i64 a ∧ fr 2 = .int .i64 b2 ∧ fr 3 = f ∧ fr 8 = .int .i64 (i : Nat) ∧
      S' = DatS opE S b cap (A ++ (Z1 ++ (X2 ++ B)))) X0.length ⟨a + 1, [x0], X0, [x0], by
        have k0 : Sd lt R [x0] := List.pairwise_singleton _ _
        have k1 : x0 :: X0 = [x0] ++ X0 := rfl
        simp (disch := omega) only [go_sem, simprocAttr]
        repeat' first | assumption | omega | (exact St.Ext.refl _) | (exact List.Perm.refl _) | rfl | (exact .inl trivial) | (exact trivial) | refine And.intro ?_ ?_
        ⟩ ?_
  rintro k fr S' ⟨i, X1, X2, Z1, rfl, hX, hZ, hS, hi, g0, g1, g2, g3, g8, rfl⟩
  have hXl := congrArg List.length hX
  simp only [List.length_append, List.length_cons] at hXl hx
  have hZl := hZ.length_eq
  simp (disch := omega) only [go_sem, simprocAttr, F.slices_insertionSortCmpFunc_api_Op.l1, g0, g1, g2, g3, g8]
  refine wcond_dec (fun hlt => ?_) (fun hge => ?_)
  rotate_left
  · simp (disch := omega) only [go_sem, simprocAttr]
    obtain rfl : X2 = [] := List.eq_nil_of_length_eq_zero (by omega)
    rw [List.append_nil] at hX
    exact ⟨Z1, hX ▸ hZ, hS, rfl⟩
  obtain ⟨x, X2, rfl⟩ : ∃ x X', X2 = x :: X' := by cases X2 with
    | nil => simp at hXl; omega
    | cons x X' => exact ⟨x, X', rfl⟩
  have hRx : ∀ p ∈ X1, R p x := by
    rw [hX] at hR
    exact fun p hp => (List.pairwise_append.1 hR).2.2 p hp x (by simp)
  simp only [List.length_cons] at hXl
  simp (disch := omega) only [go_sem, simprocAttr, g8]
  refine wC_at 2 (fun fr S' => ∃ (P Q : List OpR), Z1 = P ++ Q ∧ (∀ q ∈ Q.head?, TO lt R x q) ∧ (∀ p ∈ P.getLast?, ¬ lt x p) ∧ fr 0 = .slice (some ⟨b, 0, none⟩) N c ∧ fr 1 = .int .i64 a ∧ fr 2 = .int .i64 b2 ∧ fr 3 = f ∧ fr 8 = .int .i64 (i : Nat) ∧
      S' = DatS opE S b cap (A ++ (P ++ x :: (Q ++ (X2 ++ B))))) ?_ ?_
  · refine wC_loop (fun k fr S' => ∃ (j : Nat) (P Q : List OpR), k = P.length ∧ Z1 = P ++ Q ∧ (∀ q ∈ Q.head?, TO lt R x q) ∧ a + P.length = j ∧ fr 0 = .slice (some ⟨b, 0, none⟩) N c ∧ fr 1 = .int .i64 a ∧ fr 2 = .int .i64 b2 ∧ fr 3 = f ∧ fr 8 = .int .i64 (i : Nat) ∧ fr 9 = .int .i64 (j : Nat) ∧
        S' = DatS opE S b cap (A ++ (P ++ x :: (Q ++ (X2 ++ B))))) Z1.length ⟨i, Z1, [], by
          have k0 : ∀ q ∈ ([] : List OpR).head?, TO lt R x q := by simp
          have k1 : Z1 = Z1 ++ [] := by simp
          have k2 : a + Z1.length = i := by omega
          simp (disch := omega) only [go_sem, simprocAttr]
          repeat' first | assumption | omega | (exact St.Ext.refl _) | (exact List.Perm.refl _) | rfl | (exact .inl trivial) | (exact trivial) | refine And.intro ?_ ?_
          ⟩ ?_
    rintro k fr S' ⟨j, P, Q, rfl, hPQ, hQ, hj, g0, g1, g2, g3, g8, g9, rfl⟩
    have hPl := congrArg List.length hPQ
    simp only [List.length_append] at hPl
    simp (disch := omega) only [go_sem, simprocAttr, F.slices_insertionSortCmpFunc_api_Op.l0, g0, g1, g2, g3, g8, g9]
    refine wguard_dec (fun hgt => ?_) (fun hgt => ?_)
    rotate_left
    · obtain rfl : P = [] := List.eq_nil_of_length_eq_zero (by omega)
      simp (disch := omega) only [go_sem, simprocAttr, hgt]
      refine ⟨[], Q, ?_⟩
      have k0 : ∀ p ∈ ([] : List OpR).getLast?, ¬ lt x p := by simp
      repeat' first | assumption | omega | (exact St.Ext.refl _) | (exact List.Perm.refl _) | rfl | (exact .inl trivial) | (exact trivial) | refine And.intro ?_ ?_
    have hPne : P ≠ [] := by rintro rfl; simp at hj; omega
    obtain ⟨P, p, rfl⟩ : ∃ P' p, P = P' ++ [p] := ⟨P.dropLast, P.getLast hPne, (List.dropLast_concat_getLast hPne).symm⟩
    simp only [List.length_append, List.length_singleton] at hj hPl
    obtain ⟨j, rfl⟩ : ∃ j', j = j' + 1 := ⟨j - 1, by omega⟩
    have e0 : A ++ (P ++ [p] ++ x :: (Q ++ (X2 ++ B))) = (A ++ P) ++ p :: x :: (Q ++ (X2 ++ B)) := by simp
    obtain ⟨s1, s2, -, s3⟩ := swap_adj (P := A ++ P) (R := Q ++ (X2 ++ B)) (x := p) (y := x) (i := j) (by simp; omega)
    rw [e0]
    have l1 : (DatS opE S b cap ((A ++ P) ++ p :: x :: (Q ++ (X2 ++ B)))).loadN ⟨b, j * 14, none⟩ 14 = some (opE.enc p) := DatS.load s1
    have l2 : (DatS opE S b cap ((A ++ P) ++ p :: x :: (Q ++ (X2 ++ B)))).loadN ⟨b, (j + 1) * 14, none⟩ 14 = some (opE.enc x) := DatS.load s2
    have hlen : ((A ++ P) ++ p :: x :: (Q ++ (X2 ++ B))).length = N := by simp; omega
    have i1 : ((j + 1 : Nat) : Int) - 1 = (j : Int) := by omega
    have c1 : (0 : Int) ≤ (j : Int) ∧ (j : Int) < (N : Int) := by omega
    have c2 : (0 : Int) ≤ ((j + 1 : Nat) : Int) ∧ ((j + 1 : Nat) : Int) < (N : Int) := by omega
    have hgt' : (a : Int) < ((j + 1 : Nat) : Int) := by omega
    simp (disch := omega) only [go_sem, simprocAttr, hgt', g0, g1, g3, g8, g9, i1, c1, c2, l1, l2]
    refine hf.call (hG _) x p fun cv hcv => ?_
    simp (disch := omega) only [go_sem, simprocAttr, hgt']
    refine wcond_dec (fun hneg => ?_) (fun hpos => ?_)
    · simp (disch := omega) only [go_sem, simprocAttr, g0, g1, g3, g8, g9, i1, c1, c2, l1, l2]
      refine DatS.st (E := opE) (i := j + 1) (y := p) (by rw [hlen]; omega) (by rw [hlen]; exact hcap) ?_
      simp (disch := omega) only [go_sem, simprocAttr, g0, g1, g3, g8, g9, i1, c1, c2]
      refine DatS.st (E := opE) (i := j) (y := x) (by rw [List.length_set, hlen]; omega) (by rw [List.length_set, hlen]; exact hcap) ?_
      rw [s3]
      simp (disch := omega) only [go_sem, simprocAttr, g0, g1, g2, g3, g8, g9, i1]
      refine ⟨P.length, by simp, j, P, p :: Q, ?_⟩
      have k1 : Z1 = P ++ p :: Q := by rw [hPQ]; simp
      have k2 : ∀ q ∈ (p :: Q).head?, TO lt R x q := by
        intro q hq
        obtain rfl : p = q := by simpa using hq
        exact .inl (hcv.1 hneg)
      have k3 : DatS opE S b cap (A ++ P ++ x :: p :: (Q ++ (X2 ++ B))) = DatS opE S b cap (A ++ (P ++ x :: (p :: Q ++ (X2 ++ B)))) := by congr 1; simp
      repeat' first | assumption | omega | (exact St.Ext.refl _) | (exact List.Perm.refl _) | rfl | (exact .inl trivial) | (exact trivial) | refine And.intro ?_ ?_
    · simp (disch := omega) only [go_sem, simprocAttr]
      refine ⟨P ++ [p], Q, ?_⟩
      have k1 : ∀ q ∈ (P ++ [p]).getLast?, ¬ lt x q := by
        intro q hq
        obtain rfl : p = q := by simpa using hq
        exact fun h => hpos (hcv.2 h)
      have k3 : DatS opE S b cap (A ++ P ++ p :: x :: (Q ++ (X2 ++ B))) = DatS opE S b cap (A ++ (P ++ [p] ++ x :: (Q ++ (X2 ++ B)))) := by congr 1; simp
      repeat' first | assumption | omega | (exact St.Ext.refl _) | (exact List.Perm.refl _) | rfl | (exact .inl trivial) | (exact trivial) | refine And.intro ?_ ?_
  rintro fr S' ⟨P, Q, hPQ, hQ, hP, g0, g1, g2, g3, g8, rfl⟩
  simp (disch := omega) only [go_sem, simprocAttr, g0, g1, g2, g3, g8]
  refine ⟨X2.length, by simp, i + 1, X1 ++ [x], X2, P ++ x :: Q, ?_⟩
  have k1 : x0 :: X0 = X1 ++ [x] ++ X2 := by rw [hX]; simp
  have k2 : (P ++ x :: Q).Perm (X1 ++ [x]) := (List.perm_middle.trans (List.Perm.cons x (hPQ ▸ hZ))).trans (List.perm_append_singleton x X1).symm
  have k3 : Sd lt R (P ++ x :: Q) := sd_insert hsw (hPQ ▸ hS) (fun p hp => .inr ⟨hP p hp, hRx p (hZ.mem_iff.1 (by rw [hPQ]; exact List.mem_append_left _ (List.mem_of_getLast? hp)))⟩) hQ
  have k4 : a + (X1 ++ [x]).length = i + 1 := by simp; omega
  have k5 : DatS opE S b cap (A ++ (P ++ x :: (Q ++ (X2 ++ B)))) = DatS opE S b cap (A ++ (P ++ x :: Q ++ (X2 ++ B))) := by congr 1; simp
  repeat' first | assumption | omega | (exact St.Ext.refl _) | (exact List.Perm.refl _) | rfl | (exact .inl trivial) | (exact trivial) | refine And.intro ?_ ?_
theorem get_L {α : Type} {A L Q B : List α} {a h : Nat} (ha : A.length = a) (hh : h < L.length) : (A ++ (L ++ (Q ++ B)))[a + h]? = some L[h] := by
  subst ha
  rw [List.getElem?_append_right (by omega), show A.length + h - A.length = h by omega, List.getElem?_append_left hh, List.getElem?_eq_getElem hh]
theorem get_Q {α : Type} {A L Q B : List α} {a m h : Nat} (ha : A.length = a) (hm : a + L.length = m) (hh : h < Q.length) : (A ++ (L ++ (Q ++ B)))[m + h]? = some Q[h] := by
  subst ha hm
  rw [List.getElem?_append_right (by omega), List.getElem?_append_right (by omega), show A.length + L.length + h - A.length - L.length = h by omega, List.getElem?_append_left hh, List.getElem?_eq_getElem hh]
set_option maxHeartbeats 6000000 in
open Stab in
theorem F.slices_symMergeCmpFunc_api_Op_J {S : St} {b cap c N : Nat} {f : Value} {G : St → Prop} {lt R : OpR → OpR → Prop} (hf : CmpF PR opE f G lt) (hG : ∀ zs, G (DatS opE S b cap zs)) (hsw : SW lt R) (hcap : N * 14 ≤ cap) (hNb : N < 1000000000000) : ∀ (n : Nat) {a m b2 : Nat} {A L Q B : List OpR},
    L.length + Q.length = n → A.length = a → a + L.length = m → m + Q.length = b2 → b2 + B.length = N → 0 < L.length → 0 < Q.length → Sd lt R L → Sd lt R Q → (∀ x ∈ L, ∀ y ∈ Q, R x y) → ∀ zs, zs = A ++ (L ++ (Q ++ B)) →
    J PR F.slices_symMergeCmpFunc_api_Op [.slice (some ⟨b, 0, none⟩) N c, .int .i64 a, .int .i64 m, .int .i64 b2, f] (DatS opE S b cap zs) fun _ S' => ∃ Z : List OpR, Z.Perm (L ++ Q) ∧ Sd lt R Z ∧ S' = DatS opE S b cap (A ++ (Z ++ B)) := by
  intro n
  induction n using Nat.strongRecOn with
  | _ n IH =>
  intro a m b2 A L Q B hn ha hm hb hN hL hQ sL sQ hR zs hz
  have hzl : zs.length = N := by rw [hz]; simp; omega
  refine J_by PR.mixed F.slices_symMergeCmpFunc_api_Op.ok (by simp) ?_
  simp (disch := omega) only [go_sem, simprocAttr]
  by_cases h1 : L.length = 1
  · obtain ⟨x, rfl⟩ : ∃ x, L = [x] := List.length_eq_one_iff.1 h1
    have hma : a + 1 = m := hm
    have d1 : (m : Int) - (a : Int) = 1 := by omega
    have ca : (0 : Int) ≤ (a : Int) ∧ (a : Int) < (N : Int) := by omega
    have la : (DatS opE S b cap zs).loadN ⟨b, a * 14, none⟩ 14 = some (opE.enc x) := DatS.load (by rw [hz]; exact get_L ha (h := 0) (by simp))
    simp (disch := omega) only [go_sem, simprocAttr, d1]
    refine wC_at 0 (fun fr S' => ∃ i : Nat, i ≤ Q.length ∧ fr 0 = .slice (some ⟨b, 0, none⟩) N c ∧ fr 1 = .int .i64 a ∧ fr 10 = .int .i64 (m + i : Nat) ∧ S' = DatS opE S b cap zs ∧ (∀ y ∈ (Q.take i).getLast?, lt y x) ∧ (∀ y ∈ (Q.drop i).head?, ¬ lt y x)) ?_ ?_
    · refine wC_loop (fun k fr S' => ∃ i j : Nat, k = j - i ∧ i ≤ j ∧ j ≤ Q.length ∧ fr 0 = .slice (some ⟨b, 0, none⟩) N c ∧ fr 1 = .int .i64 a ∧ fr 4 = f ∧ fr 10 = .int .i64 (m + i : Nat) ∧ fr 11 = .int .i64 (m + j : Nat) ∧ S' = DatS opE S b cap zs ∧ (∀ y ∈ (Q.take i).getLast?, lt y x) ∧ (∀ y ∈ (Q.drop j).head?, ¬ lt y x)) Q.length
        ⟨0, Q.length, by
          have k1 : ∀ y ∈ (Q.take 0).getLast?, lt y x := by simp
          have k2 : ∀ y ∈ (Q.drop Q.length).head?, ¬ lt y x := by simp
          have k3 : Value.int .i64 (b2 : Int) = Value.int .i64 ((m + Q.length : Nat) : Int) := by rw [hb]
          simp (disch := omega) only [go_sem, simprocAttr]
          repeat' first | assumption | omega | (exact St.Ext.refl _) | (exact List.Perm.refl _) | rfl | (exact .inl trivial) | (exact trivial) | refine And.intro ?_ ?_
          ⟩ ?_
      rintro k fr S' ⟨i, j, rfl, hij, hj, g0, g1, g4, g10, g11, rfl, hi1, hi2⟩
      simp (disch := omega) only [go_sem, simprocAttr, F.slices_symMergeCmpFunc_api_Op.l0, g0, g1, g4, g10, g11]
      refine wcond_dec (fun hlt => ?_) (fun hge => ?_)
      · have hh : (i + j) / 2 < Q.length := by omega
        have hs := half64 (i := m + i) (j := m + j) (by omega)
        rw [show (m + i + (m + j)) / 2 = m + (i + j) / 2 by omega] at hs
        have lh : (DatS opE S b cap zs).loadN ⟨b, (m + (i + j) / 2) * 14, none⟩ 14 = some (opE.enc Q[(i + j) / 2]) := DatS.load (by rw [hz]; exact get_Q ha hm hh)
        have ch : (0 : Int) ≤ ((m + (i + j) / 2 : Nat) : Int) ∧ ((m + (i + j) / 2 : Nat) : Int) < (N : Int) := by omega
        simp (disch := omega) only [go_sem, simprocAttr, g0, g1, g4, g10, g11, hs, ca, ch, la, lh]
        refine hf.call (hG _) Q[(i + j) / 2] x fun cv hcv => ?_
        simp (disch := omega) only [go_sem, simprocAttr]
        refine wcond_dec (fun hneg => ?_) (fun hpos => ?_)
        · simp (disch := omega) only [go_sem, simprocAttr, g0, g1, g4, g10, g11, hs]
          refine ⟨j - ((i + j) / 2 + 1), by omega, (i + j) / 2 + 1, j, ?_⟩
          have k1 : ∀ y ∈ (Q.take ((i + j) / 2 + 1)).getLast?, lt y x := by
            rw [take_snoc (List.getElem?_eq_getElem hh)]
            intro y hy
            obtain rfl : Q[(i + j) / 2] = y := Option.some.inj (List.getLast?_concat.symm.trans hy)
            exact hcv.1 hneg
          repeat' first | assumption | omega | (exact St.Ext.refl _) | (exact List.Perm.refl _) | rfl | (exact .inl trivial) | (exact trivial) | refine And.intro ?_ ?_
        · simp (disch := omega) only [go_sem, simprocAttr, g0, g1, g4, g10, g11, hs]
          refine ⟨(i + j) / 2 - i, by omega, i, (i + j) / 2, ?_⟩
          have k1 : ∀ y ∈ (Q.drop ((i + j) / 2)).head?, ¬ lt y x := by
            rw [List.drop_eq_getElem_cons hh]
            intro y hy
            obtain rfl : Q[(i + j) / 2] = y := Option.some.inj (List.head?_cons.symm.trans hy)
            exact fun h => hpos (hcv.2 h)
          repeat' first | assumption | omega | (exact St.Ext.refl _) | (exact List.Perm.refl _) | rfl | (exact .inl trivial) | (exact trivial) | refine And.intro ?_ ?_
      · simp (disch := omega) only [go_sem, simprocAttr]
        obtain rfl : i = j := by omega
        refine ⟨i, ?_⟩
        repeat' first | assumption | omega | (exact St.Ext.refl _) | (exact List.Perm.refl _) | rfl | (exact .inl trivial) | (exact trivial) | refine And.intro ?_ ?_
    rintro fr S' ⟨i, hi, g0, g1, g10, rfl, hi1, hi2⟩
    simp (disch := omega) only [go_sem, simprocAttr, g0, g1, g10]
    generalize hR1 : Q.take i = R1 at *
    generalize hR2 : Q.drop i = R2 at *
    have hQR : Q = R1 ++ R2 := by rw [← hR1, ← hR2, List.take_append_drop]
    have hR1l : R1.length = i := by rw [← hR1, List.length_take]; omega
    refine wC_loop (fun k fr S' => ∃ (j : Nat) (P K ys : List OpR), k = K.length ∧ R1 = P ++ K ∧ a + P.length = j ∧ fr 0 = .slice (some ⟨b, 0, none⟩) N c ∧ fr 10 = .int .i64 (m + i : Nat) ∧ fr 13 = .int .i64 (j : Nat) ∧ S' = DatS opE S b cap ys ∧ ys = A ++ (P ++ x :: (K ++ (R2 ++ B)))) R1.length
      ⟨a, [], R1, zs, by
        have k1 : zs = A ++ ([] ++ x :: (R1 ++ (R2 ++ B))) := by rw [hz, hQR]; simp
        simp (disch := omega) only [go_sem, simprocAttr]
        repeat' first | assumption | omega | (exact St.Ext.refl _) | (exact List.Perm.refl _) | rfl | (exact .inl trivial) | (exact trivial) | refine And.intro ?_ ?_
        ⟩ ?_
    rintro k fr S' ⟨j, P, K, ys, rfl, hPK, hj, g0, g10, g13, rfl, hys⟩
    have hPKl := congrArg List.length hPK
    simp only [List.length_append] at hPKl
    have hyl : ys.length = N := by
      rw [hys]
      have := congrArg List.length hQR
      simp at this ⊢
      omega
    have i1 : ((m + i : Nat) : Int) - 1 = ((a + i : Nat) : Int) := by omega
    simp (disch := omega) only [go_sem, simprocAttr, F.slices_symMergeCmpFunc_api_Op.l1, g0, g10, g13, i1]
    refine wcond_dec (fun hlt => ?_) (fun hge => ?_)
    · obtain ⟨y, K, rfl⟩ : ∃ y K', K = y :: K' := by cases K with
        | nil => simp at hPKl; omega
        | cons y K' => exact ⟨y, K', rfl⟩
      simp only [List.length_cons] at hPKl
      have e0 : A ++ (P ++ x :: (y :: K ++ (R2 ++ B))) = (A ++ P) ++ x :: y :: (K ++ (R2 ++ B)) := by simp
      rw [e0] at hys
      obtain ⟨s1, s2, s3, -⟩ := swap_adj (P := A ++ P) (R := K ++ (R2 ++ B)) (x := x) (y := y) (i := j) (by simp; omega)
      rw [← hys] at s1 s2 s3
      have l1 : (DatS opE S b cap ys).loadN ⟨b, j * 14, none⟩ 14 = some (opE.enc x) := DatS.load s1
      have l2 : (DatS opE S b cap ys).loadN ⟨b, (j + 1) * 14, none⟩ 14 = some (opE.enc y) := DatS.load s2
      have i2 : (j : Int) + 1 = ((j + 1 : Nat) : Int) := rfl
      have c1 : (0 : Int) ≤ (j : Int) ∧ (j : Int) < (N : Int) := by omega
      have c2 : (0 : Int) ≤ ((j + 1 : Nat) : Int) ∧ ((j + 1 : Nat) : Int) < (N : Int) := by omega
      simp (disch := omega) only [go_sem, simprocAttr, g0, g13, i2, c1, c2, l1, l2]
      refine DatS.st (E := opE) (i := j) (y := y) (by omega) (by rw [hyl]; exact hcap) ?_
      simp (disch := omega) only [go_sem, simprocAttr, g0, g13, i2, c1, c2]
      refine DatS.st (E := opE) (i := j + 1) (y := x) (by rw [List.length_set]; omega) (by rw [List.length_set, hyl]; exact hcap) ?_
      rw [s3]
      simp (disch := omega) only [go_sem, simprocAttr, g0, g10, g13, i2]
      refine ⟨K.length, by simp, j + 1, P ++ [y], K, A ++ P ++ y :: x :: (K ++ (R2 ++ B)), ?_⟩
      have k1 : R1 = P ++ [y] ++ K := by rw [hPK]; simp
      have k2 : a + (P ++ [y]).length = j + 1 := by simp; omega
      have k3 : A ++ P ++ y :: x :: (K ++ (R2 ++ B)) = A ++ (P ++ [y] ++ x :: (K ++ (R2 ++ B))) := by simp
      repeat' first | assumption | omega | (exact St.Ext.refl _) | (exact List.Perm.refl _) | rfl | (exact .inl trivial) | (exact trivial) | refine And.intro ?_ ?_
    · simp (disch := omega) only [go_sem, simprocAttr]
      obtain rfl : K = [] := List.eq_nil_of_length_eq_zero (by omega)
      rw [List.append_nil] at hPK
      subst hPK
      refine ⟨R1 ++ x :: R2, ?_, ?_, by rw [hys]; congr 1; simp⟩
      · rw [hQR]
        exact List.perm_middle
      · refine sd_insert hsw (hQR ▸ sQ) (fun y hy => .inl (hi1 y hy)) (fun y hy => .inr ⟨hi2 y hy, hR x (by simp) y ?_⟩)
        rw [hQR]
        exact List.mem_append_right _ (List.mem_of_mem_head? hy)
  have d1 : ¬ ((m : Int) - (a : Int) = 1) := by omega
  by_cases h2 : Q.length = 1
  · obtain ⟨y, rfl⟩ : ∃ y, Q = [y] := List.length_eq_one_iff.1 h2
    have hmb : m + 1 = b2 := hb
    have d2 : (b2 : Int) - (m : Int) = 1 := by omega
    have cm : (0 : Int) ≤ (m : Int) ∧ (m : Int) < (N : Int) := by omega
    have lm : (DatS opE S b cap zs).loadN ⟨b, m * 14, none⟩ 14 = some (opE.enc y) := DatS.load (by rw [hz]; exact get_Q ha hm (h := 0) (by simp))
    simp (disch := omega) only [go_sem, simprocAttr, d1, d2]
    refine wC_at 4 (fun fr S' => ∃ i : Nat, i ≤ L.length ∧ fr 0 = .slice (some ⟨b, 0, none⟩) N c ∧ fr 2 = .int .i64 m ∧ fr 14 = .int .i64 (a + i : Nat) ∧ S' = DatS opE S b cap zs ∧ (∀ x ∈ (L.take i).getLast?, ¬ lt y x) ∧ (∀ x ∈ (L.drop i).head?, lt y x)) ?_ ?_
    · refine wC_loop (fun k fr S' => ∃ i j : Nat, k = j - i ∧ i ≤ j ∧ j ≤ L.length ∧ fr 0 = .slice (some ⟨b, 0, none⟩) N c ∧ fr 2 = .int .i64 m ∧ fr 4 = f ∧ fr 14 = .int .i64 (a + i : Nat) ∧ fr 15 = .int .i64 (a + j : Nat) ∧ S' = DatS opE S b cap zs ∧ (∀ x ∈ (L.take i).getLast?, ¬ lt y x) ∧ (∀ x ∈ (L.drop j).head?, lt y x)) L.length
        ⟨0, L.length, by
          have k1 : ∀ x ∈ (L.take 0).getLast?, ¬ lt y x := by simp
          have k2 : ∀ x ∈ (L.drop L.length).head?, lt y x := by simp
          have k3 : Value.int .i64 (m : Int) = Value.int .i64 ((a + L.length : Nat) : Int) := by rw [hm]
          simp (disch := omega) only [go_sem, simprocAttr]
          repeat' first | assumption | omega | (exact St.Ext.refl _) | (exact List.Perm.refl _) | rfl | (exact .inl trivial) | (exact trivial) | refine And.intro ?_ ?_
          ⟩ ?_
      rintro k fr S' ⟨i, j, rfl, hij, hj, g0, g2, g4, g14, g15, rfl, hi1, hi2⟩
      simp (disch := omega) only [go_sem, simprocAttr, F.slices_symMergeCmpFunc_api_Op.l2, g0, g2, g4, g14, g15]
      refine wcond_dec (fun hlt => ?_) (fun hge => ?_)
      · have hh : (i + j) / 2 < L.length := by omega
        have hs := half64 (i := a + i) (j := a + j) (by omega)
        rw [show (a + i + (a + j)) / 2 = a + (i + j) / 2 by omega] at hs
        have lh : (DatS opE S b cap zs).loadN ⟨b, (a + (i + j) / 2) * 14, none⟩ 14 = some (opE.enc L[(i + j) / 2]) := DatS.load (by rw [hz]; exact get_L ha hh)
        have ch : (0 : Int) ≤ ((a + (i + j) / 2 : Nat) : Int) ∧ ((a + (i + j) / 2 : Nat) : Int) < (N : Int) := by omega
        simp (disch := omega) only [go_sem, simprocAttr, g0, g2, g4, g14, g15, hs, cm, ch, lm, lh]
        refine hf.call (hG _) y L[(i + j) / 2] fun cv hcv => ?_
        simp (disch := omega) only [go_sem, simprocAttr]
        refine wcond_ndec (fun hpos => ?_) (fun hneg => ?_)
        · simp (disch := omega) only [go_sem, simprocAttr, g0, g2, g4, g14, g15, hs]
          refine ⟨j - ((i + j) / 2 + 1), by omega, (i + j) / 2 + 1, j, ?_⟩
          have k1 : ∀ x ∈ (L.take ((i + j) / 2 + 1)).getLast?, ¬ lt y x := by
            rw [take_snoc (List.getElem?_eq_getElem hh)]
            intro x hx
            obtain rfl : L[(i + j) / 2] = x := Option.some.inj (List.getLast?_concat.symm.trans hx)
            exact fun h => hpos (hcv.2 h)
          repeat' first | assumption | omega | (exact St.Ext.refl _) | (exact List.Perm.refl _) | rfl | (exact .inl trivial) | (exact trivial) | refine And.intro ?_ ?_
        · simp (disch := omega) only [go_sem, simprocAttr, g0, g2, g4, g14, g15, hs]
          refine ⟨(i + j) / 2 - i, by omega, i, (i + j) / 2, ?_⟩
          have k1 : ∀ x ∈ (L.drop ((i + j) / 2)).head?, lt y x := by
            rw [List.drop_eq_getElem_cons hh]
            intro x hx
            obtain rfl : L[(i + j) / 2] = x := Option.some.inj (List.head?_cons.symm.trans hx)
            exact hcv.1 hneg
          repeat' first | assumption | omega | (exact St.Ext.refl _) | (exact List.Perm.refl _) | rfl | (exact .inl trivial) | (exact trivial) | refine And.intro ?_ ?_
      · simp (disch := omega) only [go_sem, simprocAttr]
        obtain rfl : i = j := by omega
        refine ⟨i, ?_⟩
        repeat' first | assumption | omega | (exact St.Ext.refl _) | (exact List.Perm.refl _) | rfl | (exact .inl trivial) | (exact trivial) | refine And.intro ?_ ?_
    rintro fr S' ⟨i, hi, g0, g2, g14, rfl, hi1, hi2⟩
    simp (disch := omega) only [go_sem, simprocAttr, g0, g2, g14]
    generalize hL1 : L.take i = L1 at *
    generalize hL2 : L.drop i = L2 at *
    have hLL : L = L1 ++ L2 := by rw [← hL1, ← hL2, List.take_append_drop]
    have hLLl := congrArg List.length hLL
    simp only [List.length_append] at hLLl
    have hL1l : L1.length = i := by rw [← hL1, List.length_take]; omega
    refine wC_loop (fun k fr S' => ∃ (j : Nat) (P K ys : List OpR), k = P.length ∧ L2 = P ++ K ∧ a + i + P.length = j ∧ fr 0 = .slice (some ⟨b, 0, none⟩) N c ∧ fr 14 = .int .i64 (a + i : Nat) ∧ fr 17 = .int .i64 (j : Nat) ∧ S' = DatS opE S b cap ys ∧ ys = A ++ (L1 ++ (P ++ y :: (K ++ B)))) L2.length
      ⟨m, L2, [], zs, by
        have k1 : zs = A ++ (L1 ++ (L2 ++ y :: ([] ++ B))) := by rw [hz, hLL]; simp
        have k2 : L2 = L2 ++ [] := by simp
        simp (disch := omega) only [go_sem, simprocAttr]
        repeat' first | assumption | omega | (exact St.Ext.refl _) | (exact List.Perm.refl _) | rfl | (exact .inl trivial) | (exact trivial) | refine And.intro ?_ ?_
        ⟩ ?_
    rintro k fr S' ⟨j, P, K, ys, rfl, hPK, hj, g0, g14, g17, rfl, hys⟩
    have hPKl := congrArg List.length hPK
    simp only [List.length_append] at hPKl
    have hyl : ys.length = N := by
      rw [hys]
      simp
      omega
    simp (disch := omega) only [go_sem, simprocAttr, F.slices_symMergeCmpFunc_api_Op.l3, g0, g14, g17]
    refine wcond_dec (fun hgt => ?_) (fun hle => ?_)
    · have hPne : P ≠ [] := by rintro rfl; simp at hj; omega
      obtain ⟨P, p, rfl⟩ : ∃ P' p, P = P' ++ [p] := ⟨P.dropLast, P.getLast hPne, (List.dropLast_concat_getLast hPne).symm⟩
      simp only [List.length_append, List.length_singleton] at hj hPKl
      obtain ⟨j, rfl⟩ : ∃ j', j = j' + 1 := ⟨j - 1, by omega⟩
      have e0 : A ++ (L1 ++ (P ++ [p] ++ y :: (K ++ B))) = (A ++ L1 ++ P) ++ p :: y :: (K ++ B) := by simp
      rw [e0] at hys
      obtain ⟨s1, s2, -, s3⟩ := swap_adj (P := A ++ L1 ++ P) (R := K ++ B) (x := p) (y := y) (i := j) (by simp; omega)
      rw [← hys] at s1 s2 s3
      have l1 : (DatS opE S b cap ys).loadN ⟨b, j * 14, none⟩ 14 = some (opE.enc p) := DatS.load s1
      have l2 : (DatS opE S b cap ys).loadN ⟨b, (j + 1) * 14, none⟩ 14 = some (opE.enc y) := DatS.load s2
      have i1 : ((j + 1 : Nat) : Int) - 1 = (j : Int) := by omega
      have c1 : (0 : Int) ≤ (j : Int) ∧ (j : Int) < (N : Int) := by omega
      have c2 : (0 : Int) ≤ ((j + 1 : Nat) : Int) ∧ ((j + 1 : Nat) : Int) < (N : Int) := by omega
      simp (disch := omega) only [go_sem, simprocAttr, g0, g17, i1, c1, c2, l1, l2]
      refine DatS.st (E := opE) (i := j + 1) (y := p) (by omega) (by rw [hyl]; exact hcap) ?_
      simp (disch := omega) only [go_sem, simprocAttr, g0, g17, i1, c1, c2]
      refine DatS.st (E := opE) (i := j) (y := y) (by rw [List.length_set]; omega) (by rw [List.length_set, hyl]; exact hcap) ?_
      rw [s3]
      simp (disch := omega) only [go_sem, simprocAttr, g0, g14, g17, i1]
      refine ⟨P.length, by simp, j, P, p :: K, A ++ L1 ++ P ++ y :: p :: (K ++ B), ?_⟩
      have k1 : L2 = P ++ p :: K := by rw [hPK]; simp
      have k3 : A ++ L1 ++ P ++ y :: p :: (K ++ B) = A ++ (L1 ++ (P ++ y :: (p :: K ++ B))) := by simp
      repeat' first | assumption | omega | (exact St.Ext.refl _) | (exact List.Perm.refl _) | rfl | (exact .inl trivial) | (exact trivial) | refine And.intro ?_ ?_
    · simp (disch := omega) only [go_sem, simprocAttr]
      obtain rfl : P = [] := List.eq_nil_of_length_eq_zero (by omega)
      rw [List.nil_append] at hPK
      subst hPK
      refine ⟨L1 ++ y :: L2, ?_, ?_, by rw [hys]; congr 1; simp⟩
      · rw [hLL]
        exact (List.perm_middle).trans (List.perm_append_singleton y (L1 ++ L2)).symm
      · refine sd_insert hsw (hLL ▸ sL) (fun x hx => .inr ⟨hi1 x hx, hR x ?_ y (by simp)⟩) (fun x hx => .inl (hi2 x hx))
        rw [hLL]
        exact List.mem_append_left _ (List.mem_of_getLast? hx)
  have d2 : ¬ ((b2 : Int) - (m : Int) = 1) := by omega
  have hmid := half64 (i := a) (j := b2) (by omega)
  simp (disch := omega) only [go_sem, simprocAttr, d1, d2, hmid]
  obtain ⟨mid, hmd⟩ : ∃ mid, mid = (a + b2) / 2 := ⟨_, rfl⟩
  rw [← hmd]
  by_cases hmm : mid < m
  · have w0 : (mid : Int) < (m : Int) := by omega
    obtain ⟨s0, hs0⟩ : ∃ s0, s0 = mid + m - b2 := ⟨_, rfl⟩
    obtain ⟨r0, hr0⟩ : ∃ r0, r0 = mid := ⟨_, rfl⟩
    have es : (mid : Int) + (m : Int) - (b2 : Int) = (s0 : Int) := by omega
    have hs0' : s0 = a ∨ mid + m = s0 + b2 := .inr (by omega)
    have hr0' : r0 = m ∨ r0 = mid := .inr hr0
    have hsr0 : s0 ≤ r0 ∧ a ≤ s0 ∧ r0 ≤ m ∧ r0 ≤ mid ∧ mid + m ≤ s0 + b2 := by omega
    have er : Value.int .i64 (mid : Int) = Value.int .i64 (r0 : Int) := by rw [hr0]
    simp (disch := omega) only [go_sem, simprocAttr, w0, es]
    refine wC_at 8 (fun fr S' => ∃ s : Nat, s0 ≤ s ∧ s ≤ r0 ∧ fr 0 = .slice (some ⟨b, 0, none⟩) N c ∧ fr 1 = .int .i64 a ∧ fr 2 = .int .i64 m ∧ fr 3 = .int .i64 b2 ∧ fr 4 = f ∧ fr 18 = .int .i64 mid ∧ fr 19 = .int .i64 (mid + m : Nat) ∧ fr 20 = .int .i64 s ∧ S' = DatS opE S b cap zs ∧
        (s = s0 ∨ ∃ x y, L[s - 1 - a]? = some x ∧ Q[mid - s]? = some y ∧ ¬ lt y x) ∧ (s = r0 ∨ ∃ x y, L[s - a]? = some x ∧ Q[mid - 1 - s]? = some y ∧ lt y x)) ?_ ?_
    · refine wC_loop (fun k fr S' => ∃ s r : Nat, k = r - s ∧ s0 ≤ s ∧ s ≤ r ∧ r ≤ r0 ∧ fr 0 = .slice (some ⟨b, 0, none⟩) N c ∧ fr 1 = .int .i64 a ∧ fr 2 = .int .i64 m ∧ fr 3 = .int .i64 b2 ∧ fr 4 = f ∧ fr 18 = .int .i64 mid ∧ fr 19 = .int .i64 (mid + m : Nat) ∧ fr 20 = .int .i64 s ∧ fr 21 = .int .i64 r ∧ fr 22 = .int .i64 (mid + m - 1 : Nat) ∧ S' = DatS opE S b cap zs ∧
          (s = s0 ∨ ∃ x y, L[s - 1 - a]? = some x ∧ Q[mid - s]? = some y ∧ ¬ lt y x) ∧ (r = r0 ∨ ∃ x y, L[r - a]? = some x ∧ Q[mid - 1 - r]? = some y ∧ lt y x)) (r0 - s0)
        ⟨s0, r0, by
          have k1 : (mid : Int) + (m : Int) - 1 = ((mid + m - 1 : Nat) : Int) := by omega
          have k2 : Value.int .i64 ((mid : Int) + (m : Int)) = Value.int .i64 ((mid + m : Nat) : Int) := rfl
          have k3 : (s0 = s0 ∨ ∃ x y, L[s0 - 1 - a]? = some x ∧ Q[mid - s0]? = some y ∧ ¬ lt y x) := .inl rfl
          have k4 : (r0 = r0 ∨ ∃ x y, L[r0 - a]? = some x ∧ Q[mid - 1 - r0]? = some y ∧ lt y x) := .inl rfl
          simp (disch := omega) only [go_sem, simprocAttr, k1, es]
          repeat' first | assumption | omega | (exact St.Ext.refl _) | (exact List.Perm.refl _) | rfl | (exact .inl trivial) | (exact trivial) | refine And.intro ?_ ?_
          ⟩ ?_
      rintro k fr S' ⟨s, r, rfl, hs1, hsr, hr1, g0, g1, g2, g3, g4, g18, g19, g20, g21, g22, rfl, v1, v2⟩
      simp (disch := omega) only [go_sem, simprocAttr, F.slices_symMergeCmpFunc_api_Op.l4, g0, g1, g2, g3, g4, g18, g19, g20, g21, g22]
      refine wcond_dec (fun hlt => ?_) (fun hge => ?_)
      · have hcc := half64 (i := s) (j := r) (by omega)
        have hc1 : s ≤ (s + r) / 2 := by omega
        have hc2 : (s + r) / 2 < r := by omega
        generalize (s + r) / 2 = cc at *
        have hci : cc - a < L.length := by omega
        have hqi : mid - 1 - cc < Q.length := by omega
        have ei : ((mid + m - 1 : Nat) : Int) - (cc : Int) = ((m + (mid - 1 - cc) : Nat) : Int) := by omega
        have lc : (DatS opE S b cap zs).loadN ⟨b, cc * 14, none⟩ 14 = some (opE.enc L[cc - a]) := DatS.load (by
          have := get_L (Q := Q) (B := B) ha hci
          rw [show a + (cc - a) = cc by omega] at this
          rw [hz]
          exact this)
        have lq : (DatS opE S b cap zs).loadN ⟨b, (m + (mid - 1 - cc)) * 14, none⟩ 14 = some (opE.enc Q[mid - 1 - cc]) := DatS.load (by rw [hz]; exact get_Q ha hm hqi)
        have c1 : (0 : Int) ≤ (cc : Int) ∧ (cc : Int) < (N : Int) := by omega
        have c2 : (0 : Int) ≤ ((m + (mid - 1 - cc) : Nat) : Int) ∧ ((m + (mid - 1 - cc) : Nat) : Int) < (N : Int) := by omega
        simp (disch := omega) only [go_sem, simprocAttr, g0, g1, g2, g3, g4, g18, g19, g20, g21, g22, hcc, ei, c1, c2, lc, lq]
        refine hf.call (hG _) Q[mid - 1 - cc] L[cc - a] fun cv hcv => ?_
        simp (disch := omega) only [go_sem, simprocAttr]
        refine wcond_ndec (fun hpos => ?_) (fun hneg => ?_)
        · simp (disch := omega) only [go_sem, simprocAttr, g0, g1, g2, g3, g4, g18, g19, g20, g21, g22, hcc]
          refine ⟨r - (cc + 1), by omega, cc + 1, r, ?_⟩
          have k1 : (cc + 1 = s0 ∨ ∃ x y, L[cc + 1 - 1 - a]? = some x ∧ Q[mid - (cc + 1)]? = some y ∧ ¬ lt y x) :=
            .inr ⟨L[cc - a], Q[mid - 1 - cc], by rw [Nat.add_sub_cancel]; exact List.getElem?_eq_getElem hci, by rw [show mid - (cc + 1) = mid - 1 - cc by omega]; exact List.getElem?_eq_getElem hqi, fun h => hpos (hcv.2 h)⟩
          repeat' first | assumption | omega | (exact St.Ext.refl _) | (exact List.Perm.refl _) | rfl | (exact .inl trivial) | (exact trivial) | refine And.intro ?_ ?_
        · simp (disch := omega) only [go_sem, simprocAttr, g0, g1, g2, g3, g4, g18, g19, g20, g21, g22, hcc]
          refine ⟨cc - s, by omega, s, cc, ?_⟩
          have k1 : (cc = r0 ∨ ∃ x y, L[cc - a]? = some x ∧ Q[mid - 1 - cc]? = some y ∧ lt y x) :=
            .inr ⟨L[cc - a], Q[mid - 1 - cc], List.getElem?_eq_getElem hci, List.getElem?_eq_getElem hqi, hcv.1 hneg⟩
          repeat' first | assumption | omega | (exact St.Ext.refl _) | (exact List.Perm.refl _) | rfl | (exact .inl trivial) | (exact trivial) | refine And.intro ?_ ?_
      · simp (disch := omega) only [go_sem, simprocAttr]
        obtain rfl : s = r := by omega
        refine ⟨s, ?_⟩
        repeat' first | assumption | omega | (exact St.Ext.refl _) | (exact List.Perm.refl _) | rfl | (exact .inl trivial) | (exact trivial) | refine And.intro ?_ ?_
    rintro fr S' ⟨s, hs1, hs2, g0, g1, g2, g3, g4, g18, g19, g20, rfl, v1, v2⟩
    obtain ⟨L1, hL1⟩ : ∃ L1, L1 = L.take (s - a) := ⟨_, rfl⟩
    obtain ⟨L2, hL2⟩ : ∃ L2, L2 = L.drop (s - a) := ⟨_, rfl⟩
    obtain ⟨R1, hR1⟩ : ∃ R1, R1 = Q.take (mid - s) := ⟨_, rfl⟩
    obtain ⟨R2, hR2⟩ : ∃ R2, R2 = Q.drop (mid - s) := ⟨_, rfl⟩
    have hL12 : L = L1 ++ L2 := by rw [hL1, hL2, List.take_append_drop]
    have hQ12 : Q = R1 ++ R2 := by rw [hR1, hR2, List.take_append_drop]
    have nL1 : L1.length = s - a := by rw [hL1, List.length_take]; omega
    have nL2 : L2.length = L.length - (s - a) := by rw [hL2, List.length_drop]
    have nR1 : R1.length = mid - s := by rw [hR1, List.length_take]; omega
    have nR2 : R2.length = Q.length - (mid - s) := by rw [hR2, List.length_drop]
    have sL1 : Sd lt R L1 := by have := sL; rw [hL12] at this; exact (List.pairwise_append.1 this).1
    have sL2 : Sd lt R L2 := by have := sL; rw [hL12] at this; exact (List.pairwise_append.1 this).2.1
    have sR1 : Sd lt R R1 := by have := sQ; rw [hQ12] at this; exact (List.pairwise_append.1 this).1
    have sR2 : Sd lt R R2 := by have := sQ; rw [hQ12] at this; exact (List.pairwise_append.1 this).2.1
    have cr1 : ∀ x ∈ L1.getLast?, ∀ y ∈ R2.head?, TO lt R x y := by
      intro x hx y hy
      have hxL : x ∈ L := by rw [hL12]; exact List.mem_append_left _ (List.mem_of_getLast? hx)
      have hyQ : y ∈ Q := by rw [hQ12]; exact List.mem_append_right _ (List.mem_of_mem_head? hy)
      rcases v1 with h | ⟨x', y', h1, h2, h3⟩
      · exfalso
        rcases hs0' with h' | h'
        · have : L1 = [] := List.eq_nil_of_length_eq_zero (by omega)
          rw [this] at hx; simp at hx
        · have : R2 = [] := List.eq_nil_of_length_eq_zero (by omega)
          rw [this] at hy; simp at hy
      · have hsa : a < s := by
          by_cases h : a < s
          · exact h
          · have : L1 = [] := List.eq_nil_of_length_eq_zero (by omega)
            rw [this] at hx; simp at hx
        have ex : x = x' := by
          rw [hL1, show s - a = (s - 1 - a) + 1 by omega, take_snoc h1] at hx
          exact (Option.some.inj (List.getLast?_concat.symm.trans hx)).symm
        have ey : y = y' := by
          rw [hR2, List.head?_drop] at hy
          exact (Option.some.inj (h2.symm.trans hy)).symm
        subst ex ey
        exact .inr ⟨h3, hR _ hxL _ hyQ⟩
    have cr2 : ∀ y ∈ R1.getLast?, ∀ x ∈ L2.head?, TO lt R y x := by
      intro y hy x hx
      rcases v2 with h | ⟨x', y', h1, h2, h3⟩
      · exfalso
        rcases hr0' with h' | h'
        · have : L2 = [] := List.eq_nil_of_length_eq_zero (by omega)
          rw [this] at hx; simp at hx
        · have : R1 = [] := List.eq_nil_of_length_eq_zero (by omega)
          rw [this] at hy; simp at hy
      · have hsm : s < mid := by
          by_cases h : s < mid
          · exact h
          · have : R1 = [] := List.eq_nil_of_length_eq_zero (by omega)
            rw [this] at hy; simp at hy
        have ey : y = y' := by
          rw [hR1, show mid - s = (mid - 1 - s) + 1 by omega, take_snoc h2] at hy
          exact (Option.some.inj (List.getLast?_concat.symm.trans hy)).symm
        have ex : x = x' := by
          rw [hL2, List.head?_drop] at hx
          exact (Option.some.inj (h1.symm.trans hx)).symm
        subst ex ey
        exact .inl h3
    obtain ⟨e, he⟩ : ∃ e, e = mid + m - s := ⟨_, rfl⟩
    have i2 : ((mid + m : Nat) : Int) - (s : Int) = (e : Int) := by omega
    simp (disch := omega) only [go_sem, simprocAttr, g0, g1, g2, g3, g4, g18, g19, g20, i2]
    by_cases w12 : s < m ∧ m < e
    · obtain ⟨w1', w2'⟩ := w12
      have w1 : (s : Int) < (m : Int) := by omega
      have w2 : (m : Int) < (e : Int) := by omega
      have hzr : zs = (A ++ L1) ++ (L2 ++ (R1 ++ (R2 ++ B))) := by rw [hz, hL12, hQ12]; simp
      rw [hzr]
      simp (disch := omega) only [go_sem, simprocAttr, w1, w2, g0, g1, g2, g3, g4, g18, g19, g20, i2]
      refine wJ_of (F.slices_rotateCmpFunc_api_Op_J (A := A ++ L1) (X := L2) (Y := R1) (B := R2 ++ B) (by simp; omega) (by omega) (by omega) (by omega) (by omega) (by simp; omega) hcap hNb) ?_; rintro _ _ rfl
      obtain ⟨y1, hy1'⟩ : ∃ y1 : List OpR, y1 = A ++ L1 ++ (R1 ++ (L2 ++ (R2 ++ B))) := ⟨_, rfl⟩
      have hy1 : y1 = A ++ (L1 ++ (R1 ++ (L2 ++ (R2 ++ B)))) := by rw [hy1']; simp
      rw [← hy1']
      simp (disch := omega) only [go_sem, simprocAttr, g0, g1, g2, g3, g4, g18, g19, g20, i2]
      have sm' : s < mid := by omega
      have sm : (s : Int) < (mid : Int) := by omega
      by_cases q12 : a < s ∧ s < mid
      · first
        | exfalso; omega
        | obtain ⟨q1', q2'⟩ := q12
          have q1 : (a : Int) < (s : Int) := by omega
          have q2 : (s : Int) < (mid : Int) := by omega
          simp (disch := omega) only [go_sem, simprocAttr, q1, q2, g0, g1, g2, g3, g4, g18, g19, g20]
          refine wJ_of (@IH (L1.length + R1.length) (by omega) a s mid A L1 R1 (L2 ++ (R2 ++ B)) rfl ha (by omega) (by omega) (by simp; omega) (by omega) (by omega) sL1 sR1 (fun u hu v hv => hR u (by rw [hL12]; exact List.mem_append_left _ hu) v (by rw [hQ12]; exact List.mem_append_left _ hv)) y1 hy1) ?_; rintro _ _ ⟨Z1, p1, s1, rfl⟩
          obtain ⟨z2, hz2⟩ : ∃ z2 : List OpR, z2 = A ++ (Z1 ++ (L2 ++ (R2 ++ B))) := ⟨_, rfl⟩
          rw [← hz2]
          have hZ1 := p1.length_eq
          simp only [List.length_append] at hZ1
          simp (disch := omega) only [go_sem, simprocAttr, g0, g1, g2, g3, g4, g18, g19, g20, i2]
          have fin2 : ∀ Z2 : List OpR, Z2.Perm (L2 ++ R2) → (Z1 ++ Z2).Perm (L ++ Q) := fun Z2 h => by
            rw [hL12, hQ12]
            refine (p1.append h).trans ?_
            simp only [List.append_assoc]
            refine List.Perm.append_left L1 ?_
            rw [← List.append_assoc, ← List.append_assoc]
            exact List.Perm.append_right R2 List.perm_append_comm
          have fin3 : ∀ Z2 : List OpR, Z2.Perm (L2 ++ R2) → Sd lt R Z2 → Sd lt R (Z1 ++ Z2) := fun Z2 h h' => sd_split hsw (hL12 ▸ sL) (hQ12 ▸ sQ) cr1 cr2 p1 s1 h h'
          refine wguard_dec (fun q1 => ?_) (fun q1 => ?_)
          rotate_left
          · first
            | exfalso; omega
            | simp (disch := omega) only [go_sem, simprocAttr, q1]
              have he2 : L2 = [] := List.eq_nil_of_length_eq_zero (by omega)
              have s2 : Sd lt R (L2 ++ R2) := by rw [he2]; exact sR2
              exact ⟨Z1 ++ (L2 ++ R2), fin2 _ (List.Perm.refl _), fin3 _ (List.Perm.refl _) s2, by rw [hz2]; congr 1; simp⟩
          simp (disch := omega) only [go_sem, simprocAttr, q1, g0, g1, g2, g3, g4, g18, g19, g20, i2]
          refine wcond_dec (fun q2 => ?_) (fun q2 => ?_)
          rotate_left
          · first
            | exfalso; omega
            | simp (disch := omega) only [go_sem, simprocAttr, q1, q2]
              have he2 : L2 = [] ∨ R2 = [] := by
                by_cases h : L2 = []
                · exact .inl h
                · have := List.length_pos_iff.2 h
                  exact .inr (List.eq_nil_of_length_eq_zero (by omega))
              have s2 : Sd lt R (L2 ++ R2) := by
                rcases he2 with h | h
                · rw [h]; exact sR2
                · rw [h, List.append_nil]; exact sL2
              exact ⟨Z1 ++ (L2 ++ R2), fin2 _ (List.Perm.refl _), fin3 _ (List.Perm.refl _) s2, by rw [hz2]; congr 1; simp⟩
          simp (disch := omega) only [go_sem, simprocAttr, q1, q2, g0, g1, g2, g3, g4, g18, g19, g20, i2]
          refine wJ_of (@IH (L2.length + R2.length) (by omega) mid e b2 (A ++ Z1) L2 R2 B rfl (by simp; omega) (by omega) (by omega) hN (by omega) (by omega) sL2 sR2 (fun u hu v hv => hR u (by rw [hL12]; exact List.mem_append_right _ hu) v (by rw [hQ12]; exact List.mem_append_right _ hv)) z2 (by rw [hz2]; simp)) ?_; rintro _ _ ⟨Z2, p2, s2, rfl⟩
          simp (disch := omega) only [go_sem, simprocAttr]
          exact ⟨Z1 ++ Z2, fin2 Z2 p2, fin3 Z2 p2 s2, by congr 1; simp⟩
      · obtain ⟨Z1, hZ⟩ : ∃ Z1 : List OpR, Z1 = L1 ++ R1 := ⟨_, rfl⟩
        have he1 : L1 = [] ∨ R1 = [] := by
          by_cases h : L1 = []
          · exact .inl h
          · have := List.length_pos_iff.2 h
            exact .inr (List.eq_nil_of_length_eq_zero (by omega))
        have s1 : Sd lt R Z1 := by
          rcases he1 with h | h
          · rw [hZ, h]; exact sR1
          · rw [hZ, h, List.append_nil]; exact sL1
        have p1 : Z1.Perm (L1 ++ R1) := hZ ▸ List.Perm.refl _
        have hZ1 : Z1.length = L1.length + R1.length := by rw [hZ]; simp
        obtain ⟨z2, hz2'⟩ : ∃ z2 : List OpR, z2 = y1 := ⟨_, rfl⟩
        have hz2 : z2 = A ++ (Z1 ++ (L2 ++ (R2 ++ B))) := by rw [hz2', hy1, hZ]; simp
        rw [← hz2']
        by_cases q1' : a < s
        · first
          | exfalso; omega
          | have q1 : (a : Int) < (s : Int) := by omega
            have q2 : ¬ (s : Int) < (mid : Int) := by omega
            simp (disch := omega) only [go_sem, simprocAttr, q1, q2, g0, g1, g2, g3, g4, g18, g19, g20, i2]
            have fin2 : ∀ Z2 : List OpR, Z2.Perm (L2 ++ R2) → (Z1 ++ Z2).Perm (L ++ Q) := fun Z2 h => by
              rw [hL12, hQ12]
              refine (p1.append h).trans ?_
              simp only [List.append_assoc]
              refine List.Perm.append_left L1 ?_
              rw [← List.append_assoc, ← List.append_assoc]
              exact List.Perm.append_right R2 List.perm_append_comm
            have fin3 : ∀ Z2 : List OpR, Z2.Perm (L2 ++ R2) → Sd lt R Z2 → Sd lt R (Z1 ++ Z2) := fun Z2 h h' => sd_split hsw (hL12 ▸ sL) (hQ12 ▸ sQ) cr1 cr2 p1 s1 h h'
            refine wguard_dec (fun q1 => ?_) (fun q1 => ?_)
            rotate_left
            · first
              | exfalso; omega
              | simp (disch := omega) only [go_sem, simprocAttr, q1]
                have he2 : L2 = [] := List.eq_nil_of_length_eq_zero (by omega)
                have s2 : Sd lt R (L2 ++ R2) := by rw [he2]; exact sR2
                exact ⟨Z1 ++ (L2 ++ R2), fin2 _ (List.Perm.refl _), fin3 _ (List.Perm.refl _) s2, by rw [hz2]; congr 1; simp⟩
            simp (disch := omega) only [go_sem, simprocAttr, q1, g0, g1, g2, g3, g4, g18, g19, g20, i2]
            refine wcond_dec (fun q2 => ?_) (fun q2 => ?_)
            rotate_left
            · first
              | exfalso; omega
              | simp (disch := omega) only [go_sem, simprocAttr, q1, q2]
                have he2 : L2 = [] ∨ R2 = [] := by
                  by_cases h : L2 = []
                  · exact .inl h
                  · have := List.length_pos_iff.2 h
                    exact .inr (List.eq_nil_of_length_eq_zero (by omega))
                have s2 : Sd lt R (L2 ++ R2) := by
                  rcases he2 with h | h
                  · rw [h]; exact sR2
                  · rw [h, List.append_nil]; exact sL2
                exact ⟨Z1 ++ (L2 ++ R2), fin2 _ (List.Perm.refl _), fin3 _ (List.Perm.refl _) s2, by rw [hz2]; congr 1; simp⟩
            simp (disch := omega) only [go_sem, simprocAttr, q1, q2, g0, g1, g2, g3, g4, g18, g19, g20, i2]
            refine wJ_of (@IH (L2.length + R2.length) (by omega) mid e b2 (A ++ Z1) L2 R2 B rfl (by simp; omega) (by omega) (by omega) hN (by omega) (by omega) sL2 sR2 (fun u hu v hv => hR u (by rw [hL12]; exact List.mem_append_right _ hu) v (by rw [hQ12]; exact List.mem_append_right _ hv)) z2 (by rw [hz2]; simp)) ?_; rintro _ _ ⟨Z2, p2, s2, rfl⟩
            simp (disch := omega) only [go_sem, simprocAttr]
            exact ⟨Z1 ++ Z2, fin2 Z2 p2, fin3 Z2 p2 s2, by congr 1; simp⟩
        · first
          | exfalso; omega
          | have q1 : ¬ (a : Int) < (s : Int) := by omega
            simp (disch := omega) only [go_sem, simprocAttr, q1, g0, g1, g2, g3, g4, g18, g19, g20, i2]
            have fin2 : ∀ Z2 : List OpR, Z2.Perm (L2 ++ R2) → (Z1 ++ Z2).Perm (L ++ Q) := fun Z2 h => by
              rw [hL12, hQ12]
              refine (p1.append h).trans ?_
              simp only [List.append_assoc]
              refine List.Perm.append_left L1 ?_
              rw [← List.append_assoc, ← List.append_assoc]
              exact List.Perm.append_right R2 List.perm_append_comm
            have fin3 : ∀ Z2 : List OpR, Z2.Perm (L2 ++ R2) → Sd lt R Z2 → Sd lt R (Z1 ++ Z2) := fun Z2 h h' => sd_split hsw (hL12 ▸ sL) (hQ12 ▸ sQ) cr1 cr2 p1 s1 h h'
            refine wguard_dec (fun q1 => ?_) (fun q1 => ?_)
            rotate_left
            · first
              | exfalso; omega
              | simp (disch := omega) only [go_sem, simprocAttr, q1]
                have he2 : L2 = [] := List.eq_nil_of_length_eq_zero (by omega)
                have s2 : Sd lt R (L2 ++ R2) := by rw [he2]; exact sR2
                exact ⟨Z1 ++ (L2 ++ R2), fin2 _ (List.Perm.refl _), fin3 _ (List.Perm.refl _) s2, by rw [hz2]; congr 1; simp⟩
            simp (disch := omega) only [go_sem, simprocAttr, q1, g0, g1, g2, g3, g4, g18, g19, g20, i2]
            refine wcond_dec (fun q2 => ?_) (fun q2 => ?_)
            rotate_left
            · first
              | exfalso; omega
              | simp (disch := omega) only [go_sem, simprocAttr, q1, q2]
                have he2 : L2 = [] ∨ R2 = [] := by
                  by_cases h : L2 = []
                  · exact .inl h
                  · have := List.length_pos_iff.2 h
                    exact .inr (List.eq_nil_of_length_eq_zero (by omega))
                have s2 : Sd lt R (L2 ++ R2) := by
                  rcases he2 with h | h
                  · rw [h]; exact sR2
                  · rw [h, List.append_nil]; exact sL2
                exact ⟨Z1 ++ (L2 ++ R2), fin2 _ (List.Perm.refl _), fin3 _ (List.Perm.refl _) s2, by rw [hz2]; congr 1; simp⟩
            simp (disch := omega) only [go_sem, simprocAttr, q1, q2, g0, g1, g2, g3, g4, g18, g19, g20, i2]
            refine wJ_of (@IH (L2.length + R2.length) (by omega) mid e b2 (A ++ Z1) L2 R2 B rfl (by simp; omega) (by omega) (by omega) hN (by omega) (by omega) sL2 sR2 (fun u hu v hv => hR u (by rw [hL12]; exact List.mem_append_right _ hu) v (by rw [hQ12]; exact List.mem_append_right _ hv)) z2 (by rw [hz2]; simp)) ?_; rintro _ _ ⟨Z2, p2, s2, rfl⟩
            simp (disch := omega) only [go_sem, simprocAttr]
            exact ⟨Z1 ++ Z2, fin2 Z2 p2, fin3 Z2 p2 s2, by congr 1; simp⟩
    · have hE : L2 = [] ∨ R1 = [] := by
        by_cases h : L2 = []
        · exact .inl h
        · have := List.length_pos_iff.2 h
          exact .inr (List.eq_nil_of_length_eq_zero (by omega))
      obtain ⟨y1, hy1'⟩ : ∃ y1 : List OpR, y1 = zs := ⟨_, rfl⟩
      have hy1 : y1 = A ++ (L1 ++ (R1 ++ (L2 ++ (R2 ++ B)))) := by
        rw [hy1', hz, hL12, hQ12]
        rcases hE with h | h <;> rw [h] <;> simp
      rw [← hy1']
      by_cases w1' : s < m
      · first
        | exfalso; omega
        | have w1 : (s : Int) < (m : Int) := by omega
          have w2 : ¬ (m : Int) < (e : Int) := by omega
          simp (disch := omega) only [go_sem, simprocAttr, w1, w2, g0, g1, g2, g3, g4, g18, g19, g20, i2]
          by_cases q12 : a < s ∧ s < mid
          · first
            | exfalso; omega
            | obtain ⟨q1', q2'⟩ := q12
              have q1 : (a : Int) < (s : Int) := by omega
              have q2 : (s : Int) < (mid : Int) := by omega
              simp (disch := omega) only [go_sem, simprocAttr, q1, q2, g0, g1, g2, g3, g4, g18, g19, g20]
              refine wJ_of (@IH (L1.length + R1.length) (by omega) a s mid A L1 R1 (L2 ++ (R2 ++ B)) rfl ha (by omega) (by omega) (by simp; omega) (by omega) (by omega) sL1 sR1 (fun u hu v hv => hR u (by rw [hL12]; exact List.mem_append_left _ hu) v (by rw [hQ12]; exact List.mem_append_left _ hv)) y1 hy1) ?_; rintro _ _ ⟨Z1, p1, s1, rfl⟩
              obtain ⟨z2, hz2⟩ : ∃ z2 : List OpR, z2 = A ++ (Z1 ++ (L2 ++ (R2 ++ B))) := ⟨_, rfl⟩
              rw [← hz2]
              have hZ1 := p1.length_eq
              simp only [List.length_append] at hZ1
              simp (disch := omega) only [go_sem, simprocAttr, g0, g1, g2, g3, g4, g18, g19, g20, i2]
              have fin2 : ∀ Z2 : List OpR, Z2.Perm (L2 ++ R2) → (Z1 ++ Z2).Perm (L ++ Q) := fun Z2 h => by
                rw [hL12, hQ12]
                refine (p1.append h).trans ?_
                simp only [List.append_assoc]
                refine List.Perm.append_left L1 ?_
                rw [← List.append_assoc, ← List.append_assoc]
                exact List.Perm.append_right R2 List.perm_append_comm
              have fin3 : ∀ Z2 : List OpR, Z2.Perm (L2 ++ R2) → Sd lt R Z2 → Sd lt R (Z1 ++ Z2) := fun Z2 h h' => sd_split hsw (hL12 ▸ sL) (hQ12 ▸ sQ) cr1 cr2 p1 s1 h h'
              refine wguard_dec (fun q1 => ?_) (fun q1 => ?_)
              rotate_left
              · first
                | exfalso; omega
                | simp (disch := omega) only [go_sem, simprocAttr, q1]
                  have he2 : L2 = [] := List.eq_nil_of_length_eq_zero (by omega)
                  have s2 : Sd lt R (L2 ++ R2) := by rw [he2]; exact sR2
                  exact ⟨Z1 ++ (L2 ++ R2), fin2 _ (List.Perm.refl _), fin3 _ (List.Perm.refl _) s2, by rw [hz2]; congr 1; simp⟩
              simp (disch := omega) only [go_sem, simprocAttr, q1, g0, g1, g2, g3, g4, g18, g19, g20, i2]
              refine wcond_dec (fun q2 => ?_) (fun q2 => ?_)
              rotate_left
              · first
                | exfalso; omega
                | simp (disch := omega) only [go_sem, simprocAttr, q1, q2]
                  have he2 : L2 = [] ∨ R2 = [] := by
                    by_cases h : L2 = []
                    · exact .inl h
                    · have := List.length_pos_iff.2 h
                      exact .inr (List.eq_nil_of_length_eq_zero (by omega))
                  have s2 : Sd lt R (L2 ++ R2) := by
                    rcases he2 with h | h
                    · rw [h]; exact sR2
                    · rw [h, List.append_nil]; exact sL2
                  exact ⟨Z1 ++ (L2 ++ R2), fin2 _ (List.Perm.refl _), fin3 _ (List.Perm.refl _) s2, by rw [hz2]; congr 1; simp⟩
              simp (disch := omega) only [go_sem, simprocAttr, q1, q2, g0, g1, g2, g3, g4, g18, g19, g20, i2]
              refine wJ_of (@IH (L2.length + R2.length) (by omega) mid e b2 (A ++ Z1) L2 R2 B rfl (by simp; omega) (by omega) (by omega) hN (by omega) (by omega) sL2 sR2 (fun u hu v hv => hR u (by rw [hL12]; exact List.mem_append_right _ hu) v (by rw [hQ12]; exact List.mem_append_right _ hv)) z2 (by rw [hz2]; simp)) ?_; rintro _ _ ⟨Z2, p2, s2, rfl⟩
              simp (disch := omega) only [go_sem, simprocAttr]
              exact ⟨Z1 ++ Z2, fin2 Z2 p2, fin3 Z2 p2 s2, by congr 1; simp⟩
          · obtain ⟨Z1, hZ⟩ : ∃ Z1 : List OpR, Z1 = L1 ++ R1 := ⟨_, rfl⟩
            have he1 : L1 = [] ∨ R1 = [] := by
              by_cases h : L1 = []
              · exact .inl h
              · have := List.length_pos_iff.2 h
                exact .inr (List.eq_nil_of_length_eq_zero (by omega))
            have s1 : Sd lt R Z1 := by
              rcases he1 with h | h
              · rw [hZ, h]; exact sR1
              · rw [hZ, h, List.append_nil]; exact sL1
            have p1 : Z1.Perm (L1 ++ R1) := hZ ▸ List.Perm.refl _
            have hZ1 : Z1.length = L1.length + R1.length := by rw [hZ]; simp
            obtain ⟨z2, hz2'⟩ : ∃ z2 : List OpR, z2 = y1 := ⟨_, rfl⟩
            have hz2 : z2 = A ++ (Z1 ++ (L2 ++ (R2 ++ B))) := by rw [hz2', hy1, hZ]; simp
            rw [← hz2']
            by_cases q1' : a < s
            · first
              | exfalso; omega
              | have q1 : (a : Int) < (s : Int) := by omega
                have q2 : ¬ (s : Int) < (mid : Int) := by omega
                simp (disch := omega) only [go_sem, simprocAttr, q1, q2, g0, g1, g2, g3, g4, g18, g19, g20, i2]
                have fin2 : ∀ Z2 : List OpR, Z2.Perm (L2 ++ R2) → (Z1 ++ Z2).Perm (L ++ Q) := fun Z2 h => by
                  rw [hL12, hQ12]
                  refine (p1.append h).trans ?_
                  simp only [List.append_assoc]
                  refine List.Perm.append_left L1 ?_
                  rw [← List.append_assoc, ← List.append_assoc]
                  exact List.Perm.append_right R2 List.perm_append_comm
                have fin3 : ∀ Z2 : List OpR, Z2.Perm (L2 ++ R2) → Sd lt R Z2 → Sd lt R (Z1 ++ Z2) := fun Z2 h h' => sd_split hsw (hL12 ▸ sL) (hQ12 ▸ sQ) cr1 cr2 p1 s1 h h'
                refine wguard_dec (fun q1 => ?_) (fun q1 => ?_)
                rotate_left
                · first
                  | exfalso; omega
                  | simp (disch := omega) only [go_sem, simprocAttr, q1]
                    have he2 : L2 = [] := List.eq_nil_of_length_eq_zero (by omega)
                    have s2 : Sd lt R (L2 ++ R2) := by rw [he2]; exact sR2
                    exact ⟨Z1 ++ (L2 ++ R2), fin2 _ (List.Perm.refl _), fin3 _ (List.Perm.refl _) s2, by rw [hz2]; congr 1; simp⟩
                simp (disch := omega) only [go_sem, simprocAttr, q1, g0, g1, g2, g3, g4, g18, g19, g20, i2]
                refine wcond_dec (fun q2 => ?_) (fun q2 => ?_)
                rotate_left
                · first
                  | exfalso; omega
                  | simp (disch := omega) only [go_sem, simprocAttr, q1, q2]
                    have he2 : L2 = [] ∨ R2 = [] := by
                      by_cases h : L2 = []
                      · exact .inl h
                      · have := List.length_pos_iff.2 h
                        exact .inr (List.eq_nil_of_length_eq_zero (by omega))
                    have s2 : Sd lt R (L2 ++ R2) := by
                      rcases he2 with h | h
                      · rw [h]; exact sR2
                      · rw [h, List.append_nil]; exact sL2
                    exact ⟨Z1 ++ (L2 ++ R2), fin2 _ (List.Perm.refl _), fin3 _ (List.Perm.refl _) s2, by rw [hz2]; congr 1; simp⟩
                simp (disch := omega) only [go_sem, simprocAttr, q1, q2, g0, g1, g2, g3, g4, g18, g19, g20, i2]
                refine wJ_of (@IH (L2.length + R2.length) (by omega) mid e b2 (A ++ Z1) L2 R2 B rfl (by simp; omega) (by omega) (by omega) hN (by omega) (by omega) sL2 sR2 (fun u hu v hv => hR u (by rw [hL12]; exact List.mem_append_right _ hu) v (by rw [hQ12]; exact List.mem_append_right _ hv)) z2 (by rw [hz2]; simp)) ?_; rintro _ _ ⟨Z2, p2, s2, rfl⟩
                simp (disch := omega) only [go_sem, simprocAttr]
                exact ⟨Z1 ++ Z2, fin2 Z2 p2, fin3 Z2 p2 s2, by congr 1; simp⟩
            · first
              | exfalso; omega
              | have q1 : ¬ (a : Int) < (s : Int) := by omega
                simp (disch := omega) only [go_sem, simprocAttr, q1, g0, g1, g2, g3, g4, g18, g19, g20, i2]
                have fin2 : ∀ Z2 : List OpR, Z2.Perm (L2 ++ R2) → (Z1 ++ Z2).Perm (L ++ Q) := fun Z2 h => by
                  rw [hL12, hQ12]
                  refine (p1.append h).trans ?_
                  simp only [List.append_assoc]
                  refine List.Perm.append_left L1 ?_
                  rw [← List.append_assoc, ← List.append_assoc]
                  exact List.Perm.append_right R2 List.perm_append_comm
                have fin3 : ∀ Z2 : List OpR, Z2.Perm (L2 ++ R2) → Sd lt R Z2 → Sd lt R (Z1 ++ Z2) := fun Z2 h h' => sd_split hsw (hL12 ▸ sL) (hQ12 ▸ sQ) cr1 cr2 p1 s1 h h'
                refine wguard_dec (fun q1 => ?_) (fun q1 => ?_)
                rotate_left
                · first
                  | exfalso; omega
                  | simp (disch := omega) only [go_sem, simprocAttr, q1]
                    have he2 : L2 = [] := List.eq_nil_of_length_eq_zero (by omega)
                    have s2 : Sd lt R (L2 ++ R2) := by rw [he2]; exact sR2
                    exact ⟨Z1 ++ (L2 ++ R2), fin2 _ (List.Perm.refl _), fin3 _ (List.Perm.refl _) s2, by rw [hz2]; congr 1; simp⟩
                simp (disch := omega) only [go_sem, simprocAttr, q1, g0, g1, g2, g3, g4, g18, g19, g20, i2]
                refine wcond_dec (fun q2 => ?_) (fun q2 => ?_)
                rotate_left
                · first
                  | exfalso; omega
                  | simp (disch := omega) only [go_sem, simprocAttr, q1, q2]
                    have he2 : L2 = [] ∨ R2 = [] := by
                      by_cases h : L2 = []
                      · exact .inl h
                      · have := List.length_pos_iff.2 h
                        exact .inr (List.eq_nil_of_length_eq_zero (by omega))
                    have s2 : Sd lt R (L2 ++ R2) := by
                      rcases he2 with h | h
                      · rw [h]; exact sR2
                      · rw [h, List.append_nil]; exact sL2
                    exact ⟨Z1 ++ (L2 ++ R2), fin2 _ (List.Perm.refl _), fin3 _ (List.Perm.refl _) s2, by rw [hz2]; congr 1; simp⟩
                simp (disch := omega) only [go_sem, simprocAttr, q1, q2, g0, g1, g2, g3, g4, g18, g19, g20, i2]
                refine wJ_of (@IH (L2.length + R2.length) (by omega) mid e b2 (A ++ Z1) L2 R2 B rfl (by simp; omega) (by omega) (by omega) hN (by omega) (by omega) sL2 sR2 (fun u hu v hv => hR u (by rw [hL12]; exact List.mem_append_right _ hu) v (by rw [hQ12]; exact List.mem_append_right _ hv)) z2 (by rw [hz2]; simp)) ?_; rintro _ _ ⟨Z2, p2, s2, rfl⟩
                simp (disch := omega) only [go_sem, simprocAttr]
                exact ⟨Z1 ++ Z2, fin2 Z2 p2, fin3 Z2 p2 s2, by congr 1; simp⟩
      · first
        | exfalso; omega
        | have w1 : ¬ (s : Int) < (m : Int) := by omega
          simp (disch := omega) only [go_sem, simprocAttr, w1, g0, g1, g2, g3, g4, g18, g19, g20, i2]
          by_cases q12 : a < s ∧ s < mid
          · first
            | exfalso; omega
            | obtain ⟨q1', q2'⟩ := q12
              have q1 : (a : Int) < (s : Int) := by omega
              have q2 : (s : Int) < (mid : Int) := by omega
              simp (disch := omega) only [go_sem, simprocAttr, q1, q2, g0, g1, g2, g3, g4, g18, g19, g20]
              refine wJ_of (@IH (L1.length + R1.length) (by omega) a s mid A L1 R1 (L2 ++ (R2 ++ B)) rfl ha (by omega) (by omega) (by simp; omega) (by omega) (by omega) sL1 sR1 (fun u hu v hv => hR u (by rw [hL12]; exact List.mem_append_left _ hu) v (by rw [hQ12]; exact List.mem_append_left _ hv)) y1 hy1) ?_; rintro _ _ ⟨Z1, p1, s1, rfl⟩
              obtain ⟨z2, hz2⟩ : ∃ z2 : List OpR, z2 = A ++ (Z1 ++ (L2 ++ (R2 ++ B))) := ⟨_, rfl⟩
              rw [← hz2]
              have hZ1 := p1.length_eq
              simp only [List.length_append] at hZ1
              simp (disch := omega) only [go_sem, simprocAttr, g0, g1, g2, g3, g4, g18, g19, g20, i2]
              have fin2 : ∀ Z2 : List OpR, Z2.Perm (L2 ++ R2) → (Z1 ++ Z2).Perm (L ++ Q) := fun Z2 h => by
                rw [hL12, hQ12]
                refine (p1.append h).trans ?_
                simp only [List.append_assoc]
                refine List.Perm.append_left L1 ?_
                rw [← List.append_assoc, ← List.append_assoc]
                exact List.Perm.append_right R2 List.perm_append_comm
              have fin3 : ∀ Z2 : List OpR, Z2.Perm (L2 ++ R2) → Sd lt R Z2 → Sd lt R (Z1 ++ Z2) := fun Z2 h h' => sd_split hsw (hL12 ▸ sL) (hQ12 ▸ sQ) cr1 cr2 p1 s1 h h'
              refine wguard_dec (fun q1 => ?_) (fun q1 => ?_)
              rotate_left
              · first
                | exfalso; omega
                | simp (disch := omega) only [go_sem, simprocAttr, q1]
                  have he2 : L2 = [] := List.eq_nil_of_length_eq_zero (by omega)
                  have s2 : Sd lt R (L2 ++ R2) := by rw [he2]; exact sR2
                  exact ⟨Z1 ++ (L2 ++ R2), fin2 _ (List.Perm.refl _), fin3 _ (List.Perm.refl _) s2, by rw [hz2]; congr 1; simp⟩
              simp (disch := omega) only [go_sem, simprocAttr, q1, g0, g1, g2, g3, g4, g18, g19, g20, i2]
              refine wcond_dec (fun q2 => ?_) (fun q2 => ?_)
              rotate_left
              · first
                | exfalso; omega
                | simp (disch := omega) only [go_sem, simprocAttr, q1, q2]
                  have he2 : L2 = [] ∨ R2 = [] := by
                    by_cases h : L2 = []
                    · exact .inl h
                    · have := List.length_pos_iff.2 h
                      exact .inr (List.eq_nil_of_length_eq_zero (by omega))
                  have s2 : Sd lt R (L2 ++ R2) := by
                    rcases he2 with h | h
                    · rw [h]; exact sR2
                    · rw [h, List.append_nil]; exact sL2
                  exact ⟨Z1 ++ (L2 ++ R2), fin2 _ (List.Perm.refl _), fin3 _ (List.Perm.refl _) s2, by rw [hz2]; congr 1; simp⟩
              simp (disch := omega) only [go_sem, simprocAttr, q1, q2, g0, g1, g2, g3, g4, g18, g19, g20, i2]
              refine wJ_of (@IH (L2.length + R2.length) (by omega) mid e b2 (A ++ Z1) L2 R2 B rfl (by simp; omega) (by omega) (by omega) hN (by omega) (by omega) sL2 sR2 (fun u hu v hv => hR u (by rw [hL12]; exact List.mem_append_right _ hu) v (by rw [hQ12]; exact List.mem_append_right _ hv)) z2 (by rw [hz2]; simp)) ?_; rintro _ _ ⟨Z2, p2, s2, rfl⟩
              simp (disch := omega) only [go_sem, simprocAttr]
              exact ⟨Z1 ++ Z2, fin2 Z2 p2, fin3 Z2 p2 s2, by congr 1; simp⟩
          · obtain ⟨Z1, hZ⟩ : ∃ Z1 : List OpR, Z1 = L1 ++ R1 := ⟨_, rfl⟩
            have he1 : L1 = [] ∨ R1 = [] := by
              by_cases h : L1 = []
              · exact .inl h
              · have := List.length_pos_iff.2 h
                exact .inr (List.eq_nil_of_length_eq_zero (by omega))
            have s1 : Sd lt R Z1 := by
              rcases he1 with h | h
              · rw [hZ, h]; exact sR1
              · rw [hZ, h, List.append_nil]; exact sL1
            have p1 : Z1.Perm (L1 ++ R1) := hZ ▸ List.Perm.refl _
            have hZ1 : Z1.length = L1.length + R1.length := by rw [hZ]; simp
            obtain ⟨z2, hz2'⟩ : ∃ z2 : List OpR, z2 = y1 := ⟨_, rfl⟩
            have hz2 : z2 = A ++ (Z1 ++ (L2 ++ (R2 ++ B))) := by rw [hz2', hy1, hZ]; simp
            rw [← hz2']
            by_cases q1' : a < s
            · first
              | exfalso; omega
              | have q1 : (a : Int) < (s : Int) := by omega
                have q2 : ¬ (s : Int) < (mid : Int) := by omega
                simp (disch := omega) only [go_sem, simprocAttr, q1, q2, g0, g1, g2, g3, g4, g18, g19, g20, i2]
                have fin2 : ∀ Z2 : List OpR, Z2.Perm (L2 ++ R2) → (Z1 ++ Z2).Perm (L ++ Q) := fun Z2 h => by
                  rw [hL12, hQ12]
                  refine (p1.append h).trans ?_
                  simp only [List.append_assoc]
                  refine List.Perm.append_left L1 ?_
                  rw [← List.append_assoc, ← List.append_assoc]
                  exact List.Perm.append_right R2 List.perm_append_comm
                have fin3 : ∀ Z2 : List OpR, Z2.Perm (L2 ++ R2) → Sd lt R Z2 → Sd lt R (Z1 ++ Z2) := fun Z2 h h' => sd_split hsw (hL12 ▸ sL) (hQ12 ▸ sQ) cr1 cr2 p1 s1 h h'
                refine wguard_dec (fun q1 => ?_) (fun q1 => ?_)
                rotate_left
                · first
                  | exfalso; omega
                  | simp (disch := omega) only [go_sem, simprocAttr, q1]
                    have he2 : L2 = [] := List.eq_nil_of_length_eq_zero (by omega)
                    have s2 : Sd lt R (L2 ++ R2) := by rw [he2]; exact sR2
                    exact ⟨Z1 ++ (L2 ++ R2), fin2 _ (List.Perm.refl _), fin3 _ (List.Perm.refl _) s2, by rw [hz2]; congr 1; simp⟩
                simp (disch := omega) only [go_sem, simprocAttr, q1, g0, g1, g2, g3, g4, g18, g19, g20, i2]
                refine wcond_dec (fun q2 => ?_) (fun q2 => ?_)
                rotate_left
                · first
                  | exfalso; omega
                  | simp (disch := omega) only [go_sem, simprocAttr, q1, q2]
                    have he2 : L2 = [] ∨ R2 = [] := by
                      by_cases h : L2 = []
                      · exact .inl h
                      · have := List.length_pos_iff.2 h
                        exact .inr (List.eq_nil_of_length_eq_zero (by omega))
                    have s2 : Sd lt R (L2 ++ R2) := by
                      rcases he2 with h | h
                      · rw [h]; exact sR2
                      · rw [h, List.append_nil]; exact sL2
                    exact ⟨Z1 ++ (L2 ++ R2), fin2 _ (List.Perm.refl _), fin3 _ (List.Perm.refl _) s2, by rw [hz2]; congr 1; simp⟩
                simp (disch := omega) only [go_sem, simprocAttr, q1, q2, g0, g1, g2, g3, g4, g18, g19, g20, i2]
                refine wJ_of (@IH (L2.length + R2.length) (by omega) mid e b2 (A ++ Z1) L2 R2 B rfl (by simp; omega) (by omega) (by omega) hN (by omega) (by omega) sL2 sR2 (fun u hu v hv => hR u (by rw [hL12]; exact List.mem_append_right _ hu) v (by rw [hQ12]; exact List.mem_append_right _ hv)) z2 (by rw [hz2]; simp)) ?_; rintro _ _ ⟨Z2, p2, s2, rfl⟩
                simp (disch := omega) only [go_sem, simprocAttr]
                exact ⟨Z1 ++ Z2, fin2 Z2 p2, fin3 Z2 p2 s2, by congr 1; simp⟩
            · first
              | exfalso; omega
              | have q1 : ¬ (a : Int) < (s : Int) := by omega
                simp (disch := omega) only [go_sem, simprocAttr, q1, g0, g1, g2, g3, g4, g18, g19, g20, i2]
                have fin2 : ∀ Z2 : List OpR, Z2.Perm (L2 ++ R2) → (Z1 ++ Z2).Perm (L ++ Q) := fun Z2 h => by
                  rw [hL12, hQ12]
                  refine (p1.append h).trans ?_
                  simp only [List.append_assoc]
                  refine List.Perm.append_left L1 ?_
                  rw [← List.append_assoc, ← List.append_assoc]
                  exact List.Perm.append_right R2 List.perm_append_comm
                have fin3 : ∀ Z2 : List OpR, Z2.Perm (L2 ++ R2) → Sd lt R Z2 → Sd lt R (Z1 ++ Z2) := fun Z2 h h' => sd_split hsw (hL12 ▸ sL) (hQ12 ▸ sQ) cr1 cr2 p1 s1 h h'
                refine wguard_dec (fun q1 => ?_) (fun q1 => ?_)
                rotate_left
                · first
                  | exfalso; omega
                  | simp (disch := omega) only [go_sem, simprocAttr, q1]
                    have he2 : L2 = [] := List.eq_nil_of_length_eq_zero (by omega)
                    have s2 : Sd lt R (L2 ++ R2) := by rw [he2]; exact sR2
                    exact ⟨Z1 ++ (L2 ++ R2), fin2 _ (List.Perm.refl _), fin3 _ (List.Perm.refl _) s2, by rw [hz2]; congr 1; simp⟩
                simp (disch := omega) only [go_sem, simprocAttr, q1, g0, g1, g2, g3, g4, g18, g19, g20, i2]
                refine wcond_dec (fun q2 => ?_) (fun q2 => ?_)
                rotate_left
                · first
                  | exfalso; omega
                  | simp (disch := omega) only [go_sem, simprocAttr, q1, q2]
                    have he2 : L2 = [] ∨ R2 = [] := by
                      by_cases h : L2 = []
                      · exact .inl h
                      · have := List.length_pos_iff.2 h
                        exact .inr (List.eq_nil_of_length_eq_zero (by omega))
                    have s2 : Sd lt R (L2 ++ R2) := by
                      rcases he2 with h | h
                      · rw [h]; exact sR2
                      · rw [h, List.append_nil]; exact sL2
                    exact ⟨Z1 ++ (L2 ++ R2), fin2 _ (List.Perm.refl _), fin3 _ (List.Perm.refl _) s2, by rw [hz2]; congr 1; simp⟩
                simp (disch := omega) only [go_sem, simprocAttr, q1, q2, g0, g1, g2, g3, g4, g18, g19, g20, i2]
                refine wJ_of (@IH (L2.length + R2.length) (by omega) mid e b2 (A ++ Z1) L2 R2 B rfl (by simp; omega) (by omega) (by omega) hN (by omega) (by omega) sL2 sR2 (fun u hu v hv => hR u (by rw [hL12]; exact List.mem_append_right _ hu) v (by rw [hQ12]; exact List.mem_append_right _ hv)) z2 (by rw [hz2]; simp)) ?_; rintro _ _ ⟨Z2, p2, s2, rfl⟩
                simp (disch := omega) only [go_sem, simprocAttr]
                exact ⟨Z1 ++ Z2, fin2 Z2 p2, fin3 Z2 p2 s2, by congr 1; simp⟩
  · have w0 : ¬ (mid : Int) < (m : Int) := by omega
    obtain ⟨s0, hs0⟩ : ∃ s0, s0 = a := ⟨_, rfl⟩
    obtain ⟨r0, hr0⟩ : ∃ r0, r0 = m := ⟨_, rfl⟩
    have hs0' : s0 = a ∨ mid + m = s0 + b2 := .inl hs0
    have hr0' : r0 = m ∨ r0 = mid := .inl hr0
    have hsr0 : s0 ≤ r0 ∧ a ≤ s0 ∧ r0 ≤ m ∧ r0 ≤ mid ∧ mid + m ≤ s0 + b2 := by omega
    have er : Value.int .i64 (m : Int) = Value.int .i64 (r0 : Int) := by rw [hr0]
    have er2 : Value.int .i64 (a : Int) = Value.int .i64 (s0 : Int) := by rw [hs0]
    have es := w0
    simp (disch := omega) only [go_sem, simprocAttr, w0]
    refine wC_at 8 (fun fr S' => ∃ s : Nat, s0 ≤ s ∧ s ≤ r0 ∧ fr 0 = .slice (some ⟨b, 0, none⟩) N c ∧ fr 1 = .int .i64 a ∧ fr 2 = .int .i64 m ∧ fr 3 = .int .i64 b2 ∧ fr 4 = f ∧ fr 18 = .int .i64 mid ∧ fr 19 = .int .i64 (mid + m : Nat) ∧ fr 20 = .int .i64 s ∧ S' = DatS opE S b cap zs ∧
        (s = s0 ∨ ∃ x y, L[s - 1 - a]? = some x ∧ Q[mid - s]? = some y ∧ ¬ lt y x) ∧ (s = r0 ∨ ∃ x y, L[s - a]? = some x ∧ Q[mid - 1 - s]? = some y ∧ lt y x)) ?_ ?_
    · refine wC_loop (fun k fr S' => ∃ s r : Nat, k = r - s ∧ s0 ≤ s ∧ s ≤ r ∧ r ≤ r0 ∧ fr 0 = .slice (some ⟨b, 0, none⟩) N c ∧ fr 1 = .int .i64 a ∧ fr 2 = .int .i64 m ∧ fr 3 = .int .i64 b2 ∧ fr 4 = f ∧ fr 18 = .int .i64 mid ∧ fr 19 = .int .i64 (mid + m : Nat) ∧ fr 20 = .int .i64 s ∧ fr 21 = .int .i64 r ∧ fr 22 = .int .i64 (mid + m - 1 : Nat) ∧ S' = DatS opE S b cap zs ∧
          (s = s0 ∨ ∃ x y, L[s - 1 - a]? = some x ∧ Q[mid - s]? = some y ∧ ¬ lt y x) ∧ (r = r0 ∨ ∃ x y, L[r - a]? = some x ∧ Q[mid - 1 - r]? = some y ∧ lt y x)) (r0 - s0)
        ⟨s0, r0, by
          have k1 : (mid : Int) + (m : Int) - 1 = ((mid + m - 1 : Nat) : Int) := by omega
          have k2 : Value.int .i64 ((mid : Int) + (m : Int)) = Value.int .i64 ((mid + m : Nat) : Int) := rfl
          have k3 : (s0 = s0 ∨ ∃ x y, L[s0 - 1 - a]? = some x ∧ Q[mid - s0]? = some y ∧ ¬ lt y x) := .inl rfl
          have k4 : (r0 = r0 ∨ ∃ x y, L[r0 - a]? = some x ∧ Q[mid - 1 - r0]? = some y ∧ lt y x) := .inl rfl
          simp (disch := omega) only [go_sem, simprocAttr, k1, es]
          repeat' first | assumption | omega | (exact St.Ext.refl _) | (exact List.Perm.refl _) | rfl | (exact .inl trivial) | (exact trivial) | refine And.intro ?_ ?_
          ⟩ ?_
      rintro k fr S' ⟨s, r, rfl, hs1, hsr, hr1, g0, g1, g2, g3, g4, g18, g19, g20, g21, g22, rfl, v1, v2⟩
      simp (disch := omega) only [go_sem, simprocAttr, F.slices_symMergeCmpFunc_api_Op.l4, g0, g1, g2, g3, g4, g18, g19, g20, g21, g22]
      refine wcond_dec (fun hlt => ?_) (fun hge => ?_)
      · have hcc := half64 (i := s) (j := r) (by omega)
        have hc1 : s ≤ (s + r) / 2 := by omega
        have hc2 : (s + r) / 2 < r := by omega
        generalize (s + r) / 2 = cc at *
        have hci : cc - a < L.length := by omega
        have hqi : mid - 1 - cc < Q.length := by omega
        have ei : ((mid + m - 1 : Nat) : Int) - (cc : Int) = ((m + (mid - 1 - cc) : Nat) : Int) := by omega
        have lc : (DatS opE S b cap zs).loadN ⟨b, cc * 14, none⟩ 14 = some (opE.enc L[cc - a]) := DatS.load (by
          have := get_L (Q := Q) (B := B) ha hci
          rw [show a + (cc - a) = cc by omega] at this
          rw [hz]
          exact this)
        have lq : (DatS opE S b cap zs).loadN ⟨b, (m + (mid - 1 - cc)) * 14, none⟩ 14 = some (opE.enc Q[mid - 1 - cc]) := DatS.load (by rw [hz]; exact get_Q ha hm hqi)
        have c1 : (0 : Int) ≤ (cc : Int) ∧ (cc : Int) < (N : Int) := by omega
        have c2 : (0 : Int) ≤ ((m + (mid - 1 - cc) : Nat) : Int) ∧ ((m + (mid - 1 - cc) : Nat) : Int) < (N : Int) := by omega
        simp (disch := omega) only [go_sem, simprocAttr, g0, g1, g2, g3, g4, g18, g19, g20, g21, g22, hcc, ei, c1, c2, lc, lq]
        refine hf.call (hG _) Q[mid - 1 - cc] L[cc - a] fun cv hcv => ?_
        simp (disch := omega) only [go_sem, simprocAttr]
        refine wcond_ndec (fun hpos => ?_) (fun hneg => ?_)
        · simp (disch := omega) only [go_sem, simprocAttr, g0, g1, g2, g3, g4, g18, g19, g20, g21, g22, hcc]
          refine ⟨r - (cc + 1), by omega, cc + 1, r, ?_⟩
          have k1 : (cc + 1 = s0 ∨ ∃ x y, L[cc + 1 - 1 - a]? = some x ∧ Q[mid - (cc + 1)]? = some y ∧ ¬ lt y x) :=
            .inr ⟨L[cc - a], Q[mid - 1 - cc], by rw [Nat.add_sub_cancel]; exact List.getElem?_eq_getElem hci, by rw [show mid - (cc + 1) = mid - 1 - cc by omega]; exact List.getElem?_eq_getElem hqi, fun h => hpos (hcv.2 h)⟩
          repeat' first | assumption | omega | (exact St.Ext.refl _) | (exact List.Perm.refl _) | rfl | (exact .inl trivial) | (exact trivial) | refine And.intro ?_ ?_
        · simp (disch := omega) only [go_sem, simprocAttr, g0, g1, g2, g3, g4, g18, g19, g20, g21, g22, hcc]
          refine ⟨cc - s, by omega, s, cc, ?_⟩
          have k1 : (cc = r0 ∨ ∃ x y, L[cc - a]? = some x ∧ Q[mid - 1 - cc]? = some y ∧ lt y x) :=
            .inr ⟨L[cc - a], Q[mid - 1 - cc], List.getElem?_eq_getElem hci, List.getElem?_eq_getElem hqi, hcv.1 hneg⟩
          repeat' first | assumption | omega | (exact St.Ext.refl _) | (exact List.Perm.refl _) | rfl | (exact .inl trivial) | (exact trivial) | refine And.intro ?_ ?_
      · simp (disch := omega) only [go_sem, simprocAttr]
        obtain rfl : s = r := by omega
        refine ⟨s, ?_⟩
        repeat' first | assumption | omega | (exact St.Ext.refl _) | (exact List.Perm.refl _) | rfl | (exact .inl trivial) | (exact trivial) | refine And.intro ?_ ?_
    rintro fr S' ⟨s, hs1, hs2, g0, g1, g2, g3, g4, g18, g19, g20, rfl, v1, v2⟩
    obtain ⟨L1, hL1⟩ : ∃ L1, L1 = L.take (s - a) := ⟨_, rfl⟩
    obtain ⟨L2, hL2⟩ : ∃ L2, L2 = L.drop (s - a) := ⟨_, rfl⟩
    obtain ⟨R1, hR1⟩ : ∃ R1, R1 = Q.take (mid - s) := ⟨_, rfl⟩
    obtain ⟨R2, hR2⟩ : ∃ R2, R2 = Q.drop (mid - s) := ⟨_, rfl⟩
    have hL12 : L = L1 ++ L2 := by rw [hL1, hL2, List.take_append_drop]
    have hQ12 : Q = R1 ++ R2 := by rw [hR1, hR2, List.take_append_drop]
    have nL1 : L1.length = s - a := by rw [hL1, List.length_take]; omega
    have nL2 : L2.length = L.length - (s - a) := by rw [hL2, List.length_drop]
    have nR1 : R1.length = mid - s := by rw [hR1, List.length_take]; omega
    have nR2 : R2.length = Q.length - (mid - s) := by rw [hR2, List.length_drop]
    have sL1 : Sd lt R L1 := by have := sL; rw [hL12] at this; exact (List.pairwise_append.1 this).1
    have sL2 : Sd lt R L2 := by have := sL; rw [hL12] at this; exact (List.pairwise_append.1 this).2.1
    have sR1 : Sd lt R R1 := by have := sQ; rw [hQ12] at this; exact (List.pairwise_append.1 this).1
    have sR2 : Sd lt R R2 := by have := sQ; rw [hQ12] at this; exact (List.pairwise_append.1 this).2.1
    have cr1 : ∀ x ∈ L1.getLast?, ∀ y ∈ R2.head?, TO lt R x y := by
      intro x hx y hy
      have hxL : x ∈ L := by rw [hL12]; exact List.mem_append_left _ (List.mem_of_getLast? hx)
      have hyQ : y ∈ Q := by rw [hQ12]; exact List.mem_append_right _ (List.mem_of_mem_head? hy)
      rcases v1 with h | ⟨x', y', h1, h2, h3⟩
      · exfalso
        rcases hs0' with h' | h'
        · have : L1 = [] := List.eq_nil_of_length_eq_zero (by omega)
          rw [this] at hx; simp at hx
        · have : R2 = [] := List.eq_nil_of_length_eq_zero (by omega)
          rw [this] at hy; simp at hy
      · have hsa : a < s := by
          by_cases h : a < s
          · exact h
          · have : L1 = [] := List.eq_nil_of_length_eq_zero (by omega)
            rw [this] at hx; simp at hx
        have ex : x = x' := by
          rw [hL1, show s - a = (s - 1 - a) + 1 by omega, take_snoc h1] at hx
          exact (Option.some.inj (List.getLast?_concat.symm.trans hx)).symm
        have ey : y = y' := by
          rw [hR2, List.head?_drop] at hy
          exact (Option.some.inj (h2.symm.trans hy)).symm
        subst ex ey
        exact .inr ⟨h3, hR _ hxL _ hyQ⟩
    have cr2 : ∀ y ∈ R1.getLast?, ∀ x ∈ L2.head?, TO lt R y x := by
      intro y hy x hx
      rcases v2 with h | ⟨x', y', h1, h2, h3⟩
      · exfalso
        rcases hr0' with h' | h'
        · have : L2 = [] := List.eq_nil_of_length_eq_zero (by omega)
          rw [this] at hx; simp at hx
        · have : R1 = [] := List.eq_nil_of_length_eq_zero (by omega)
          rw [this] at hy; simp at hy
      · have hsm : s < mid := by
          by_cases h : s < mid
          · exact h
          · have : R1 = [] := List.eq_nil_of_length_eq_zero (by omega)
            rw [this] at hy; simp at hy
        have ey : y = y' := by
          rw [hR1, show mid - s = (mid - 1 - s) + 1 by omega, take_snoc h2] at hy
          exact (Option.some.inj (List.getLast?_concat.symm.trans hy)).symm
        have ex : x = x' := by
          rw [hL2, List.head?_drop] at hx
          exact (Option.some.inj (h1.symm.trans hx)).symm
        subst ex ey
        exact .inl h3
    obtain ⟨e, he⟩ : ∃ e, e = mid + m - s := ⟨_, rfl⟩
    have i2 : ((mid + m : Nat) : Int) - (s : Int) = (e : Int) := by omega
    simp (disch := omega) only [go_sem, simprocAttr, g0, g1, g2, g3, g4, g18, g19, g20, i2]
    by_cases w12 : s < m ∧ m < e
    · obtain ⟨w1', w2'⟩ := w12
      have w1 : (s : Int) < (m : Int) := by omega
      have w2 : (m : Int) < (e : Int) := by omega
      have hzr : zs = (A ++ L1) ++ (L2 ++ (R1 ++ (R2 ++ B))) := by rw [hz, hL12, hQ12]; simp
      rw [hzr]
      simp (disch := omega) only [go_sem, simprocAttr, w1, w2, g0, g1, g2, g3, g4, g18, g19, g20, i2]
      refine wJ_of (F.slices_rotateCmpFunc_api_Op_J (A := A ++ L1) (X := L2) (Y := R1) (B := R2 ++ B) (by simp; omega) (by omega) (by omega) (by omega) (by omega) (by simp; omega) hcap hNb) ?_; rintro _ _ rfl
      obtain ⟨y1, hy1'⟩ : ∃ y1 : List OpR, y1 = A ++ L1 ++ (R1 ++ (L2 ++ (R2 ++ B))) := ⟨_, rfl⟩
      have hy1 : y1 = A ++ (L1 ++ (R1 ++ (L2 ++ (R2 ++ B)))) := by rw [hy1']; simp
      rw [← hy1']
      simp (disch := omega) only [go_sem, simprocAttr, g0, g1, g2, g3, g4, g18, g19, g20, i2]
      have sm' : s < mid := by omega
      have sm : (s : Int) < (mid : Int) := by omega
      by_cases q12 : a < s ∧ s < mid
      · first
        | exfalso; omega
        | obtain ⟨q1', q2'⟩ := q12
          have q1 : (a : Int) < (s : Int) := by omega
          have q2 : (s : Int) < (mid : Int) := by omega
          simp (disch := omega) only [go_sem, simprocAttr, q1, q2, g0, g1, g2, g3, g4, g18, g19, g20]
          refine wJ_of (@IH (L1.length + R1.length) (by omega) a s mid A L1 R1 (L2 ++ (R2 ++ B)) rfl ha (by omega) (by omega) (by simp; omega) (by omega) (by omega) sL1 sR1 (fun u hu v hv => hR u (by rw [hL12]; exact List.mem_append_left _ hu) v (by rw [hQ12]; exact List.mem_append_left _ hv)) y1 hy1) ?_; rintro _ _ ⟨Z1, p1, s1, rfl⟩
          obtain ⟨z2, hz2⟩ : ∃ z2 : List OpR, z2 = A ++ (Z1 ++ (L2 ++ (R2 ++ B))) := ⟨_, rfl⟩
          rw [← hz2]
          have hZ1 := p1.length_eq
          simp only [List.length_append] at hZ1
          simp (disch := omega) only [go_sem, simprocAttr, g0, g1, g2, g3, g4, g18, g19, g20, i2]
          have fin2 : ∀ Z2 : List OpR, Z2.Perm (L2 ++ R2) → (Z1 ++ Z2).Perm (L ++ Q) := fun Z2 h => by
            rw [hL12, hQ12]
            refine (p1.append h).trans ?_
            simp only [List.append_assoc]
            refine List.Perm.append_left L1 ?_
            rw [← List.append_assoc, ← List.append_assoc]
            exact List.Perm.append_right R2 List.perm_append_comm
          have fin3 : ∀ Z2 : List OpR, Z2.Perm (L2 ++ R2) → Sd lt R Z2 → Sd lt R (Z1 ++ Z2) := fun Z2 h h' => sd_split hsw (hL12 ▸ sL) (hQ12 ▸ sQ) cr1 cr2 p1 s1 h h'
          refine wguard_dec (fun q1 => ?_) (fun q1 => ?_)
          rotate_left
          · first
            | exfalso; omega
            | simp (disch := omega) only [go_sem, simprocAttr, q1]
              have he2 : L2 = [] := List.eq_nil_of_length_eq_zero (by omega)
              have s2 : Sd lt R (L2 ++ R2) := by rw [he2]; exact sR2
              exact ⟨Z1 ++ (L2 ++ R2), fin2 _ (List.Perm.refl _), fin3 _ (List.Perm.refl _) s2, by rw [hz2]; congr 1; simp⟩
          simp (disch := omega) only [go_sem, simprocAttr, q1, g0, g1, g2, g3, g4, g18, g19, g20, i2]
          refine wcond_dec (fun q2 => ?_) (fun q2 => ?_)
          rotate_left
          · first
            | exfalso; omega
            | simp (disch := omega) only [go_sem, simprocAttr, q1, q2]
              have he2 : L2 = [] ∨ R2 = [] := by
                by_cases h : L2 = []
                · exact .inl h
                · have := List.length_pos_iff.2 h
                  exact .inr (List.eq_nil_of_length_eq_zero (by omega))
              have s2 : Sd lt R (L2 ++ R2) := by
                rcases he2 with h | h
                · rw [h]; exact sR2
                · rw [h, List.append_nil]; exact sL2
              exact ⟨Z1 ++ (L2 ++ R2), fin2 _ (List.Perm.refl _), fin3 _ (List.Perm.refl _) s2, by rw [hz2]; congr 1; simp⟩
          simp (disch := omega) only [go_sem, simprocAttr, q1, q2, g0, g1, g2, g3, g4, g18, g19, g20, i2]
          refine wJ_of (@IH (L2.length + R2.length) (by omega) mid e b2 (A ++ Z1) L2 R2 B rfl (by simp; omega) (by omega) (by omega) hN (by omega) (by omega) sL2 sR2 (fun u hu v hv => hR u (by rw [hL12]; exact List.mem_append_right _ hu) v (by rw [hQ12]; exact List.mem_append_right _ hv)) z2 (by rw [hz2]; simp)) ?_; rintro _ _ ⟨Z2, p2, s2, rfl⟩
          simp (disch := omega) only [go_sem, simprocAttr]
          exact ⟨Z1 ++ Z2, fin2 Z2 p2, fin3 Z2 p2 s2, by congr 1; simp⟩
      · obtain ⟨Z1, hZ⟩ : ∃ Z1 : List OpR, Z1 = L1 ++ R1 := ⟨_, rfl⟩
        have he1 : L1 = [] ∨ R1 = [] := by
          by_cases h : L1 = []
          · exact .inl h
          · have := List.length_pos_iff.2 h
            exact .inr (List.eq_nil_of_length_eq_zero (by omega))
        have s1 : Sd lt R Z1 := by
          rcases he1 with h | h
          · rw [hZ, h]; exact sR1
          · rw [hZ, h, List.append_nil]; exact sL1
        have p1 : Z1.Perm (L1 ++ R1) := hZ ▸ List.Perm.refl _
        have hZ1 : Z1.length = L1.length + R1.length := by rw [hZ]; simp
        obtain ⟨z2, hz2'⟩ : ∃ z2 : List OpR, z2 = y1 := ⟨_, rfl⟩
        have hz2 : z2 = A ++ (Z1 ++ (L2 ++ (R2 ++ B))) := by rw [hz2', hy1, hZ]; simp
        rw [← hz2']
        by_cases q1' : a < s
        · first
          | exfalso; omega
          | have q1 : (a : Int) < (s : Int) := by omega
            have q2 : ¬ (s : Int) < (mid : Int) := by omega
            simp (disch := omega) only [go_sem, simprocAttr, q1, q2, g0, g1, g2, g3, g4, g18, g19, g20, i2]
            have fin2 : ∀ Z2 : List OpR, Z2.Perm (L2 ++ R2) → (Z1 ++ Z2).Perm (L ++ Q) := fun Z2 h => by
              rw [hL12, hQ12]
              refine (p1.append h).trans ?_
              simp only [List.append_assoc]
              refine List.Perm.append_left L1 ?_
              rw [← List.append_assoc, ← List.append_assoc]
              exact List.Perm.append_right R2 List.perm_append_comm
            have fin3 : ∀ Z2 : List OpR, Z2.Perm (L2 ++ R2) → Sd lt R Z2 → Sd lt R (Z1 ++ Z2) := fun Z2 h h' => sd_split hsw (hL12 ▸ sL) (hQ12 ▸ sQ) cr1 cr2 p1 s1 h h'
            refine wguard_dec (fun q1 => ?_) (fun q1 => ?_)
            rotate_left
            · first
              | exfalso; omega
              | simp (disch := omega) only [go_sem, simprocAttr, q1]
                have he2 : L2 = [] := List.eq_nil_of_length_eq_zero (by omega)
                have s2 : Sd lt R (L2 ++ R2) := by rw [he2]; exact sR2
                exact ⟨Z1 ++ (L2 ++ R2), fin2 _ (List.Perm.refl _), fin3 _ (List.Perm.refl _) s2, by rw [hz2]; congr 1; simp⟩
            simp (disch := omega) only [go_sem, simprocAttr, q1, g0, g1, g2, g3, g4, g18, g19, g20, i2]
            refine wcond_dec (fun q2 => ?_) (fun q2 => ?_)
            rotate_left
            · first
              | exfalso; omega
              | simp (disch := omega) only [go_sem, simprocAttr, q1, q2]
                have he2 : L2 = [] ∨ R2 = [] := by
                  by_cases h : L2 = []
                  · exact .inl h
                  · have := List.length_pos_iff.2 h
                    exact .inr (List.eq_nil_of_length_eq_zero (by omega))
                have s2 : Sd lt R (L2 ++ R2) := by
                  rcases he2 with h | h
                  · rw [h]; exact sR2
                  · rw [h, List.append_nil]; exact sL2
                exact ⟨Z1 ++ (L2 ++ R2), fin2 _ (List.Perm.refl _), fin3 _ (List.Perm.refl _) s2, by rw [hz2]; congr 1; simp⟩
            simp (disch := omega) only [go_sem, simprocAttr, q1, q2, g0, g1, g2, g3, g4, g18, g19, g20, i2]
            refine wJ_of (@IH (L2.length + R2.length) (by omega) mid e b2 (A ++ Z1) L2 R2 B rfl (by simp; omega) (by omega) (by omega) hN (by omega) (by omega) sL2 sR2 (fun u hu v hv => hR u (by rw [hL12]; exact List.mem_append_right _ hu) v (by rw [hQ12]; exact List.mem_append_right _ hv)) z2 (by rw [hz2]; simp)) ?_; rintro _ _ ⟨Z2, p2, s2, rfl⟩
            simp (disch := omega) only [go_sem, simprocAttr]
            exact ⟨Z1 ++ Z2, fin2 Z2 p2, fin3 Z2 p2 s2, by congr 1; simp⟩
        · first
          | exfalso; omega
          | have q1 : ¬ (a : Int) < (s : Int) := by omega
            simp (disch := omega) only [go_sem, simprocAttr, q1, g0, g1, g2, g3, g4, g18, g19, g20, i2]
            have fin2 : ∀ Z2 : List OpR, Z2.Perm (L2 ++ R2) → (Z1 ++ Z2).Perm (L ++ Q) := fun Z2 h => by
              rw [hL12, hQ12]
              refine (p1.append h).trans ?_
              simp only [List.append_assoc]
              refine List.Perm.append_left L1 ?_
              rw [← List.append_assoc, ← List.append_assoc]
              exact List.Perm.append_right R2 List.perm_append_comm
            have fin3 : ∀ Z2 : List OpR, Z2.Perm (L2 ++ R2) → Sd lt R Z2 → Sd lt R (Z1 ++ Z2) := fun Z2 h h' => sd_split hsw (hL12 ▸ sL) (hQ12 ▸ sQ) cr1 cr2 p1 s1 h h'
            refine wguard_dec (fun q1 => ?_) (fun q1 => ?_)
            rotate_left
            · first
              | exfalso; omega
              | simp (disch := omega) only [go_sem, simprocAttr, q1]
                have he2 : L2 = [] := List.eq_nil_of_length_eq_zero (by omega)
                have s2 : Sd lt R (L2 ++ R2) := by rw [he2]; exact sR2
                exact ⟨Z1 ++ (L2 ++ R2), fin2 _ (List.Perm.refl _), fin3 _ (List.Perm.refl _) s2, by rw [hz2]; congr 1; simp⟩
            simp (disch := omega) only [go_sem, simprocAttr, q1, g0, g1, g2, g3, g4, g18, g19, g20, i2]
            refine wcond_dec (fun q2 => ?_) (fun q2 => ?_)
            rotate_left
            · first
              | exfalso; omega
              | simp (disch := omega) only [go_sem, simprocAttr, q1, q2]
                have he2 : L2 = [] ∨ R2 = [] := by
                  by_cases h : L2 = []
                  · exact .inl h
                  · have := List.length_pos_iff.2 h
                    exact .inr (List.eq_nil_of_length_eq_zero (by omega))
                have s2 : Sd lt R (L2 ++ R2) := by
                  rcases he2 with h | h
                  · rw [h]; exact sR2
                  · rw [h, List.append_nil]; exact sL2
                exact ⟨Z1 ++ (L2 ++ R2), fin2 _ (List.Perm.refl _), fin3 _ (List.Perm.refl _) s2, by rw [hz2]; congr 1; simp⟩
            simp (disch := omega) only [go_sem, simprocAttr, q1, q2, g0, g1, g2, g3, g4, g18, g19, g20, i2]
            refine wJ_of (@IH (L2.length + R2.length) (by omega) mid e b2 (A ++ Z1) L2 R2 B rfl (by simp; omega) (by omega) (by omega) hN (by omega) (by omega) sL2 sR2 (fun u hu v hv => hR u (by rw [hL12]; exact List.mem_append_right _ hu) v (by rw [hQ12]; exact List.mem_append_right _ hv)) z2 (by rw [hz2]; simp)) ?_; rintro _ _ ⟨Z2, p2, s2, rfl⟩
            simp (disch := omega) only [go_sem, simprocAttr]
            exact ⟨Z1 ++ Z2, fin2 Z2 p2, fin3 Z2 p2 s2, by congr 1; simp⟩
    · have hE : L2 = [] ∨ R1 = [] := by
        by_cases h : L2 = []
        · exact .inl h
        · have := List.length_pos_iff.2 h
          exact .inr (List.eq_nil_of_length_eq_zero (by omega))
      obtain ⟨y1, hy1'⟩ : ∃ y1 : List OpR, y1 = zs := ⟨_, rfl⟩
      have hy1 : y1 = A ++ (L1 ++ (R1 ++ (L2 ++ (R2 ++ B)))) := by
        rw [hy1', hz, hL12, hQ12]
        rcases hE with h | h <;> rw [h] <;> simp
      rw [← hy1']
      by_cases w1' : s < m
      · first
        | exfalso; omega
        | have w1 : (s : Int) < (m : Int) := by omega
          have w2 : ¬ (m : Int) < (e : Int) := by omega
          simp (disch := omega) only [go_sem, simprocAttr, w1, w2, g0, g1, g2, g3, g4, g18, g19, g20, i2]
          by_cases q12 : a < s ∧ s < mid
          · first
            | exfalso; omega
            | obtain ⟨q1', q2'⟩ := q12
              have q1 : (a : Int) < (s : Int) := by omega
              have q2 : (s : Int) < (mid : Int) := by omega
              simp (disch := omega) only [go_sem, simprocAttr, q1, q2, g0, g1, g2, g3, g4, g18, g19, g20]
              refine wJ_of (@IH (L1.length + R1.length) (by omega) a s mid A L1 R1 (L2 ++ (R2 ++ B)) rfl ha (by omega) (by omega) (by simp; omega) (by omega) (by omega) sL1 sR1 (fun u hu v hv => hR u (by rw [hL12]; exact List.mem_append_left _ hu) v (by rw [hQ12]; exact List.mem_append_left _ hv)) y1 hy1) ?_; rintro _ _ ⟨Z1, p1, s1, rfl⟩
              obtain ⟨z2, hz2⟩ : ∃ z2 : List OpR, z2 = A ++ (Z1 ++ (L2 ++ (R2 ++ B))) := ⟨_, rfl⟩
              rw [← hz2]
              have hZ1 := p1.length_eq
              simp only [List.length_append] at hZ1
              simp (disch := omega) only [go_sem, simprocAttr, g0, g1, g2, g3, g4, g18, g19, g20, i2]
              have fin2 : ∀ Z2 : List OpR, Z2.Perm (L2 ++ R2) → (Z1 ++ Z2).Perm (L ++ Q) := fun Z2 h => by
                rw [hL12, hQ12]
                refine (p1.append h).trans ?_
                simp only [List.append_assoc]
                refine List.Perm.append_left L1 ?_
                rw [← List.append_assoc, ← List.append_assoc]
                exact List.Perm.append_right R2 List.perm_append_comm
              have fin3 : ∀ Z2 : List OpR, Z2.Perm (L2 ++ R2) → Sd lt R Z2 → Sd lt R (Z1 ++ Z2) := fun Z2 h h' => sd_split hsw (hL12 ▸ sL) (hQ12 ▸ sQ) cr1 cr2 p1 s1 h h'
              refine wguard_dec (fun q1 => ?_) (fun q1 => ?_)
              rotate_left
              · first
                | exfalso; omega
                | simp (disch := omega) only [go_sem, simprocAttr, q1]
                  have he2 : L2 = [] := List.eq_nil_of_length_eq_zero (by omega)
                  have s2 : Sd lt R (L2 ++ R2) := by rw [he2]; exact sR2
                  exact ⟨Z1 ++ (L2 ++ R2), fin2 _ (List.Perm.refl _), fin3 _ (List.Perm.refl _) s2, by rw [hz2]; congr 1; simp⟩
              simp (disch := omega) only [go_sem, simprocAttr, q1, g0, g1, g2, g3, g4, g18, g19, g20, i2]
              refine wcond_dec (fun q2 => ?_) (fun q2 => ?_)
              rotate_left
              · first
                | exfalso; omega
                | simp (disch := omega) only [go_sem, simprocAttr, q1, q2]
                  have he2 : L2 = [] ∨ R2 = [] := by
                    by_cases h : L2 = []
                    · exact .inl h
                    · have := List.length_pos_iff.2 h
                      exact .inr (List.eq_nil_of_length_eq_zero (by omega))
                  have s2 : Sd lt R (L2 ++ R2) := by
                    rcases he2 with h | h
                    · rw [h]; exact sR2
                    · rw [h, List.append_nil]; exact sL2
                  exact ⟨Z1 ++ (L2 ++ R2), fin2 _ (List.Perm.refl _), fin3 _ (List.Perm.refl _) s2, by rw [hz2]; congr 1; simp⟩
              simp (disch := omega) only [go_sem, simprocAttr, q1, q2, g0, g1, g2, g3, g4, g18, g19, g20, i2]
              refine wJ_of (@IH (L2.length + R2.length) (by omega) mid e b2 (A ++ Z1) L2 R2 B rfl (by simp; omega) (by omega) (by omega) hN (by omega) (by omega) sL2 sR2 (fun u hu v hv => hR u (by rw [hL12]; exact List.mem_append_right _ hu) v (by rw [hQ12]; exact List.mem_append_right _ hv)) z2 (by rw [hz2]; simp)) ?_; rintro _ _ ⟨Z2, p2, s2, rfl⟩
              simp (disch := omega) only [go_sem, simprocAttr]
              exact ⟨Z1 ++ Z2, fin2 Z2 p2, fin3 Z2 p2 s2, by congr 1; simp⟩
          · obtain ⟨Z1, hZ⟩ : ∃ Z1 : List OpR, Z1 = L1 ++ R1 := ⟨_, rfl⟩
            have he1 : L1 = [] ∨ R1 = [] := by
              by_cases h : L1 = []
              · exact .inl h
              · have := List.length_pos_iff.2 h
                exact .inr (List.eq_nil_of_length_eq_zero (by omega))
            have s1 : Sd lt R Z1 := by
              rcases he1 with h | h
              · rw [hZ, h]; exact sR1
              · rw [hZ, h, List.append_nil]; exact sL1
            have p1 : Z1.Perm (L1 ++ R1) := hZ ▸ List.Perm.refl _
            have hZ1 : Z1.length = L1.length + R1.length := by rw [hZ]; simp
            obtain ⟨z2, hz2'⟩ : ∃ z2 : List OpR, z2 = y1 := ⟨_, rfl⟩
            have hz2 : z2 = A ++ (Z1 ++ (L2 ++ (R2 ++ B))) := by rw [hz2', hy1, hZ]; simp
            rw [← hz2']
            by_cases q1' : a < s
            · first
              | exfalso; omega
              | have q1 : (a : Int) < (s : Int) := by omega
                have q2 : ¬ (s : Int) < (mid : Int) := by omega
                simp (disch := omega) only [go_sem, simprocAttr, q1, q2, g0, g1, g2, g3, g4, g18, g19, g20, i2]
                have fin2 : ∀ Z2 : List OpR, Z2.Perm (L2 ++ R2) → (Z1 ++ Z2).Perm (L ++ Q) := fun Z2 h => by
                  rw [hL12, hQ12]
                  refine (p1.append h).trans ?_
                  simp only [List.append_assoc]
                  refine List.Perm.append_left L1 ?_
                  rw [← List.append_assoc, ← List.append_assoc]
                  exact List.Perm.append_right R2 List.perm_append_comm
                have fin3 : ∀ Z2 : List OpR, Z2.Perm (L2 ++ R2) → Sd lt R Z2 → Sd lt R (Z1 ++ Z2) := fun Z2 h h' => sd_split hsw (hL12 ▸ sL) (hQ12 ▸ sQ) cr1 cr2 p1 s1 h h'
                refine wguard_dec (fun q1 => ?_) (fun q1 => ?_)
                rotate_left
                · first
                  | exfalso; omega
                  | simp (disch := omega) only [go_sem, simprocAttr, q1]
                    have he2 : L2 = [] := List.eq_nil_of_length_eq_zero (by omega)
                    have s2 : Sd lt R (L2 ++ R2) := by rw [he2]; exact sR2
                    exact ⟨Z1 ++ (L2 ++ R2), fin2 _ (List.Perm.refl _), fin3 _ (List.Perm.refl _) s2, by rw [hz2]; congr 1; simp⟩
                simp (disch := omega) only [go_sem, simprocAttr, q1, g0, g1, g2, g3, g4, g18, g19, g20, i2]
                refine wcond_dec (fun q2 => ?_) (fun q2 => ?_)
                rotate_left
                · first
                  | exfalso; omega
                  | simp (disch := omega) only [go_sem, simprocAttr, q1, q2]
                    have he2 : L2 = [] ∨ R2 = [] := by
                      by_cases h : L2 = []
                      · exact .inl h
                      · have := List.length_pos_iff.2 h
                        exact .inr (List.eq_nil_of_length_eq_zero (by omega))
                    have s2 : Sd lt R (L2 ++ R2) := by
                      rcases he2 with h | h
                      · rw [h]; exact sR2
                      · rw [h, List.append_nil]; exact sL2
                    exact ⟨Z1 ++ (L2 ++ R2), fin2 _ (List.Perm.refl _), fin3 _ (List.Perm.refl _) s2, by rw [hz2]; congr 1; simp⟩
                simp (disch := omega) only [go_sem, simprocAttr, q1, q2, g0, g1, g2, g3, g4, g18, g19, g20, i2]
                refine wJ_of (@IH (L2.length + R2.length) (by omega) mid e b2 (A ++ Z1) L2 R2 B rfl (by simp; omega) (by omega) (by omega) hN (by omega) (by omega) sL2 sR2 (fun u hu v hv => hR u (by rw [hL12]; exact List.mem_append_right _ hu) v (by rw [hQ12]; exact List.mem_append_right _ hv)) z2 (by rw [hz2]; simp)) ?_; rintro _ _ ⟨Z2, p2, s2, rfl⟩
                simp (disch := omega) only [go_sem, simprocAttr]
                exact ⟨Z1 ++ Z2, fin2 Z2 p2, fin3 Z2 p2 s2, by congr 1; simp⟩
            · first
              | exfalso; omega
              | have q1 : ¬ (a : Int) < (s : Int) := by omega
                simp (disch := omega) only [go_sem, simprocAttr, q1, g0, g1, g2, g3, g4, g18, g19, g20, i2]
                have fin2 : ∀ Z2 : List OpR, Z2.Perm (L2 ++ R2) → (Z1 ++ Z2).Perm (L ++ Q) := fun Z2 h => by
                  rw [hL12, hQ12]
                  refine (p1.append h).trans ?_
                  simp only [List.append_assoc]
                  refine List.Perm.append_left L1 ?_
                  rw [← List.append_assoc, ← List.append_assoc]
                  exact List.Perm.append_right R2 List.perm_append_comm
                have fin3 : ∀ Z2 : List OpR, Z2.Perm (L2 ++ R2) → Sd lt R Z2 → Sd lt R (Z1 ++ Z2) := fun Z2 h h' => sd_split hsw (hL12 ▸ sL) (hQ12 ▸ sQ) cr1 cr2 p1 s1 h h'
                refine wguard_dec (fun q1 => ?_) (fun q1 => ?_)
                rotate_left
                · first
                  | exfalso; omega
                  | simp (disch := omega) only [go_sem, simprocAttr, q1]
                    have he2 : L2 = [] := List.eq_nil_of_length_eq_zero (by omega)
                    have s2 : Sd lt R (L2 ++ R2) := by rw [he2]; exact sR2
                    exact ⟨Z1 ++ (L2 ++ R2), fin2 _ (List.Perm.refl _), fin3 _ (List.Perm.refl _) s2, by rw [hz2]; congr 1; simp⟩
                simp (disch := omega) only [go_sem, simprocAttr, q1, g0, g1, g2, g3, g4, g18, g19, g20, i2]
                refine wcond_dec (fun q2 => ?_) (fun q2 => ?_)
                rotate_left
                · first
                  | exfalso; omega
                  | simp (disch := omega) only [go_sem, simprocAttr, q1, q2]
                    have he2 : L2 = [] ∨ R2 = [] := by
                      by_cases h : L2 = []
                      · exact .inl h
                      · have := List.length_pos_iff.2 h
                        exact .inr (List.eq_nil_of_length_eq_zero (by omega))
                    have s2 : Sd lt R (L2 ++ R2) := by
                      rcases he2 with h | h
                      · rw [h]; exact sR2
                      · rw [h, List.append_nil]; exact sL2
                    exact ⟨Z1 ++ (L2 ++ R2), fin2 _ (List.Perm.refl _), fin3 _ (List.Perm.refl _) s2, by rw [hz2]; congr 1; simp⟩
                simp (disch := omega) only [go_sem, simprocAttr, q1, q2, g0, g1, g2, g3, g4, g18, g19, g20, i2]
                refine wJ_of (@IH (L2.length + R2.length) (by omega) mid e b2 (A ++ Z1) L2 R2 B rfl (by simp; omega) (by omega) (by omega) hN (by omega) (by omega) sL2 sR2 (fun u hu v hv => hR u (by rw [hL12]; exact List.mem_append_right _ hu) v (by rw [hQ12]; exact List.mem_append_right _ hv)) z2 (by rw [hz2]; simp)) ?_; rintro _ _ ⟨Z2, p2, s2, rfl⟩
                simp (disch := omega) only [go_sem, simprocAttr]
                exact ⟨Z1 ++ Z2, fin2 Z2 p2, fin3 Z2 p2 s2, by congr 1; simp⟩
      · first
        | exfalso; omega
        | have w1 : ¬ (s : Int) < (m : Int) := by omega
          simp (disch := omega) only [go_sem, simprocAttr, w1, g0, g1, g2, g3, g4, g18, g19, g20, i2]
          by_cases q12 : a < s ∧ s < mid
          · first
            | exfalso; omega
            | obtain ⟨q1', q2'⟩ := q12
              have q1 : (a : Int) < (s : Int) := by omega
              have q2 : (s : Int) < (mid : Int) := by omega
              simp (disch := omega) only [go_sem, simprocAttr, q1, q2, g0, g1, g2, g3, g4, g18, g19, g20]
              refine wJ_of (@IH (L1.length + R1.length) (by omega) a s mid A L1 R1 (L2 ++ (R2 ++ B)) rfl ha (by omega) (by omega) (by simp; omega) (by omega) (by omega) sL1 sR1 (fun u hu v hv => hR u (by rw [hL12]; exact List.mem_append_left _ hu) v (by rw [hQ12]; exact List.mem_append_left _ hv)) y1 hy1) ?_; rintro _ _ ⟨Z1, p1, s1, rfl⟩
              obtain ⟨z2, hz2⟩ : ∃ z2 : List OpR, z2 = A ++ (Z1 ++ (L2 ++ (R2 ++ B))) := ⟨_, rfl⟩
              rw [← hz2]
              have hZ1 := p1.length_eq
              simp only [List.length_append] at hZ1
              simp (disch := omega) only [go_sem, simprocAttr, g0, g1, g2, g3, g4, g18, g19, g20, i2]
              have fin2 : ∀ Z2 : List OpR, Z2.Perm (L2 ++ R2) → (Z1 ++ Z2).Perm (L ++ Q) := fun Z2 h => by
                rw [hL12, hQ12]
                refine (p1.append h).trans ?_
                simp only [List.append_assoc]
                refine List.Perm.append_left L1 ?_
                rw [← List.append_assoc, ← List.append_assoc]
                exact List.Perm.append_right R2 List.perm_append_comm
              have fin3 : ∀ Z2 : List OpR, Z2.Perm (L2 ++ R2) → Sd lt R Z2 → Sd lt R (Z1 ++ Z2) := fun Z2 h h' => sd_split hsw (hL12 ▸ sL) (hQ12 ▸ sQ) cr1 cr2 p1 s1 h h'
              refine wguard_dec (fun q1 => ?_) (fun q1 => ?_)
              rotate_left
              · first
                | exfalso; omega
                | simp (disch := omega) only [go_sem, simprocAttr, q1]
                  have he2 : L2 = [] := List.eq_nil_of_length_eq_zero (by omega)
                  have s2 : Sd lt R (L2 ++ R2) := by rw [he2]; exact sR2
                  exact ⟨Z1 ++ (L2 ++ R2), fin2 _ (List.Perm.refl _), fin3 _ (List.Perm.refl _) s2, by rw [hz2]; congr 1; simp⟩
              simp (disch := omega) only [go_sem, simprocAttr, q1, g0, g1, g2, g3, g4, g18, g19, g20, i2]
              refine wcond_dec (fun q2 => ?_) (fun q2 => ?_)
              rotate_left
              · first
                | exfalso; omega
                | simp (disch := omega) only [go_sem, simprocAttr, q1, q2]
                  have he2 : L2 = [] ∨ R2 = [] := by
                    by_cases h : L2 = []
                    · exact .inl h
                    · have := List.length_pos_iff.2 h
                      exact .inr (List.eq_nil_of_length_eq_zero (by omega))
                  have s2 : Sd lt R (L2 ++ R2) := by
                    rcases he2 with h | h
                    · rw [h]; exact sR2
                    · rw [h, List.append_nil]; exact sL2
                  exact ⟨Z1 ++ (L2 ++ R2), fin2 _ (List.Perm.refl _), fin3 _ (List.Perm.refl _) s2, by rw [hz2]; congr 1; simp⟩
              simp (disch := omega) only [go_sem, simprocAttr, q1, q2, g0, g1, g2, g3, g4, g18, g19, g20, i2]
              refine wJ_of (@IH (L2.length + R2.length) (by omega) mid e b2 (A ++ Z1) L2 R2 B rfl (by simp; omega) (by omega) (by omega) hN (by omega) (by omega) sL2 sR2 (fun u hu v hv => hR u (by rw [hL12]; exact List.mem_append_right _ hu) v (by rw [hQ12]; exact List.mem_append_right _ hv)) z2 (by rw [hz2]; simp)) ?_; rintro _ _ ⟨Z2, p2, s2, rfl⟩
              simp (disch := omega) only [go_sem, simprocAttr]
              exact ⟨Z1 ++ Z2, fin2 Z2 p2, fin3 Z2 p2 s2, by congr 1; simp⟩
          · obtain ⟨Z1, hZ⟩ : ∃ Z1 : List OpR, Z1 = L1 ++ R1 := ⟨_, rfl⟩
            have he1 : L1 = [] ∨ R1 = [] := by
              by_cases h : L1 = []
              · exact .inl h
              · have := List.length_pos_iff.2 h
                exact .inr (List.eq_nil_of_length_eq_zero (by omega))
            have s1 : Sd lt R Z1 := by
              rcases he1 with h | h
              · rw [hZ, h]; exact sR1
              · rw [hZ, h, List.append_nil]; exact sL1
            have p1 : Z1.Perm (L1 ++ R1) := hZ ▸ List.Perm.refl _
            have hZ1 : Z1.length = L1.length + R1.length := by rw [hZ]; simp
            obtain ⟨z2, hz2'⟩ : ∃ z2 : List OpR, z2 = y1 := ⟨_, rfl⟩
            have hz2 : z2 = A ++ (Z1 ++ (L2 ++ (R2 ++ B))) := by rw [hz2', hy1, hZ]; simp
            rw [← hz2']
            by_cases q1' : a < s
            · first
              | exfalso; omega
              | have q1 : (a : Int) < (s : Int) := by omega
                have q2 : ¬ (s : Int) < (mid : Int) := by omega
                simp (disch := omega) only [go_sem, simprocAttr, q1, q2, g0, g1, g2, g3, g4, g18, g19, g20, i2]
                have fin2 : ∀ Z2 : List OpR, Z2.Perm (L2 ++ R2) → (Z1 ++ Z2).Perm (L ++ Q) := fun Z2 h => by
                  rw [hL12, hQ12]
                  refine (p1.append h).trans ?_
                  simp only [List.append_assoc]
                  refine List.Perm.append_left L1 ?_
                  rw [← List.append_assoc, ← List.append_assoc]
                  exact List.Perm.append_right R2 List.perm_append_comm
                have fin3 : ∀ Z2 : List OpR, Z2.Perm (L2 ++ R2) → Sd lt R Z2 → Sd lt R (Z1 ++ Z2) := fun Z2 h h' => sd_split hsw (hL12 ▸ sL) (hQ12 ▸ sQ) cr1 cr2 p1 s1 h h'
                refine wguard_dec (fun q1 => ?_) (fun q1 => ?_)
                rotate_left
                · first
                  | exfalso; omega
                  | simp (disch := omega) only [go_sem, simprocAttr, q1]
                    have he2 : L2 = [] := List.eq_nil_of_length_eq_zero (by omega)
                    have s2 : Sd lt R (L2 ++ R2) := by rw [he2]; exact sR2
                    exact ⟨Z1 ++ (L2 ++ R2), fin2 _ (List.Perm.refl _), fin3 _ (List.Perm.refl _) s2, by rw [hz2]; congr 1; simp⟩
                simp (disch := omega) only [go_sem, simprocAttr, q1, g0, g1, g2, g3, g4, g18, g19, g20, i2]
                refine wcond_dec (fun q2 => ?_) (fun q2 => ?_)
                rotate_left
                · first
                  | exfalso; omega
                  | simp (disch := omega) only [go_sem, simprocAttr, q1, q2]
                    have he2 : L2 = [] ∨ R2 = [] := by
                      by_cases h : L2 = []
                      · exact .inl h
                      · have := List.length_pos_iff.2 h
                        exact .inr (List.eq_nil_of_length_eq_zero (by omega))
                    have s2 : Sd lt R (L2 ++ R2) := by
                      rcases he2 with h | h
                      · rw [h]; exact sR2
                      · rw [h, List.append_nil]; exact sL2
                    exact ⟨Z1 ++ (L2 ++ R2), fin2 _ (List.Perm.refl _), fin3 _ (List.Perm.refl _) s2, by rw [hz2]; congr 1; simp⟩
                simp (disch := omega) only [go_sem, simprocAttr, q1, q2, g0, g1, g2, g3, g4, g18, g19, g20, i2]
                refine wJ_of (@IH (L2.length + R2.length) (by omega) mid e b2 (A ++ Z1) L2 R2 B rfl (by simp; omega) (by omega) (by omega) hN (by omega) (by omega) sL2 sR2 (fun u hu v hv => hR u (by rw [hL12]; exact List.mem_append_right _ hu) v (by rw [hQ12]; exact List.mem_append_right _ hv)) z2 (by rw [hz2]; simp)) ?_; rintro _ _ ⟨Z2, p2, s2, rfl⟩
                simp (disch := omega) only [go_sem, simprocAttr]
                exact ⟨Z1 ++ Z2, fin2 Z2 p2, fin3 Z2 p2 s2, by congr 1; simp⟩
            · first
              | exfalso; omega
              | have q1 : ¬ (a : Int) < (s : Int) := by omega
                simp (disch := omega) only [go_sem, simprocAttr, q1, g0, g1, g2, g3, g4, g18, g19, g20, i2]
                have fin2 : ∀ Z2 : List OpR, Z2.Perm (L2 ++ R2) → (Z1 ++ Z2).Perm (L ++ Q) := fun Z2 h => by
                  rw [hL12, hQ12]
                  refine (p1.append h).trans ?_
                  simp only [List.append_assoc]
                  refine List.Perm.append_left L1 ?_
                  rw [← List.append_assoc, ← List.append_assoc]
                  exact List.Perm.append_right R2 List.perm_append_comm
                have fin3 : ∀ Z2 : List OpR, Z2.Perm (L2 ++ R2) → Sd lt R Z2 → Sd lt R (Z1 ++ Z2) := fun Z2 h h' => sd_split hsw (hL12 ▸ sL) (hQ12 ▸ sQ) cr1 cr2 p1 s1 h h'
                refine wguard_dec (fun q1 => ?_) (fun q1 => ?_)
                rotate_left
                · first
                  | exfalso; omega
                  | simp (disch := omega) only [go_sem, simprocAttr, q1]
                    have he2 : L2 = [] := List.eq_nil_of_length_eq_zero (by omega)
                    have s2 : Sd lt R (L2 ++ R2) := by rw [he2]; exact sR2
                    exact ⟨Z1 ++ (L2 ++ R2), fin2 _ (List.Perm.refl _), fin3 _ (List.Perm.refl _) s2, by rw [hz2]; congr 1; simp⟩
                simp (disch := omega) only [go_sem, simprocAttr, q1, g0, g1, g2, g3, g4, g18, g19, g20, i2]
                refine wcond_dec (fun q2 => ?_) (fun q2 => ?_)
                rotate_left
                · first
                  | exfalso; omega
                  | simp (disch := omega) only [go_sem, simprocAttr, q1, q2]
                    have he2 : L2 = [] ∨ R2 = [] := by
                      by_cases h : L2 = []
                      · exact .inl h
                      · have := List.length_pos_iff.2 h
                        exact .inr (List.eq_nil_of_length_eq_zero (by omega))
                    have s2 : Sd lt R (L2 ++ R2) := by
                      rcases he2 with h | h
                      · rw [h]; exact sR2
                      · rw [h, List.append_nil]; exact sL2
                    exact ⟨Z1 ++ (L2 ++ R2), fin2 _ (List.Perm.refl _), fin3 _ (List.Perm.refl _) s2, by rw [hz2]; congr 1; simp⟩
                simp (disch := omega) only [go_sem, simprocAttr, q1, q2, g0, g1, g2, g3, g4, g18, g19, g20, i2]
                refine wJ_of (@IH (L2.length + R2.length) (by omega) mid e b2 (A ++ Z1) L2 R2 B rfl (by simp; omega) (by omega) (by omega) hN (by omega) (by omega) sL2 sR2 (fun u hu v hv => hR u (by rw [hL12]; exact List.mem_append_right _ hu) v (by rw [hQ12]; exact List.mem_append_right _ hv)) z2 (by rw [hz2]; simp)) ?_; rintro _ _ ⟨Z2, p2, s2, rfl⟩
                simp (disch := omega) only [go_sem, simprocAttr]
                exact ⟨Z1 ++ Z2, fin2 Z2 p2, fin3 Z2 p2 s2, by congr 1; simp⟩
end Go.Osj
