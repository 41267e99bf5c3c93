/- Sorting that keeps the order of equals, at operations: by blocks. -/
import Derived.Test.YtfadbihdmohdiaaGreatDoorMC
set_option linter.unusedVariables false
set_option linter.unusedSimpArgs false
set_option maxHeartbeats 1000000
namespace Go.Osj
set_option maxHeartbeats 4000000 in
open Stab in
theorem F.slices_stableCmpFunc_api_Op_J {S : St} {b cap c N : Nat} {f : Value} {G : St → Prop} {lt R : OpR → OpR → Prop} {X : List OpR} (hf : CmpF PR opE f G lt) (hG : ∀ zs, G (DatS opE S b cap zs)) (hsw : SW lt R) (hR : X.Pairwise R) (hN : X.length = N) (hcap : N * 14 ≤ cap) (hNb : N < 1000000000) :
    J PR F.slices_stableCmpFunc_api_Op [.slice (some ⟨b, 0, none⟩) N c, .int .i64 N, f] (DatS opE S b cap X) fun _ S' => ∃ Z : List OpR, Z.Perm X ∧ Sd lt R Z ∧ S' = DatS opE S b cap Z := by
  refine J_by PR.mixed F.slices_stableCmpFunc_api_Op.ok (by simp) ?_
  simp (disch := omega) only [go_sem, simprocAttr]
  refine wC_at 0 (fun fr S' => ∃ (a : Nat) (Zd Xd Xr zs : List OpR), X = Xd ++ Xr ∧ Zd.length = a ∧ Xd.length = a ∧ (∀ V' Xs', Ch lt R 20 V' Xs' → Ch lt R 20 (Zd ++ V') (Xd ++ Xs')) ∧ Xr.length < 20 ∧ fr 0 = .slice (some ⟨b, 0, none⟩) N c ∧ fr 1 = .int .i64 N ∧ fr 2 = f ∧ fr 6 = .int .i64 20 ∧ fr 7 = .int .i64 a ∧
      S' = DatS opE S b cap zs ∧ zs = Zd ++ Xr) ?_ ?_
  · refine wC_loop (fun k fr S' => ∃ (a : Nat) (Zd Xd Xr zs : List OpR), k = Xr.length ∧ X = Xd ++ Xr ∧ Zd.length = a ∧ Xd.length = a ∧ (∀ V' Xs', Ch lt R 20 V' Xs' → Ch lt R 20 (Zd ++ V') (Xd ++ Xs')) ∧ fr 0 = .slice (some ⟨b, 0, none⟩) N c ∧ fr 1 = .int .i64 N ∧ fr 2 = f ∧ fr 6 = .int .i64 20 ∧ fr 7 = .int .i64 a ∧ fr 8 = .int .i64 (a + 20 : Nat) ∧
        S' = DatS opE S b cap zs ∧ zs = Zd ++ Xr) N
      ⟨0, [], [], X, X, by
        have k1 : ∀ V' Xs' : List OpR, Ch lt R 20 V' Xs' → Ch lt R 20 ([] ++ V') ([] ++ Xs') := fun _ _ h => h
        have k2 : X = [] ++ X := rfl
        have k3 : N = X.length := hN.symm
        have k4 : ([] : List OpR).length = 0 := rfl
        simp (disch := omega) only [go_sem, simprocAttr]
        repeat' first | assumption | omega | rfl | refine And.intro ?_ ?_
        ⟩ ?_
    rintro k fr S' ⟨a, Zd, Xd, Xr, zs, rfl, hX, hZ, hXd, hch, g0, g1, g2, g6, g7, g8, rfl, hzs⟩
    have hXl := congrArg List.length hX
    simp only [List.length_append] at hXl
    simp (disch := omega) only [go_sem, simprocAttr, F.slices_stableCmpFunc_api_Op.l0, g0, g1, g2, g6, g7, g8]
    refine wcond_dec (fun hle => ?_) (fun hgt => ?_)
    · obtain ⟨C, Xr', rfl, hC⟩ : ∃ C Xr', Xr = C ++ Xr' ∧ C.length = 20 := ⟨Xr.take 20, Xr.drop 20, (List.take_append_drop _ _).symm, by rw [List.length_take]; omega⟩
      simp only [List.length_append] at hXl
      have hRC : C.Pairwise R := by
        rw [hX] at hR
        exact (List.pairwise_append.1 (List.pairwise_append.1 hR).2.1).1
      simp (disch := omega) only [go_sem, simprocAttr, g0, g1, g2, g6, g7, g8]
      rw [hzs]
      refine wJ_of (F.slices_insertionSortCmpFunc_api_Op_J (A := Zd) (X := C) (B := Xr') hf hG hsw hRC hZ (by omega) (by omega) hcap (by omega)) ?_; rintro _ _ ⟨Z, p, s, rfl⟩
      simp (disch := omega) only [go_sem, simprocAttr, g0, g1, g2, g6, g7, g8]
      have hZl := p.length_eq
      refine ⟨Xr'.length, by simp only [List.length_append]; omega, a + 20, Zd ++ Z, Xd ++ C, Xr', Zd ++ (Z ++ Xr'), ?_⟩
      have k1 : X = Xd ++ C ++ Xr' := by rw [hX]; simp
      have k2 : (Zd ++ Z).length = a + 20 := by simp; omega
      have k3 : (Xd ++ C).length = a + 20 := by simp; omega
      have k4 : ∀ V' Xs', Ch lt R 20 V' Xs' → Ch lt R 20 (Zd ++ Z ++ V') (Xd ++ C ++ Xs') := fun V' Xs' h => by
        rw [List.append_assoc, List.append_assoc]
        exact hch _ _ (.cons hC p s h)
      have k5 : Zd ++ (Z ++ Xr') = Zd ++ Z ++ Xr' := by simp
      repeat' first | assumption | omega | (exact St.Ext.refl _) | (exact List.Perm.refl _) | rfl | (exact .inl trivial) | (exact trivial) | refine And.intro ?_ ?_
    · simp (disch := omega) only [go_sem, simprocAttr, g0, g1, g2, g6, g7]
      refine ⟨a, Zd, Xd, Xr, zs, ?_⟩
      repeat' first | assumption | omega | (exact St.Ext.refl _) | (exact List.Perm.refl _) | rfl | (exact .inl trivial) | (exact trivial) | refine And.intro ?_ ?_
  rintro fr S' ⟨a, Zd, Xd, Xr, zs, hX, hZ, hXd, hch, h20, g0, g1, g2, g6, g7, rfl, hzs⟩
  have hXl := congrArg List.length hX
  simp only [List.length_append] at hXl
  have hRC : Xr.Pairwise R := by
    rw [hX] at hR
    exact (List.pairwise_append.1 hR).2.1
  have hzs2 : zs = Zd ++ (Xr ++ []) := by rw [hzs]; simp
  simp (disch := omega) only [go_sem, simprocAttr, g0, g1, g2, g6, g7]
  rw [hzs2]
  refine wJ_of (F.slices_insertionSortCmpFunc_api_Op_J (A := Zd) (X := Xr) (B := []) hf hG hsw hRC hZ (by omega) (by simp only [List.length_nil]; omega) hcap (by omega)) ?_; rintro _ _ ⟨Z0, p0, s0, rfl⟩
  have hc0 : Ch lt R 20 (Zd ++ (Z0 ++ [])) X := by
    rw [List.append_nil, hX]
    exact hch _ _ (.last (by omega) p0 s0)
  generalize Zd ++ (Z0 ++ []) = z0 at *
  clear hzs2 hzs hch p0 s0
  simp (disch := omega) only [go_sem, simprocAttr]
  refine wC_loop (fun k fr S' => ∃ (bs : Nat) (zs : List OpR), k = N - bs ∧ 20 ≤ bs ∧ Ch lt R bs zs X ∧ fr 0 = .slice (some ⟨b, 0, none⟩) N c ∧ fr 1 = .int .i64 N ∧ fr 2 = f ∧ fr 6 = .int .i64 bs ∧ S' = DatS opE S b cap zs) (N - 20)
    ⟨20, z0, by simp (disch := omega) only [go_sem, simprocAttr]; repeat' first | assumption | omega | rfl | refine And.intro ?_ ?_⟩ ?_
  rintro k fr S' ⟨bs, zs, rfl, hb20, hc, g0, g1, g2, g6, rfl⟩
  simp (disch := omega) only [go_sem, simprocAttr, F.slices_stableCmpFunc_api_Op.l2, g0, g1, g2, g6]
  refine wcond_dec (fun hlt => ?_) (fun hge => ?_)
  rotate_left
  · simp (disch := omega) only [go_sem, simprocAttr]
    obtain ⟨h1, h2⟩ := hc.only (by have := hc.perm.length_eq; omega)
    exact ⟨zs, h1, h2, rfl⟩
  have hzl := hc.perm.length_eq
  simp (disch := omega) only [go_sem, simprocAttr, g0, g1, g2, g6]
  refine wC_at 4 (fun fr S' => ∃ (a : Nat) (Zd Xd Vr Xr ys : List OpR), X = Xd ++ Xr ∧ Zd.length = a ∧ Xd.length = a ∧ (∀ V' Xs', Ch lt R (2 * bs) V' Xs' → Ch lt R (2 * bs) (Zd ++ V') (Xd ++ Xs')) ∧ Ch lt R bs Vr Xr ∧ Vr.length < 2 * bs ∧ fr 0 = .slice (some ⟨b, 0, none⟩) N c ∧ fr 1 = .int .i64 N ∧ fr 2 = f ∧ fr 6 = .int .i64 bs ∧ fr 7 = .int .i64 a ∧
      S' = DatS opE S b cap ys ∧ ys = Zd ++ Vr) ?_ ?_
  · refine wC_loop (fun k fr S' => ∃ (a : Nat) (Zd Xd Vr Xr ys : List OpR), k = Vr.length ∧ X = Xd ++ Xr ∧ Zd.length = a ∧ Xd.length = a ∧ (∀ V' Xs', Ch lt R (2 * bs) V' Xs' → Ch lt R (2 * bs) (Zd ++ V') (Xd ++ Xs')) ∧ Ch lt R bs Vr Xr ∧ fr 0 = .slice (some ⟨b, 0, none⟩) N c ∧ fr 1 = .int .i64 N ∧ fr 2 = f ∧ fr 6 = .int .i64 bs ∧ fr 7 = .int .i64 a ∧ fr 8 = .int .i64 (a + 2 * bs : Nat) ∧
        S' = DatS opE S b cap ys ∧ ys = Zd ++ Vr) zs.length
      ⟨0, [], [], zs, X, zs, by
        have k1 : ∀ V' Xs' : List OpR, Ch lt R (2 * bs) V' Xs' → Ch lt R (2 * bs) ([] ++ V') ([] ++ Xs') := fun _ _ h => h
        have k2 : X = [] ++ X := rfl
        have k4 : ([] : List OpR).length = 0 := rfl
        have k5 : Value.int .i64 (2 * (bs : Int)) = Value.int .i64 ((0 + 2 * bs : Nat) : Int) := by congr 1 <;> omega
        have k6 : zs = [] ++ zs := rfl
        simp (disch := omega) only [go_sem, simprocAttr]
        repeat' first | assumption | omega | rfl | refine And.intro ?_ ?_
        ⟩ ?_
    rintro k fr S' ⟨a, Zd, Xd, Vr, Xr, ys, rfl, hX, hZ, hXd, hch, hcv, g0, g1, g2, g6, g7, g8, rfl, hys⟩
    have hXl := congrArg List.length hX
    simp only [List.length_append] at hXl
    have hvl := hcv.perm.length_eq
    simp (disch := omega) only [go_sem, simprocAttr, F.slices_stableCmpFunc_api_Op.l1, g0, g1, g2, g6, g7, g8]
    refine wcond_dec (fun hle => ?_) (fun hgt => ?_)
    · obtain ⟨Z1, X1, V1, Y1, rfl, rfl, x1, p1, s1, c1⟩ := hcv.first (by omega)
      have l1 := p1.length_eq
      simp only [List.length_append] at hXl hvl
      have lv1 := c1.perm.length_eq
      obtain ⟨Z2, X2, V2, Y2, rfl, rfl, x2, p2, s2, c2⟩ := c1.first (by omega)
      have l2 := p2.length_eq
      simp only [List.length_append] at hXl hvl lv1
      have hRm : ∀ x ∈ Z1, ∀ y ∈ Z2, R x y := fun x hx y hy => by
        rw [hX] at hR
        exact (List.pairwise_append.1 (List.pairwise_append.1 hR).2.1).2.2 x (p1.mem_iff.1 hx) y (List.mem_append_left _ (p2.mem_iff.1 hy))
      have i1 : (a : Int) + (bs : Int) = ((a + bs : Nat) : Int) := rfl
      simp (disch := omega) only [go_sem, simprocAttr, g0, g1, g2, g6, g7, g8, i1]
      refine wJ_of (F.slices_symMergeCmpFunc_api_Op_J hf hG hsw hcap (by omega) (2 * bs) (a := a) (m := a + bs) (b2 := a + 2 * bs) (A := Zd) (L := Z1) (Q := Z2) (B := V2) (by omega) hZ (by omega) (by omega) (by omega) (by omega) (by omega) s1 s2 hRm ys (by rw [hys])) ?_; rintro _ _ ⟨Z, p, s, rfl⟩
      have hZl := p.length_eq
      simp only [List.length_append] at hZl
      simp (disch := omega) only [go_sem, simprocAttr, g0, g1, g2, g6, g7, g8]
      refine ⟨V2.length, by simp only [List.length_append]; omega, a + 2 * bs, Zd ++ Z, Xd ++ (X1 ++ X2), V2, Y2, Zd ++ (Z ++ V2), ?_⟩
      have k1 : X = Xd ++ (X1 ++ X2) ++ Y2 := by rw [hX]; simp
      have k2 : (Zd ++ Z).length = a + 2 * bs := by simp; omega
      have k3 : (Xd ++ (X1 ++ X2)).length = a + 2 * bs := by simp; omega
      have k4 : ∀ V' Xs', Ch lt R (2 * bs) V' Xs' → Ch lt R (2 * bs) (Zd ++ Z ++ V') (Xd ++ (X1 ++ X2) ++ Xs') := fun V' Xs' h => by
        rw [List.append_assoc, List.append_assoc]
        exact hch _ _ (.cons (by simp; omega) (p.trans (p1.append p2)) s h)
      have k5 : Zd ++ (Z ++ V2) = Zd ++ Z ++ V2 := by simp
      have k6 : Value.int .i64 (((a + 2 * bs : Nat) : Int) + 2 * (bs : Int)) = Value.int .i64 ((a + 2 * bs + 2 * bs : Nat) : Int) := by congr 1 <;> omega
      repeat' first | assumption | omega | (exact St.Ext.refl _) | (exact List.Perm.refl _) | rfl | (exact .inl trivial) | (exact trivial) | refine And.intro ?_ ?_
    · simp (disch := omega) only [go_sem, simprocAttr, g0, g1, g2, g6, g7]
      refine ⟨a, Zd, Xd, Vr, Xr, ys, ?_⟩
      repeat' first | assumption | omega | (exact St.Ext.refl _) | (exact List.Perm.refl _) | rfl | (exact .inl trivial) | (exact trivial) | refine And.intro ?_ ?_
  rintro fr S' ⟨a, Zd, Xd, Vr, Xr, ys, hX, hZ, hXd, hch, hcv, h2b, g0, g1, g2, g6, g7, rfl, hys⟩
  have hXl := congrArg List.length hX
  simp only [List.length_append] at hXl
  have hvl := hcv.perm.length_eq
  have i1 : (a : Int) + (bs : Int) = ((a + bs : Nat) : Int) := rfl
  have i2 : (bs : Int) * 2 = ((2 * bs : Nat) : Int) := by omega
  simp (disch := omega) only [go_sem, simprocAttr, g0, g1, g2, g6, g7, i1]
  refine wcond_dec (fun hlt2 => ?_) (fun hge2 => ?_)
  · obtain ⟨Z1, X1, V1, Y1, rfl, rfl, x1, p1, s1, c1⟩ := hcv.first (by omega)
    have l1 := p1.length_eq
    simp only [List.length_append] at hXl hvl h2b
    obtain ⟨q1, q2⟩ := c1.only (by omega)
    have l2 := q1.length_eq
    have hRm : ∀ x ∈ Z1, ∀ y ∈ V1, R x y := fun x hx y hy => by
      rw [hX] at hR
      exact (List.pairwise_append.1 (List.pairwise_append.1 hR).2.1).2.2 x (p1.mem_iff.1 hx) y (q1.mem_iff.1 hy)
    simp (disch := omega) only [go_sem, simprocAttr, g0, g1, g2, g6, g7, i1]
    refine wJ_of (F.slices_symMergeCmpFunc_api_Op_J hf hG hsw hcap (by omega) (Z1.length + V1.length) (a := a) (m := a + bs) (b2 := N) (A := Zd) (L := Z1) (Q := V1) (B := []) rfl hZ (by omega) (by omega) (by simp) (by omega) (by omega) s1 q2 hRm ys (by rw [hys]; simp)) ?_; rintro _ _ ⟨Z, p, s, rfl⟩
    simp (disch := omega) only [go_sem, simprocAttr, g0, g1, g2, g6, i2]
    refine ⟨N - 2 * bs, by omega, 2 * bs, Zd ++ (Z ++ []), ?_⟩
    have k1 : Ch lt R (2 * bs) (Zd ++ (Z ++ [])) X := by
      rw [List.append_nil, hX]
      exact hch _ _ (.last (by simp; omega) (p.trans (p1.append q1)) s)
    repeat' first | assumption | omega | (exact St.Ext.refl _) | (exact List.Perm.refl _) | rfl | (exact .inl trivial) | (exact trivial) | refine And.intro ?_ ?_
  · obtain ⟨q1, q2⟩ := hcv.only (by omega)
    simp (disch := omega) only [go_sem, simprocAttr, g0, g1, g2, g6, i2]
    refine ⟨N - 2 * bs, by omega, 2 * bs, ys, ?_⟩
    have k1 : Ch lt R (2 * bs) ys X := by
      rw [hys, hX]
      exact hch _ _ (.last (by omega) q1 q2)
    repeat' first | assumption | omega | (exact St.Ext.refl _) | (exact List.Perm.refl _) | rfl | (exact .inl trivial) | (exact trivial) | refine And.intro ?_ ?_
open Stab in
theorem F.slices_SortStableFunc_s_api_Op_api_Op_J {S : St} {b cap c N : Nat} {f : Value} {G : St → Prop} {lt R : OpR → OpR → Prop} {X : List OpR} (hf : CmpF PR opE f G lt) (hG : ∀ zs, G (DatS opE S b cap zs)) (hsw : SW lt R) (hR : X.Pairwise R) (hN : X.length = N) (hcap : N * 14 ≤ cap) (hNb : N < 1000000000) :
    J PR F.slices_SortStableFunc_s_api_Op_api_Op [.slice (some ⟨b, 0, none⟩) N c, f] (DatS opE S b cap X) fun _ S' => ∃ Z : List OpR, Z.Perm X ∧ Sd lt R Z ∧ S' = DatS opE S b cap Z := by
  refine J_by PR.mixed F.slices_SortStableFunc_s_api_Op_api_Op.ok (by simp) ?_
  simp (disch := omega) only [go_sem, simprocAttr]
  refine wJ_of (F.slices_stableCmpFunc_api_Op_J hf hG hsw hR hN hcap hNb) ?_; rintro _ _ ⟨Z, p, s, rfl⟩
  simp (disch := omega) only [go_sem, simprocAttr]
  exact ⟨Z, p, s, rfl⟩
end Go.Osj
