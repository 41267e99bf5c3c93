/- Stories: one operation. -/
import Derived.Test.YtfadbihdmohdiaaGreatDoorGB
set_option linter.unusedVariables false
set_option linter.unusedSimpArgs false
set_option maxHeartbeats 2000000
namespace Go.Osj
theorem latestA_le {l : List OpA} {v : List Dot} {B : Int} (h0 : 0 ≤ B) (h : ∀ o ∈ l, o.time ≤ B) : 0 ≤ latestA l v ∧ latestA l v ≤ B := by
  have key : ∀ (l : List OpA) (t : Int), 0 ≤ t → t ≤ B → (∀ o ∈ l, o.time ≤ B) → 0 ≤ l.foldl (fun t o => if hasP v o.id ∧ t < o.time then o.time else t) t ∧ l.foldl (fun t o => if hasP v o.id ∧ t < o.time then o.time else t) t ≤ B := by
    intro l
    induction l with
    | nil => exact fun t h1 h2 _ => ⟨h1, h2⟩
    | cons o l ih =>
      intro t h1 h2 h3
      rw [List.foldl_cons]
      refine ih _ ?_ ?_ fun o ho => h3 o (by simp [ho])
      · split
        · rename_i h; omega
        · exact h1
      · split
        · exact h3 o (by simp)
        · exact h2
  exact key l 0 (Int.le_refl _) h0 h
theorem blocksA_snoc (l : List OpA) (o : OpA) (v : List Dot) : blocksA (l ++ [o]) v = if hasP v o.id ∧ o.kind = 3 ∧ o.block = o.id then blocksA l v ++ [o.id] else blocksA l v := by
  unfold blocksA
  rw [List.filter_append, List.map_append, List.filter_cons]
  split
  · rename_i h; rw [if_pos (of_decide_eq_true h)]; simp
  · rename_i h; rw [if_neg (by simpa using h)]; simp
theorem charsA_snoc (l : List OpA) (o : OpA) (v : List Dot) (b : Dot) : charsA (l ++ [o]) v b = if hasP v o.id ∧ o.kind = 1 ∧ o.block = b then charsA l v b ++ [o.id] else charsA l v b := by
  unfold charsA
  rw [List.filter_append, List.map_append, List.filter_cons]
  split
  · rename_i h; rw [if_pos (of_decide_eq_true h)]; simp
  · rename_i h; rw [if_neg (by simpa using h)]; simp
theorem blocksA_len (l : List OpA) (v : List Dot) : (blocksA l v).length ≤ l.length := by
  unfold blocksA
  rw [List.length_map]
  exact List.length_filter_le _ _
theorem charsA_len (l : List OpA) (v : List Dot) (b : Dot) : (charsA l v b).length ≤ l.length := by
  unfold charsA
  rw [List.length_map]
  exact List.length_filter_le _ _
theorem tmod_rng {a n : Int} (h : 0 ≤ a) (hn : 0 < n) : 0 ≤ a.tmod n ∧ a.tmod n < n := ⟨Int.tmod_nonneg n h, Int.tmod_lt_of_pos a hn⟩
theorem wI_alt {P : Program} {fr : Fr} {S : St} {kept : Kept} {i : Nat} {g : Gd} {eo : EO} {dst : Option Nat} {ks : List Nat} {rest other : Plan} {k : KF}
    (h1 : @wI P (.ef i g eo dst ks rest .none) fr S kept k) (h2 : @wI P other fr S kept k) : @wI P (.ef i g eo dst ks rest other) fr S kept k := ⟨h1.1, h2⟩
theorem F.osierref08_one_J {S : St} {l : Value} {t : SlP} {ps : List (OpA × SlP)} {ys : List Dot} {act : Int} {m : Mk} (hl : SlT opE S l ps) (hk : SlT dotE S (slOf t) ys) (hv : isV ys) (hm : mkI m) (hL : ps.length < 1000) (hL2 : ys.length < 1000000) (ht : ∀ p ∈ ps, p.1.time ≤ 1099511627776) :
    J PR F.osierref08_one [l, slOf t, .int .i64 act, mkV m] S fun v S' => v = opV (oneA (ps.map Prod.fst) ys act m) (slOf t) ∧ S.Ext S' := by
  obtain ⟨base, cap, rfl⟩ := hl.len opE
  have hm' := hm
  obtain ⟨-, mk, mi, ma, mb⟩ := hm'
  have hg := getV_range hv act
  have hla := latestA_le (l := ps.map Prod.fst) (v := ys) (B := 1099511627776) (by decide) fun o ho => by
    obtain ⟨p, hp, rfl⟩ := List.mem_map.1 ho
    exact ht p hp
  have h3m : 0 ≤ (absZ m.kind).tmod 3 ∧ (absZ m.kind).tmod 3 < 3 := tmod_rng (absZ_nonneg _) (by decide)
  refine J_by PR.mixed F.osierref08_one.ok (by simp) ?_
  refine wC_cut (fun fr S1 => ∃ x z, fr 0 = .slice base ps.length cap ∧ fr 1 = slOf t ∧ fr 2 = .int .i64 act ∧ fr 7 = ptrV x ∧ fr 8 = ptrV z ∧ mkB S1 x m ∧ opB S1 z zOp nilS ∧ S.n ≤ z ∧ z ≠ x ∧ S.Ext S1) ?_ ?_
  · simp (disch := omega) only [go_sem, simprocAttr]
    refine wE_boxK (m := m) rfl fun x S1 e1 hx hxn => ?_
    simp (disch := omega) only [go_sem, simprocAttr]
    refine walloc_O fun z S2 e2 hz hzn => ?_
    have hx2 := hx.ext e2
    have hxz : z ≠ x := by have := hx.1; omega
    have hz0 : S.n ≤ z := by have := e1.n; omega
    have g2 := e1.trans e2
    simp (disch := omega) only [go_sem, simprocAttr]
    refine ⟨x, z, ?_⟩
    repeat' first | assumption | omega | (exact St.Ext.refl _) | (exact List.Perm.refl _) | rfl | (exact .inl trivial) | (exact trivial) | refine And.intro ?_ ?_
  rintro fr S2 ⟨x, z, h0, h1, h2, h7, h8, hx2, hz2, hz0, hxz, g2⟩
  have cx2 := hx2.c
  refine wC_cut (fun fr S1 => ∃ w, fr 0 = .slice base ps.length cap ∧ fr 1 = slOf t ∧ fr 7 = ptrV x ∧ fr 8 = ptrV z ∧ fr 9 = ptrV w ∧ mkB S1 x m ∧ opB S1 z zOp nilS ∧ opB S1 w (baseA (ps.map Prod.fst) ys act m) (slOf t) ∧ S.n ≤ w ∧ w ≠ x ∧ w ≠ z ∧ S.n ≤ z ∧ S.Ext S1) ?_ ?_
  · simp (disch := omega) only [go_sem, simprocAttr, h0, h1, h2, h7, h8, cx2]
    refine wI_alt ?_ ?_
    · simp (disch := omega) only [go_sem, simprocAttr, h0, h1, h2, h7, h8, cx2]
      refine wJ_of (F.osierref04_Get_J (a := act) (hk.ext dotE g2) (by omega)) ?_; rintro _ _ ⟨rfl, rfl⟩
      simp (disch := omega) only [go_sem, simprocAttr, h0, h1, h2, h7, h8, cx2]
      refine wI_alt ?_ ?_
      · simp (disch := omega) only [go_sem, simprocAttr, h0, h1, h2, h7, h8, cx2]
        refine wJ_of (F.osierref08_Latest_J (hl.ext opE g2) (hk.ext dotE g2) (by omega) (by omega)) ?_; rintro _ _ ⟨rfl, rfl⟩
        simp (disch := omega) only [go_sem, simprocAttr, h0, h1, h2, h7, h8, cx2]
        refine wI_alt ?_ ?_
        · simp (disch := omega) only [go_sem, simprocAttr, h0, h1, h2, h7, h8, cx2]
          refine wJ_of (F.osierref08_abs_J (n := m.kind) mi) ?_; rintro _ _ ⟨rfl, rfl⟩
          simp (disch := omega) only [go_sem, simprocAttr, h0, h1, h2, h7, h8, cx2]
          refine walloc_O fun w S3 e3 hw3 hwn => ?_
          have hx3 := hx2.ext e3
          have hz3 := hz2.ext e3
          have cx3 := hx3.c
          have g3 := g2.trans e3
          have hwx : w ≠ x := by have := hx2.1; omega
          have hwz : w ≠ z := by have := hz2.1; omega
          have hw0 : S.n ≤ w := by have := g2.n; omega
          simp (disch := omega) only [go_sem, simprocAttr, h0, h1, h2, h7, h8, cx3]
          refine wst_op (baseA (ps.map Prod.fst) ys act m) (slOf t) hw3 rfl rfl (by decide) rfl fun S4 hw4 b4 => ?_
          have hx4 := hx3.but b4 (by simp [blkOf]; exact hwx)
          have hz4 := hz3.but b4 (by simp [blkOf]; exact hwz)
          have g4 : S.Ext S4 := g3.but b4 fun j hj => by simp [blkOf] at hj; omega
          simp (disch := omega) only [go_sem, simprocAttr, h0, h1, h2, h7, h8, cx3]
          refine ⟨w, ?_⟩
          repeat' first | assumption | omega | (exact St.Ext.refl _) | (exact List.Perm.refl _) | rfl | (exact .inl trivial) | (exact trivial) | refine And.intro ?_ ?_
        · simp (disch := omega) only [go_sem, simprocAttr, h0, h1, h2, h7, h8, cx2]
          refine walloc_O fun w S3 e3 hw3 hwn => ?_
          have hx3 := hx2.ext e3
          have hz3 := hz2.ext e3
          have cx3 := hx3.c
          have g3 := g2.trans e3
          have hwx : w ≠ x := by have := hx2.1; omega
          have hwz : w ≠ z := by have := hz2.1; omega
          have hw0 : S.n ≤ w := by have := g2.n; omega
          simp (disch := omega) only [go_sem, simprocAttr, h0, h1, h2, h7, h8, cx3]
          refine wJ_of (F.osierref08_abs_J (n := m.kind) mi) ?_; rintro _ _ ⟨rfl, rfl⟩
          simp (disch := omega) only [go_sem, simprocAttr, h0, h1, h2, h7, h8, cx3]
          refine wst_op (baseA (ps.map Prod.fst) ys act m) (slOf t) hw3 rfl rfl (by decide) rfl fun S4 hw4 b4 => ?_
          have hx4 := hx3.but b4 (by simp [blkOf]; exact hwx)
          have hz4 := hz3.but b4 (by simp [blkOf]; exact hwz)
          have g4 : S.Ext S4 := g3.but b4 fun j hj => by simp [blkOf] at hj; omega
          simp (disch := omega) only [go_sem, simprocAttr, h0, h1, h2, h7, h8, cx3]
          refine ⟨w, ?_⟩
          repeat' first | assumption | omega | (exact St.Ext.refl _) | (exact List.Perm.refl _) | rfl | (exact .inl trivial) | (exact trivial) | refine And.intro ?_ ?_
      · simp (disch := omega) only [go_sem, simprocAttr, h0, h1, h2, h7, h8, cx2]
        refine walloc_O fun w S3 e3 hw3 hwn => ?_
        have hx3 := hx2.ext e3
        have hz3 := hz2.ext e3
        have cx3 := hx3.c
        have g3 := g2.trans e3
        have hwx : w ≠ x := by have := hx2.1; omega
        have hwz : w ≠ z := by have := hz2.1; omega
        have hw0 : S.n ≤ w := by have := g2.n; omega
        simp (disch := omega) only [go_sem, simprocAttr, h0, h1, h2, h7, h8, cx3]
        refine wJ_of (F.osierref08_Latest_J (hl.ext opE g3) (hk.ext dotE g3) (by omega) (by omega)) ?_; rintro _ _ ⟨rfl, rfl⟩
        simp (disch := omega) only [go_sem, simprocAttr, h0, h1, h2, h7, h8, cx3]
        refine wJ_of (F.osierref08_abs_J (n := m.kind) mi) ?_; rintro _ _ ⟨rfl, rfl⟩
        simp (disch := omega) only [go_sem, simprocAttr, h0, h1, h2, h7, h8, cx3]
        refine wst_op (baseA (ps.map Prod.fst) ys act m) (slOf t) hw3 rfl rfl (by decide) rfl fun S4 hw4 b4 => ?_
        have hx4 := hx3.but b4 (by simp [blkOf]; exact hwx)
        have hz4 := hz3.but b4 (by simp [blkOf]; exact hwz)
        have g4 : S.Ext S4 := g3.but b4 fun j hj => by simp [blkOf] at hj; omega
        simp (disch := omega) only [go_sem, simprocAttr, h0, h1, h2, h7, h8, cx3]
        refine ⟨w, ?_⟩
        repeat' first | assumption | omega | (exact St.Ext.refl _) | (exact List.Perm.refl _) | rfl | (exact .inl trivial) | (exact trivial) | refine And.intro ?_ ?_
    · simp (disch := omega) only [go_sem, simprocAttr, h0, h1, h2, h7, h8, cx2]
      refine walloc_O fun w S3 e3 hw3 hwn => ?_
      have hx3 := hx2.ext e3
      have hz3 := hz2.ext e3
      have cx3 := hx3.c
      have g3 := g2.trans e3
      have hwx : w ≠ x := by have := hx2.1; omega
      have hwz : w ≠ z := by have := hz2.1; omega
      have hw0 : S.n ≤ w := by have := g2.n; omega
      simp (disch := omega) only [go_sem, simprocAttr, h0, h1, h2, h7, h8, cx3]
      refine wJ_of (F.osierref04_Get_J (a := act) (hk.ext dotE g3) (by omega)) ?_; rintro _ _ ⟨rfl, rfl⟩
      simp (disch := omega) only [go_sem, simprocAttr, h0, h1, h2, h7, h8, cx3]
      refine wJ_of (F.osierref08_Latest_J (hl.ext opE g3) (hk.ext dotE g3) (by omega) (by omega)) ?_; rintro _ _ ⟨rfl, rfl⟩
      simp (disch := omega) only [go_sem, simprocAttr, h0, h1, h2, h7, h8, cx3]
      refine wJ_of (F.osierref08_abs_J (n := m.kind) mi) ?_; rintro _ _ ⟨rfl, rfl⟩
      simp (disch := omega) only [go_sem, simprocAttr, h0, h1, h2, h7, h8, cx3]
      refine wst_op (baseA (ps.map Prod.fst) ys act m) (slOf t) hw3 rfl rfl (by decide) rfl fun S4 hw4 b4 => ?_
      have hx4 := hx3.but b4 (by simp [blkOf]; exact hwx)
      have hz4 := hz3.but b4 (by simp [blkOf]; exact hwz)
      have g4 : S.Ext S4 := g3.but b4 fun j hj => by simp [blkOf] at hj; omega
      simp (disch := omega) only [go_sem, simprocAttr, h0, h1, h2, h7, h8, cx3]
      refine ⟨w, ?_⟩
      repeat' first | assumption | omega | (exact St.Ext.refl _) | (exact List.Perm.refl _) | rfl | (exact .inl trivial) | (exact trivial) | refine And.intro ?_ ?_
  rintro fr S3 ⟨w, h0, h1, h7, h8, h9, hx3, hz3, hw3, hw0, hwx, hwz, hz0, g3⟩
  have hx3c := hx3.c
  simp (disch := omega) only [go_sem, simprocAttr, h0, h1, h7, h8, h9]
  refine wC_at 0 (fun fr S4 => ∃ v, fr 0 = .slice base ps.length cap ∧ fr 1 = slOf t ∧ fr 7 = ptrV x ∧ fr 8 = ptrV z ∧ fr 9 = ptrV w ∧ fr 10 = v ∧ OwnT dotE S3.n S4 v (blocksA (ps.map Prod.fst) ys) ∧ S3.Ext S4) ?_ ?_
  · refine wC_loop (fun n fr S4 => ∃ (i : Nat) (v : Value), n = ps.length - i ∧ i ≤ ps.length ∧ fr 0 = .slice base ps.length cap ∧ fr 1 = slOf t ∧ fr 7 = ptrV x ∧ fr 8 = ptrV z ∧ fr 9 = ptrV w ∧ fr 10 = v ∧ fr 11 = .int .i64 (i : Nat) ∧ OwnT dotE S3.n S4 v (blocksA ((ps.take i).map Prod.fst) ys) ∧ S3.Ext S4) ps.length
      ⟨0, nilS, by
        have k0 : OwnT dotE S3.n S3 nilS (blocksA ((ps.take 0).map Prod.fst) ys) := OwnT.nil dotE _ _
        simp (disch := omega) only [go_sem, simprocAttr]
        repeat' first | assumption | omega | (exact St.Ext.refl _) | (exact List.Perm.refl _) | rfl | (exact .inl trivial) | (exact trivial) | refine And.intro ?_ ?_
        ⟩ ?_
    rintro n fr S4 ⟨i, v, rfl, hi, h0, h1, h7, h8, h9, h10, h11, ho, g4⟩
    simp (disch := omega) only [go_sem, simprocAttr, F.osierref08_one.l0, h0, h1, h7, h8, h9, h10, h11]
    refine wcond_dec (fun hlt => ?_) (fun hge => ?_)
    rotate_left
    · rw [List.take_of_length_le (by omega)] at ho
      simp (disch := omega) only [go_sem, simprocAttr, h0, h1, h7, h8, h9, h10]
      refine ⟨v, ?_⟩
      repeat' first | assumption | omega | (exact St.Ext.refl _) | (exact List.Perm.refl _) | rfl | (exact .inl trivial) | (exact trivial) | refine And.intro ?_ ?_
    have hlx : i < ps.length := by omega
    have c1 : (0 : Int) ≤ (i : Int) ∧ (i : Int) < (ps.length : Int) := by omega
    have g4' := g3.trans g4
    have hl4 := hl.ext opE g4'
    have hlb : ∃ b off, base = some ⟨b, off, none⟩ ∧ ∀ S', S4.Ext S' → (S'.loadN ⟨b, off + i * 14, none⟩ 2 = some [.int .i64 ps[i].1.id.1, .int .i64 ps[i].1.id.2] ∧ S'.cell ⟨b, off + i * 14 + 4, none⟩ = some (.int .i64 ps[i].1.kind) ∧ S'.loadN ⟨b, off + i * 14 + 5, none⟩ 2 = some [.int .i64 ps[i].1.block.1, .int .i64 ps[i].1.block.2]) := by
      obtain ⟨b, off, hb, -, -, -⟩ := hl4.op hlx
      refine ⟨b, off, hb, fun S' e => ?_⟩
      obtain ⟨b', off', hb', -, ⟨x1, -, -, x4, x5, -⟩, -⟩ := (hl4.ext opE e).op hlx
      rw [hb] at hb'
      injection hb' with hb'
      injection hb' with hb1 hb2
      subst hb1 hb2
      exact ⟨x1, x4, x5⟩
    obtain ⟨b, off, rfl, hld⟩ := hlb
    obtain ⟨x1, x4, x5⟩ := hld S4 (St.Ext.refl S4)
    have hsn := blocksA_snoc ((ps.take i).map Prod.fst) ps[i].1 ys
    rw [← List.map_singleton, ← List.map_append, ← take_snoc (List.getElem?_eq_getElem hlx)] at hsn
    have hbl := blocksA_len ((ps.take i).map Prod.fst) ys
    rw [List.length_map, List.length_take] at hbl
    generalize blocksA ((ps.take i).map Prod.fst) ys = Y at *
    generalize ps[i].1 = o at *
    simp (disch := omega) only [go_sem, simprocAttr, h0, h1, h7, h8, h9, h10, h11, c1, x1]
    refine wJ_of (F.osierref04_Has_J (d := o.id) (hk.ext dotE g4') (by omega)) ?_; rintro _ _ ⟨rfl, rfl⟩
    by_cases q1 : hasP ys o.id
    rotate_left
    · rw [if_neg fun h => q1 h.1] at hsn
      simp (disch := omega) only [go_sem, simprocAttr, q1, h0, h1, h7, h8, h9, h10, h11]
      refine ⟨ps.length - (i + 1), by omega, i + 1, v, ?_⟩
      rw [hsn]
      repeat' first | assumption | omega | (exact St.Ext.refl _) | (exact List.Perm.refl _) | rfl | (exact .inl trivial) | (exact trivial) | refine And.intro ?_ ?_
    by_cases q2 : o.kind = 3
    rotate_left
    · rw [if_neg fun h => q2 h.2.1] at hsn
      simp (disch := omega) only [go_sem, simprocAttr, q1, q2, h0, h1, h7, h8, h9, h10, h11, c1, x4]
      refine ⟨ps.length - (i + 1), by omega, i + 1, v, ?_⟩
      rw [hsn]
      repeat' first | assumption | omega | (exact St.Ext.refl _) | (exact List.Perm.refl _) | rfl | (exact .inl trivial) | (exact trivial) | refine And.intro ?_ ?_
    have eqb := eqV_dot o.block o.id
    by_cases q3 : o.block = o.id
    rotate_left
    · rw [if_neg fun h => q3 h.2.2] at hsn
      simp (disch := omega) only [go_sem, simprocAttr, q1, q2, q3, h0, h1, h7, h8, h9, h10, h11, c1, x1, x4, x5, eqb]
      refine ⟨ps.length - (i + 1), by omega, i + 1, v, ?_⟩
      rw [hsn]
      repeat' first | assumption | omega | (exact St.Ext.refl _) | (exact List.Perm.refl _) | rfl | (exact .inl trivial) | (exact trivial) | refine And.intro ?_ ?_
    rw [if_pos ⟨q1, q2, q3⟩] at hsn
    have eqt : eqV [.i .i64, .i .i64] true (dotV o.block) (dotV o.id) = some true := by rw [eqb, decide_eq_true q3]
    simp (disch := omega) only [go_sem, simprocAttr, q1, q2, eqt, h0, h1, h7, h8, h9, h10, h11, c1, x1, x4, x5]
    refine walloc_sl [.int .i64 o.id.1, .int .i64 o.id.2] fun u S5 e5 ou hu hun => ?_
    simp (disch := omega) only [go_sem, simprocAttr, h10]
    have hlit : SlT dotE S5 (.slice (some ⟨u, 0, none⟩) 1 1) [o.id] := ⟨_, 1, rfl, Nat.le_refl _, .inr rfl, fun _ => ⟨u, 0, rfl, hu, by rw [St.loadN_def, ou]; rfl⟩⟩
    refine wE_app dotE (bytes := 16) (xs := Y) (ys := [o.id]) (ho.ext dotE e5) hlit rfl rfl (Nat.le_trans g4.n e5.n) (by simp only [List.length_singleton]; omega) (by simp only [List.length_singleton]; omega) fun v6 S6 ho6 hb6 hv6 => ?_
    have g6 : S3.Ext S6 := (g4.trans e5).but hb6 fun j hj => (ho.blk dotE j hj).1
    rw [← hsn] at ho6
    simp (disch := omega) only [go_sem, simprocAttr, h0, h1, h7, h8, h9, h11]
    refine ⟨ps.length - (i + 1), by omega, i + 1, v6, ?_⟩
    repeat' first | assumption | omega | (exact St.Ext.refl _) | (exact List.Perm.refl _) | rfl | (exact .inl trivial) | (exact trivial) | refine And.intro ?_ ?_
  rintro fr S4 ⟨v, h0, h1, h7, h8, h9, h10, ho, g4⟩
  have hbl := blocksA_len (ps.map Prod.fst) ys
  rw [List.length_map] at hbl
  generalize hB : blocksA (ps.map Prod.fst) ys = B at *
  obtain ⟨bb, cb, hv⟩ := (ho.sl dotE).len dotE
  subst hv
  simp (disch := omega) only [go_sem, simprocAttr, h0, h1, h7, h8, h9, h10]
  have hx4 := hx3.ext g4
  have hz4 := hz3.ext g4
  have hw4 := hw3.ext g4
  have g40 := g3.trans g4
  have hwS : w < S3.n := hw3.1
  have ho4 := ho
  refine wcond_dec (fun hb0 => ?_) (fun hb0 => ?_)
  · -- no block
    have hBn : B = [] := List.eq_nil_of_length_eq_zero (by omega)
    have h1A : oneA (ps.map Prod.fst) ys act m = movedA { baseA (ps.map Prod.fst) ys act m with kind := 3 } B m := by unfold oneA; simp only [hB]; rw [if_pos (.inl hBn)]
    simp (disch := omega) only [go_sem, simprocAttr, h0, h1, h7, h8, h9, h10]
    refine wst_op { baseA (ps.map Prod.fst) ys act m with kind := 3 } (slOf t) hw4 rfl rfl (by decide) rfl fun S5 hw5 b5 => ?_
    have hx5 := hx4.but b5 (by simp [blkOf]; exact hwx)
    have hz5 := hz4.but b5 (by simp [blkOf]; exact hwz)
    have g5 : S.Ext S5 := g40.but b5 fun j hj => by simp [blkOf] at hj; omega
    have ho5 := ho4.but dotE b5 fun j hj => by have := (ho4.blk dotE j hj).1; simp [blkOf]; omega
    obtain ⟨o3, he3⟩ : ∃ o3 : OpA, o3 = { baseA (ps.map Prod.fst) ys act m with kind := 3 } := ⟨_, rfl⟩
    rw [← he3] at hw5 h1A
    have ok3 : o3.kind = 3 := by rw [he3]
    have cw5 := hw5.c
    rw [ok3] at cw5
    simp (disch := omega) only [go_sem, simprocAttr, h0, h1, h7, h8, h9, h10, cw5]
    have cw5 := hw5.c
    have cx5 := hx5.c
    simp (disch := omega) only [go_sem, simprocAttr, h0, h1, h7, h8, h9, h10, cw5, cx5, opC_len, opC_toList, mkC_len, mkC_toList]
    refine wJ_of (F.osierref08_moved_J (o := o3) (t := t) (m := m) (ho5.sl dotE) hm (by omega)) ?_; rintro _ S7 ⟨rfl, e7⟩
    have hz7 := hz5.ext e7
    have g7 := g5.trans e7
    simp (disch := omega) only [go_sem, simprocAttr, h8]
    refine wst_op (oneA (ps.map Prod.fst) ys act m) (slOf t) hz7 rfl rfl (by decide) (by rw [h1A]; rfl) fun S8 hz8 b8 => ?_
    have cz8 := hz8.c
    simp (disch := omega) only [go_sem, simprocAttr, h8, cz8]
    exact g7.but b8 fun j hj => by simp [blkOf] at hj; omega
  have hBn : B ≠ [] := fun h => hb0 (by rw [h]; rfl)
  have hBp : 0 < B.length := List.length_pos_iff.2 hBn
  obtain ⟨o3, he3⟩ : ∃ o3 : OpA, o3 = baseA (ps.map Prod.fst) ys act m := ⟨_, rfl⟩
  rw [← he3] at hw4
  have cw4 := hw4.c
  have cx4 := hx4.c
  simp (disch := omega) only [go_sem, simprocAttr, h0, h1, h7, h8, h9, h10, cw4]
  by_cases hk3 : o3.kind = 3
  · have h1A : oneA (ps.map Prod.fst) ys act m = movedA o3 B m := by
      unfold oneA
      simp only [hB, ← he3]
      rw [if_pos (.inr hk3)]
      congr 1
      cases o3
      simp only at hk3
      rw [hk3]
    simp (disch := omega) only [go_sem, simprocAttr, hk3, h0, h1, h7, h8, h9, h10]
    have g4 := g40
    have cw4 := hw4.c
    have cx4 := hx4.c
    simp (disch := omega) only [go_sem, simprocAttr, h0, h1, h7, h8, h9, h10, cw4, cx4, opC_len, opC_toList, mkC_len, mkC_toList]
    refine wJ_of (F.osierref08_moved_J (o := o3) (t := t) (m := m) (ho4.sl dotE) hm (by omega)) ?_; rintro _ S7 ⟨rfl, e7⟩
    have hz7 := hz4.ext e7
    have g7 := g4.trans e7
    simp (disch := omega) only [go_sem, simprocAttr, h8]
    refine wst_op (oneA (ps.map Prod.fst) ys act m) (slOf t) hz7 rfl rfl (by decide) (by rw [h1A]; rfl) fun S8 hz8 b8 => ?_
    have cz8 := hz8.c
    simp (disch := omega) only [go_sem, simprocAttr, h8, cz8]
    exact g7.but b8 fun j hj => by simp [blkOf] at hj; omega
  simp (disch := omega) only [go_sem, simprocAttr, hk3, h0, h1, h7, h8, h9, h10, cx4]
  refine wJ_of (F.osierref08_abs_J (n := m.a) ma) ?_; rintro _ _ ⟨rfl, rfl⟩
  obtain ⟨kj, hkj, hkjl⟩ := tmod_nat (a := absZ m.a) (n := B.length) (absZ_nonneg _) (by omega)
  have hbz : ¬ ((B.length : Int) = 0) := by omega
  have c2 : (0 : Int) ≤ (kj : Int) ∧ (kj : Int) < (B.length : Int) := by omega
  obtain ⟨b2, o2, rfl, hb2, l2⟩ := (ho4.sl dotE).dot hkjl
  have hpk : pickA B m.a = B[kj] := by
    rw [pickA, hkj]
    show B.getD kj (0, 0) = _
    rw [List.getD_eq_getElem?_getD, List.getElem?_eq_getElem hkjl]
    rfl
  rw [← hpk] at l2
  simp (disch := omega) only [go_sem, simprocAttr, h0, h1, h7, h8, h9, h10, hkj, hbz, c2, l2]
  refine wst_op { o3 with block := pickA B m.a } (slOf t) hw4 rfl rfl (by decide) rfl fun S5 hw5 b5 => ?_
  have hx5 := hx4.but b5 (by simp [blkOf]; exact hwx)
  have hz5 := hz4.but b5 (by simp [blkOf]; exact hwz)
  have g5 : S.Ext S5 := g40.but b5 fun j hj => by simp [blkOf] at hj; omega
  obtain ⟨o5, he5⟩ : ∃ o5 : OpA, o5 = { o3 with block := pickA B m.a } := ⟨_, rfl⟩
  rw [← he5] at hw5
  have h1A : oneA (ps.map Prod.fst) ys act m = (let o := if charsA (ps.map Prod.fst) ys o5.block = [] then { o5 with kind := 1 } else { o5 with at_ := pickA (charsA (ps.map Prod.fst) ys o5.block) m.b }; if o.kind = 1 then insA o m else o) := by
    unfold oneA
    simp only [hB, ← he3]
    rw [if_neg (fun h => h.elim hBn hk3), he5]
  have ob5 : ∀ S', S5.Ext S' → S'.loadN ⟨w, 5, none⟩ 2 = some [.int .i64 o5.block.1, .int .i64 o5.block.2] := fun S' e => (hw5.ext e).c.2.1.2.1
  clear ho4 ho
  generalize hbk : o5.block = bk at *
  simp (disch := omega) only [go_sem, simprocAttr, h0, h1, h7, h8, h9]
  refine wC_at 2 (fun fr S6 => ∃ v, fr 0 = .slice base ps.length cap ∧ fr 1 = slOf t ∧ fr 7 = ptrV x ∧ fr 8 = ptrV z ∧ fr 9 = ptrV w ∧ fr 13 = v ∧ OwnT dotE S5.n S6 v (charsA (ps.map Prod.fst) ys bk) ∧ S5.Ext S6) ?_ ?_
  · refine wC_loop (fun n fr S6 => ∃ (i : Nat) (v : Value), n = ps.length - i ∧ i ≤ ps.length ∧ fr 0 = .slice base ps.length cap ∧ fr 1 = slOf t ∧ fr 7 = ptrV x ∧ fr 8 = ptrV z ∧ fr 9 = ptrV w ∧ fr 13 = v ∧ fr 14 = .int .i64 (i : Nat) ∧ OwnT dotE S5.n S6 v (charsA ((ps.take i).map Prod.fst) ys bk) ∧ S5.Ext S6) ps.length
      ⟨0, nilS, by
        have k0 : OwnT dotE S5.n S5 nilS (charsA ((ps.take 0).map Prod.fst) ys bk) := OwnT.nil dotE _ _
        simp (disch := omega) only [go_sem, simprocAttr]
        repeat' first | assumption | omega | (exact St.Ext.refl _) | (exact List.Perm.refl _) | rfl | (exact .inl trivial) | (exact trivial) | refine And.intro ?_ ?_
        ⟩ ?_
    rintro n fr S6 ⟨i, v, rfl, hi, h0, h1, h7, h8, h9, h13, h14, ho, g6⟩
    simp (disch := omega) only [go_sem, simprocAttr, F.osierref08_one.l1, h0, h1, h7, h8, h9, h13, h14]
    refine wcond_dec (fun hlt => ?_) (fun hge => ?_)
    rotate_left
    · rw [List.take_of_length_le (by omega)] at ho
      simp (disch := omega) only [go_sem, simprocAttr, h0, h1, h7, h8, h9, h13]
      refine ⟨v, ?_⟩
      repeat' first | assumption | omega | (exact St.Ext.refl _) | (exact List.Perm.refl _) | rfl | (exact .inl trivial) | (exact trivial) | refine And.intro ?_ ?_
    have hlx : i < ps.length := by omega
    have c1 : (0 : Int) ≤ (i : Int) ∧ (i : Int) < (ps.length : Int) := by omega
    have g6' := g5.trans g6
    have hl6 := hl.ext opE g6'
    obtain ⟨b, off, rfl, -, ⟨x1, -, -, x4, x5, -⟩, -⟩ := hl6.op hlx
    have xw := ob5 S6 g6
    have hsn := charsA_snoc ((ps.take i).map Prod.fst) ps[i].1 ys bk
    rw [← List.map_singleton, ← List.map_append, ← take_snoc (List.getElem?_eq_getElem hlx)] at hsn
    have hbl := charsA_len ((ps.take i).map Prod.fst) ys bk
    rw [List.length_map, List.length_take] at hbl
    generalize charsA ((ps.take i).map Prod.fst) ys bk = Y at *
    generalize ps[i].1 = o at *
    simp (disch := omega) only [go_sem, simprocAttr, h0, h1, h7, h8, h9, h13, h14, c1, x1]
    refine wJ_of (F.osierref04_Has_J (d := o.id) (hk.ext dotE g6') (by omega)) ?_; rintro _ _ ⟨rfl, rfl⟩
    by_cases q1 : hasP ys o.id
    rotate_left
    · rw [if_neg fun h => q1 h.1] at hsn
      simp (disch := omega) only [go_sem, simprocAttr, q1, h0, h1, h7, h8, h9, h13, h14]
      refine ⟨ps.length - (i + 1), by omega, i + 1, v, ?_⟩
      rw [hsn]
      repeat' first | assumption | omega | (exact St.Ext.refl _) | (exact List.Perm.refl _) | rfl | (exact .inl trivial) | (exact trivial) | refine And.intro ?_ ?_
    by_cases q2 : o.kind = 1
    rotate_left
    · rw [if_neg fun h => q2 h.2.1] at hsn
      simp (disch := omega) only [go_sem, simprocAttr, q1, q2, h0, h1, h7, h8, h9, h13, h14, c1, x4]
      refine ⟨ps.length - (i + 1), by omega, i + 1, v, ?_⟩
      rw [hsn]
      repeat' first | assumption | omega | (exact St.Ext.refl _) | (exact List.Perm.refl _) | rfl | (exact .inl trivial) | (exact trivial) | refine And.intro ?_ ?_
    have eqb := eqV_dot o.block bk
    by_cases q3 : o.block = bk
    rotate_left
    · rw [if_neg fun h => q3 h.2.2] at hsn
      simp (disch := omega) only [go_sem, simprocAttr, q1, q2, q3, h0, h1, h7, h8, h9, h13, h14, c1, x1, x4, x5, xw, eqb]
      refine ⟨ps.length - (i + 1), by omega, i + 1, v, ?_⟩
      rw [hsn]
      repeat' first | assumption | omega | (exact St.Ext.refl _) | (exact List.Perm.refl _) | rfl | (exact .inl trivial) | (exact trivial) | refine And.intro ?_ ?_
    rw [if_pos ⟨q1, q2, q3⟩] at hsn
    have eqt : eqV [.i .i64, .i .i64] true (dotV o.block) (dotV bk) = some true := by rw [eqb, decide_eq_true q3]
    simp (disch := omega) only [go_sem, simprocAttr, q1, q2, eqt, h0, h1, h7, h8, h9, h13, h14, c1, x1, x4, x5, xw]
    refine walloc_sl [.int .i64 o.id.1, .int .i64 o.id.2] fun u S7 e7 ou hu hun => ?_
    simp (disch := omega) only [go_sem, simprocAttr, h13]
    have hlit : SlT dotE S7 (.slice (some ⟨u, 0, none⟩) 1 1) [o.id] := ⟨_, 1, rfl, Nat.le_refl _, .inr rfl, fun _ => ⟨u, 0, rfl, hu, by rw [St.loadN_def, ou]; rfl⟩⟩
    refine wE_app dotE (bytes := 16) (xs := Y) (ys := [o.id]) (ho.ext dotE e7) hlit rfl rfl (Nat.le_trans g6.n e7.n) (by simp only [List.length_singleton]; omega) (by simp only [List.length_singleton]; omega) fun v8 S8 ho8 hb8 hv8 => ?_
    have g8 : S5.Ext S8 := (g6.trans e7).but hb8 fun j hj => (ho.blk dotE j hj).1
    rw [← hsn] at ho8
    simp (disch := omega) only [go_sem, simprocAttr, h0, h1, h7, h8, h9, h14]
    refine ⟨ps.length - (i + 1), by omega, i + 1, v8, ?_⟩
    repeat' first | assumption | omega | (exact St.Ext.refl _) | (exact List.Perm.refl _) | rfl | (exact .inl trivial) | (exact trivial) | refine And.intro ?_ ?_
  rintro fr S6 ⟨v, h0, h1, h7, h8, h9, h13, ho, g6⟩
  have hcl := charsA_len (ps.map Prod.fst) ys bk
  rw [List.length_map] at hcl
  generalize hC : charsA (ps.map Prod.fst) ys bk = C at *
  obtain ⟨bc, cc, hv⟩ := (ho.sl dotE).len dotE
  subst hv
  have hx6 := hx5.ext g6
  have hz6 := hz5.ext g6
  have hw6 := hw5.ext g6
  have g60 := g5.trans g6
  have cx6 := hx6.c
  simp (disch := omega) only [go_sem, simprocAttr, h0, h1, h7, h8, h9, h13, cx6]
  refine wcond_dec (fun hc0 => ?_) (fun hc0 => ?_)
  · have hCn : C = [] := List.eq_nil_of_length_eq_zero (by omega)
    rw [if_pos hCn] at h1A
    simp (disch := omega) only [go_sem, simprocAttr, h0, h1, h7, h8, h9, h13]
    refine wst_op { o5 with kind := 1 } (slOf t) hw6 rfl rfl (by decide) rfl fun S7 hw7 b7 => ?_
    have hx7 := hx6.but b7 (by simp [blkOf]; exact hwx)
    have hz7 := hz6.but b7 (by simp [blkOf]; exact hwz)
    have g7 : S.Ext S7 := g60.but b7 fun j hj => by simp [blkOf] at hj; omega
    obtain ⟨o6, he6⟩ : ∃ o6 : OpA, o6 = { o5 with kind := 1 } := ⟨_, rfl⟩
    rw [← hbk, ← he6] at h1A
    rw [← he6] at hw7
    have hk6 : o6.kind = 1 := by rw [he6]
    replace h1A : oneA (ps.map Prod.fst) ys act m = insA o6 m := by rw [h1A]; simp only; rw [if_pos hk6]
    have cw7 := hw7.c
    rw [hk6] at cw7
    simp (disch := omega) only [go_sem, simprocAttr, h0, h1, h7, h8, h9, cw7]
    have cx7 := hx7.c
    have h26 : 0 ≤ (absZ m.kind).tmod 26 ∧ (absZ m.kind).tmod 26 < 26 := tmod_rng (absZ_nonneg _) (by decide)
    refine wst_op { o6 with side := 1 } (slOf t) hw7 rfl rfl (by decide) rfl fun SA hwA bA => ?_
    have hxA := hx7.but bA (by simp [blkOf]; exact hwx)
    have hzA := hz7.but bA (by simp [blkOf]; exact hwz)
    have gA : S.Ext SA := g7.but bA fun j hj => by simp [blkOf] at hj; omega
    have cxA := hxA.c
    simp (disch := omega) only [go_sem, simprocAttr, h0, h1, h7, h8, h9, cxA]
    refine wJ_of (F.osierref08_abs_J (n := m.kind) mi) ?_; rintro _ _ ⟨rfl, rfl⟩
    simp (disch := omega) only [go_sem, simprocAttr, h0, h1, h7, h8, h9]
    refine wst_op { o6 with side := 1, char := 97 + (absZ m.kind).tmod 26 } (slOf t) hwA rfl rfl (by decide) rfl fun SB hwB bB => ?_
    have hxB := hxA.but bB (by simp [blkOf]; exact hwx)
    have hzB := hzA.but bB (by simp [blkOf]; exact hwz)
    have gB : S.Ext SB := gA.but bB fun j hj => by simp [blkOf] at hj; omega
    have cxB := hxB.c
    have cwB := hwB.c
    have eqat := eqV_dot o6.at_ (0, 0)
    by_cases hat : o6.at_ = (0, 0)
    · have eqt : eqV [.i .i64, .i .i64] true (dotV o6.at_) (dotV (0, 0)) = some true := by rw [eqat, decide_eq_true hat]
      simp (disch := omega) only [go_sem, simprocAttr, h0, h1, h7, h8, h9, cwB, eqt]
      have hwB : opB SB w { o6 with side := (if o6.at_ = (0, 0) then 1 else (absZ m.knows).tmod 2), char := 97 + (absZ m.kind).tmod 26 } (slOf t) := by rw [if_pos hat]; exact hwB
      have cxB := hxB.c
      simp (disch := omega) only [go_sem, simprocAttr, h0, h1, h7, h8, h9, cxB]
      refine wJ_of (F.osierref08_abs_J (n := m.b) mb) ?_; rintro _ _ ⟨rfl, rfl⟩
      by_cases h5 : (absZ m.b).tmod 5 = 0
      · have hins : insA o6 m = { o6 with at_ := (0, 0), side := 1, char := 97 + (absZ m.kind).tmod 26 } := by
          unfold insA
          simp only
          rw [if_pos h5]
        simp (disch := omega) only [go_sem, simprocAttr, h5, h0, h1, h7, h8, h9]
        refine wst_op { o6 with at_ := (0, 0), side := (if o6.at_ = (0, 0) then 1 else (absZ m.knows).tmod 2), char := 97 + (absZ m.kind).tmod 26 } (slOf t) hwB rfl rfl (by decide) rfl fun SD hwD bD => ?_
        have hxD := hxB.but bD (by simp [blkOf]; exact hwx)
        have hzD := hzB.but bD (by simp [blkOf]; exact hwz)
        have gD : S.Ext SD := gB.but bD fun j hj => by simp [blkOf] at hj; omega
        simp (disch := omega) only [go_sem, simprocAttr, h0, h1, h7, h8, h9]
        refine wst_op { o6 with at_ := (0, 0), side := 1, char := 97 + (absZ m.kind).tmod 26 } (slOf t) hwD rfl rfl (by decide) rfl fun SE hwE bE => ?_
        have hxE := hxD.but bE (by simp [blkOf]; exact hwx)
        have hzE := hzD.but bE (by simp [blkOf]; exact hwz)
        have gE : S.Ext SE := gD.but bE fun j hj => by simp [blkOf] at hj; omega
        have cwE := hwE.c
        simp (disch := omega) only [go_sem, simprocAttr, h0, h1, h7, h8, h9, cwE, opC_len, opC_toList]
        refine wst_op (oneA (ps.map Prod.fst) ys act m) (slOf t) hzE rfl rfl (by decide) (by rw [h1A, hins]; rfl) fun SZ hzZ bZ => ?_
        have czZ := hzZ.c
        simp (disch := omega) only [go_sem, simprocAttr, h8, czZ]
        exact gE.but bZ fun j hj => by simp [blkOf] at hj; omega
      · have hins : insA o6 m = { o6 with side := (if o6.at_ = (0, 0) then 1 else (absZ m.knows).tmod 2), char := 97 + (absZ m.kind).tmod 26 } := by
          unfold insA
          simp only
          rw [if_neg h5]
        simp (disch := omega) only [go_sem, simprocAttr, h5, h0, h1, h7, h8, h9]
        have cwB := hwB.c
        simp (disch := omega) only [go_sem, simprocAttr, h0, h1, h7, h8, h9, cwB, opC_len, opC_toList]
        refine wst_op (oneA (ps.map Prod.fst) ys act m) (slOf t) hzB rfl rfl (by decide) (by rw [h1A, hins]; rfl) fun SZ hzZ bZ => ?_
        have czZ := hzZ.c
        simp (disch := omega) only [go_sem, simprocAttr, h8, czZ]
        exact gB.but bZ fun j hj => by simp [blkOf] at hj; omega
    · have eqt : eqV [.i .i64, .i .i64] true (dotV o6.at_) (dotV (0, 0)) = some false := by rw [eqat, decide_eq_false hat]
      simp (disch := omega) only [go_sem, simprocAttr, h0, h1, h7, h8, h9, cwB, eqt, cxB]
      refine wJ_of (F.osierref08_abs_J (n := m.knows) mk) ?_; rintro _ _ ⟨rfl, rfl⟩
      simp (disch := omega) only [go_sem, simprocAttr, h0, h1, h7, h8, h9]
      refine wst_op { o6 with side := (if o6.at_ = (0, 0) then 1 else (absZ m.knows).tmod 2), char := 97 + (absZ m.kind).tmod 26 } (slOf t) hwB rfl rfl (by decide) (by rw [if_neg hat]; rfl) fun SC hwC bC => ?_
      have hxC := hxB.but bC (by simp [blkOf]; exact hwx)
      have hzC := hzB.but bC (by simp [blkOf]; exact hwz)
      have gC : S.Ext SC := gB.but bC fun j hj => by simp [blkOf] at hj; omega
      have cxC := hxC.c
      simp (disch := omega) only [go_sem, simprocAttr, h0, h1, h7, h8, h9, cxC]
      refine wJ_of (F.osierref08_abs_J (n := m.b) mb) ?_; rintro _ _ ⟨rfl, rfl⟩
      by_cases h5 : (absZ m.b).tmod 5 = 0
      · have hins : insA o6 m = { o6 with at_ := (0, 0), side := 1, char := 97 + (absZ m.kind).tmod 26 } := by
          unfold insA
          simp only
          rw [if_pos h5]
        simp (disch := omega) only [go_sem, simprocAttr, h5, h0, h1, h7, h8, h9]
        refine wst_op { o6 with at_ := (0, 0), side := (if o6.at_ = (0, 0) then 1 else (absZ m.knows).tmod 2), char := 97 + (absZ m.kind).tmod 26 } (slOf t) hwC rfl rfl (by decide) rfl fun SD hwD bD => ?_
        have hxD := hxC.but bD (by simp [blkOf]; exact hwx)
        have hzD := hzC.but bD (by simp [blkOf]; exact hwz)
        have gD : S.Ext SD := gC.but bD fun j hj => by simp [blkOf] at hj; omega
        simp (disch := omega) only [go_sem, simprocAttr, h0, h1, h7, h8, h9]
        refine wst_op { o6 with at_ := (0, 0), side := 1, char := 97 + (absZ m.kind).tmod 26 } (slOf t) hwD rfl rfl (by decide) rfl fun SE hwE bE => ?_
        have hxE := hxD.but bE (by simp [blkOf]; exact hwx)
        have hzE := hzD.but bE (by simp [blkOf]; exact hwz)
        have gE : S.Ext SE := gD.but bE fun j hj => by simp [blkOf] at hj; omega
        have cwE := hwE.c
        simp (disch := omega) only [go_sem, simprocAttr, h0, h1, h7, h8, h9, cwE, opC_len, opC_toList]
        refine wst_op (oneA (ps.map Prod.fst) ys act m) (slOf t) hzE rfl rfl (by decide) (by rw [h1A, hins]; rfl) fun SZ hzZ bZ => ?_
        have czZ := hzZ.c
        simp (disch := omega) only [go_sem, simprocAttr, h8, czZ]
        exact gE.but bZ fun j hj => by simp [blkOf] at hj; omega
      · have hins : insA o6 m = { o6 with side := (if o6.at_ = (0, 0) then 1 else (absZ m.knows).tmod 2), char := 97 + (absZ m.kind).tmod 26 } := by
          unfold insA
          simp only
          rw [if_neg h5]
        simp (disch := omega) only [go_sem, simprocAttr, h5, h0, h1, h7, h8, h9]
        have cwC := hwC.c
        simp (disch := omega) only [go_sem, simprocAttr, h0, h1, h7, h8, h9, cwC, opC_len, opC_toList]
        refine wst_op (oneA (ps.map Prod.fst) ys act m) (slOf t) hzC rfl rfl (by decide) (by rw [h1A, hins]; rfl) fun SZ hzZ bZ => ?_
        have czZ := hzZ.c
        simp (disch := omega) only [go_sem, simprocAttr, h8, czZ]
        exact gC.but bZ fun j hj => by simp [blkOf] at hj; omega
  have hCn : C ≠ [] := fun h => hc0 (by rw [h]; rfl)
  have hCp : 0 < C.length := List.length_pos_iff.2 hCn
  rw [if_neg hCn] at h1A
  simp (disch := omega) only [go_sem, simprocAttr, h0, h1, h7, h8, h9, h13, cx6]
  refine wJ_of (F.osierref08_abs_J (n := m.b) mb) ?_; rintro _ _ ⟨rfl, rfl⟩
  obtain ⟨kq, hkq, hkql⟩ := tmod_nat (a := absZ m.b) (n := C.length) (absZ_nonneg _) (by omega)
  have hcz : ¬ ((C.length : Int) = 0) := by omega
  have c3 : (0 : Int) ≤ (kq : Int) ∧ (kq : Int) < (C.length : Int) := by omega
  obtain ⟨b3, o3', rfl, hb3, l3⟩ := (ho.sl dotE).dot hkql
  have hpk2 : pickA C m.b = C[kq] := by
    rw [pickA, hkq]
    show C.getD kq (0, 0) = _
    rw [List.getD_eq_getElem?_getD, List.getElem?_eq_getElem hkql]
    rfl
  rw [← hpk2] at l3
  simp (disch := omega) only [go_sem, simprocAttr, h0, h1, h7, h8, h9, h13, hkq, hcz, c3, l3]
  refine wst_op { o5 with at_ := pickA C m.b } (slOf t) hw6 rfl rfl (by decide) rfl fun S7 hw7 b7 => ?_
  have hx7 := hx6.but b7 (by simp [blkOf]; exact hwx)
  have hz7 := hz6.but b7 (by simp [blkOf]; exact hwz)
  have g7 : S.Ext S7 := g60.but b7 fun j hj => by simp [blkOf] at hj; omega
  obtain ⟨o6, he6⟩ : ∃ o6 : OpA, o6 = { o5 with at_ := pickA C m.b } := ⟨_, rfl⟩
  rw [← hbk, ← he6] at h1A
  rw [← he6] at hw7
  have cw7 := hw7.c
  by_cases hk6 : o6.kind = 1
  · replace h1A : oneA (ps.map Prod.fst) ys act m = insA o6 m := by rw [h1A]; simp only; rw [if_pos hk6]
    rw [hk6] at cw7
    simp (disch := omega) only [go_sem, simprocAttr, h0, h1, h7, h8, h9, cw7]
    have cx7 := hx7.c
    have h26 : 0 ≤ (absZ m.kind).tmod 26 ∧ (absZ m.kind).tmod 26 < 26 := tmod_rng (absZ_nonneg _) (by decide)
    refine wst_op { o6 with side := 1 } (slOf t) hw7 rfl rfl (by decide) rfl fun SA hwA bA => ?_
    have hxA := hx7.but bA (by simp [blkOf]; exact hwx)
    have hzA := hz7.but bA (by simp [blkOf]; exact hwz)
    have gA : S.Ext SA := g7.but bA fun j hj => by simp [blkOf] at hj; omega
    have cxA := hxA.c
    simp (disch := omega) only [go_sem, simprocAttr, h0, h1, h7, h8, h9, cxA]
    refine wJ_of (F.osierref08_abs_J (n := m.kind) mi) ?_; rintro _ _ ⟨rfl, rfl⟩
    simp (disch := omega) only [go_sem, simprocAttr, h0, h1, h7, h8, h9]
    refine wst_op { o6 with side := 1, char := 97 + (absZ m.kind).tmod 26 } (slOf t) hwA rfl rfl (by decide) rfl fun SB hwB bB => ?_
    have hxB := hxA.but bB (by simp [blkOf]; exact hwx)
    have hzB := hzA.but bB (by simp [blkOf]; exact hwz)
    have gB : S.Ext SB := gA.but bB fun j hj => by simp [blkOf] at hj; omega
    have cxB := hxB.c
    have cwB := hwB.c
    have eqat := eqV_dot o6.at_ (0, 0)
    by_cases hat : o6.at_ = (0, 0)
    · have eqt : eqV [.i .i64, .i .i64] true (dotV o6.at_) (dotV (0, 0)) = some true := by rw [eqat, decide_eq_true hat]
      simp (disch := omega) only [go_sem, simprocAttr, h0, h1, h7, h8, h9, cwB, eqt]
      have hwB : opB SB w { o6 with side := (if o6.at_ = (0, 0) then 1 else (absZ m.knows).tmod 2), char := 97 + (absZ m.kind).tmod 26 } (slOf t) := by rw [if_pos hat]; exact hwB
      have cxB := hxB.c
      simp (disch := omega) only [go_sem, simprocAttr, h0, h1, h7, h8, h9, cxB]
      refine wJ_of (F.osierref08_abs_J (n := m.b) mb) ?_; rintro _ _ ⟨rfl, rfl⟩
      by_cases h5 : (absZ m.b).tmod 5 = 0
      · have hins : insA o6 m = { o6 with at_ := (0, 0), side := 1, char := 97 + (absZ m.kind).tmod 26 } := by
          unfold insA
          simp only
          rw [if_pos h5]
        simp (disch := omega) only [go_sem, simprocAttr, h5, h0, h1, h7, h8, h9]
        refine wst_op { o6 with at_ := (0, 0), side := (if o6.at_ = (0, 0) then 1 else (absZ m.knows).tmod 2), char := 97 + (absZ m.kind).tmod 26 } (slOf t) hwB rfl rfl (by decide) rfl fun SD hwD bD => ?_
        have hxD := hxB.but bD (by simp [blkOf]; exact hwx)
        have hzD := hzB.but bD (by simp [blkOf]; exact hwz)
        have gD : S.Ext SD := gB.but bD fun j hj => by simp [blkOf] at hj; omega
        simp (disch := omega) only [go_sem, simprocAttr, h0, h1, h7, h8, h9]
        refine wst_op { o6 with at_ := (0, 0), side := 1, char := 97 + (absZ m.kind).tmod 26 } (slOf t) hwD rfl rfl (by decide) rfl fun SE hwE bE => ?_
        have hxE := hxD.but bE (by simp [blkOf]; exact hwx)
        have hzE := hzD.but bE (by simp [blkOf]; exact hwz)
        have gE : S.Ext SE := gD.but bE fun j hj => by simp [blkOf] at hj; omega
        have cwE := hwE.c
        simp (disch := omega) only [go_sem, simprocAttr, h0, h1, h7, h8, h9, cwE, opC_len, opC_toList]
        refine wst_op (oneA (ps.map Prod.fst) ys act m) (slOf t) hzE rfl rfl (by decide) (by rw [h1A, hins]; rfl) fun SZ hzZ bZ => ?_
        have czZ := hzZ.c
        simp (disch := omega) only [go_sem, simprocAttr, h8, czZ]
        exact gE.but bZ fun j hj => by simp [blkOf] at hj; omega
      · have hins : insA o6 m = { o6 with side := (if o6.at_ = (0, 0) then 1 else (absZ m.knows).tmod 2), char := 97 + (absZ m.kind).tmod 26 } := by
          unfold insA
          simp only
          rw [if_neg h5]
        simp (disch := omega) only [go_sem, simprocAttr, h5, h0, h1, h7, h8, h9]
        have cwB := hwB.c
        simp (disch := omega) only [go_sem, simprocAttr, h0, h1, h7, h8, h9, cwB, opC_len, opC_toList]
        refine wst_op (oneA (ps.map Prod.fst) ys act m) (slOf t) hzB rfl rfl (by decide) (by rw [h1A, hins]; rfl) fun SZ hzZ bZ => ?_
        have czZ := hzZ.c
        simp (disch := omega) only [go_sem, simprocAttr, h8, czZ]
        exact gB.but bZ fun j hj => by simp [blkOf] at hj; omega
    · have eqt : eqV [.i .i64, .i .i64] true (dotV o6.at_) (dotV (0, 0)) = some false := by rw [eqat, decide_eq_false hat]
      simp (disch := omega) only [go_sem, simprocAttr, h0, h1, h7, h8, h9, cwB, eqt, cxB]
      refine wJ_of (F.osierref08_abs_J (n := m.knows) mk) ?_; rintro _ _ ⟨rfl, rfl⟩
      simp (disch := omega) only [go_sem, simprocAttr, h0, h1, h7, h8, h9]
      refine wst_op { o6 with side := (if o6.at_ = (0, 0) then 1 else (absZ m.knows).tmod 2), char := 97 + (absZ m.kind).tmod 26 } (slOf t) hwB rfl rfl (by decide) (by rw [if_neg hat]; rfl) fun SC hwC bC => ?_
      have hxC := hxB.but bC (by simp [blkOf]; exact hwx)
      have hzC := hzB.but bC (by simp [blkOf]; exact hwz)
      have gC : S.Ext SC := gB.but bC fun j hj => by simp [blkOf] at hj; omega
      have cxC := hxC.c
      simp (disch := omega) only [go_sem, simprocAttr, h0, h1, h7, h8, h9, cxC]
      refine wJ_of (F.osierref08_abs_J (n := m.b) mb) ?_; rintro _ _ ⟨rfl, rfl⟩
      by_cases h5 : (absZ m.b).tmod 5 = 0
      · have hins : insA o6 m = { o6 with at_ := (0, 0), side := 1, char := 97 + (absZ m.kind).tmod 26 } := by
          unfold insA
          simp only
          rw [if_pos h5]
        simp (disch := omega) only [go_sem, simprocAttr, h5, h0, h1, h7, h8, h9]
        refine wst_op { o6 with at_ := (0, 0), side := (if o6.at_ = (0, 0) then 1 else (absZ m.knows).tmod 2), char := 97 + (absZ m.kind).tmod 26 } (slOf t) hwC rfl rfl (by decide) rfl fun SD hwD bD => ?_
        have hxD := hxC.but bD (by simp [blkOf]; exact hwx)
        have hzD := hzC.but bD (by simp [blkOf]; exact hwz)
        have gD : S.Ext SD := gC.but bD fun j hj => by simp [blkOf] at hj; omega
        simp (disch := omega) only [go_sem, simprocAttr, h0, h1, h7, h8, h9]
        refine wst_op { o6 with at_ := (0, 0), side := 1, char := 97 + (absZ m.kind).tmod 26 } (slOf t) hwD rfl rfl (by decide) rfl fun SE hwE bE => ?_
        have hxE := hxD.but bE (by simp [blkOf]; exact hwx)
        have hzE := hzD.but bE (by simp [blkOf]; exact hwz)
        have gE : S.Ext SE := gD.but bE fun j hj => by simp [blkOf] at hj; omega
        have cwE := hwE.c
        simp (disch := omega) only [go_sem, simprocAttr, h0, h1, h7, h8, h9, cwE, opC_len, opC_toList]
        refine wst_op (oneA (ps.map Prod.fst) ys act m) (slOf t) hzE rfl rfl (by decide) (by rw [h1A, hins]; rfl) fun SZ hzZ bZ => ?_
        have czZ := hzZ.c
        simp (disch := omega) only [go_sem, simprocAttr, h8, czZ]
        exact gE.but bZ fun j hj => by simp [blkOf] at hj; omega
      · have hins : insA o6 m = { o6 with side := (if o6.at_ = (0, 0) then 1 else (absZ m.knows).tmod 2), char := 97 + (absZ m.kind).tmod 26 } := by
          unfold insA
          simp only
          rw [if_neg h5]
        simp (disch := omega) only [go_sem, simprocAttr, h5, h0, h1, h7, h8, h9]
        have cwC := hwC.c
        simp (disch := omega) only [go_sem, simprocAttr, h0, h1, h7, h8, h9, cwC, opC_len, opC_toList]
        refine wst_op (oneA (ps.map Prod.fst) ys act m) (slOf t) hzC rfl rfl (by decide) (by rw [h1A, hins]; rfl) fun SZ hzZ bZ => ?_
        have czZ := hzZ.c
        simp (disch := omega) only [go_sem, simprocAttr, h8, czZ]
        exact gC.but bZ fun j hj => by simp [blkOf] at hj; omega
  · replace h1A : oneA (ps.map Prod.fst) ys act m = o6 := by rw [h1A]; simp only; rw [if_neg hk6]
    simp (disch := omega) only [go_sem, simprocAttr, hk6, opC_len, opC_toList, h0, h1, h7, h8, h9, cw7]
    refine wst_op (oneA (ps.map Prod.fst) ys act m) (slOf t) hz7 rfl rfl (by decide) (by rw [h1A]; rfl) fun SZ hzZ bZ => ?_
    have czZ := hzZ.c
    simp (disch := omega) only [go_sem, simprocAttr, h8, czZ]
    exact g7.but bZ fun j hj => by simp [blkOf] at hj; omega
end Go.Osj
