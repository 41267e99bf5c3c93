/- The program is awake: layer 8. -/
import Derived.Test.YtfadbihdmohdiaaGreatDoorMJ
set_option linter.unusedVariables false
set_option linter.unusedSimpArgs false
set_option maxHeartbeats 4000000
namespace Go.Osj
def w1 : OpA := ⟨(1, 1), 1, [], 3, (1, 1), (0, 0), 0, 0, (0, -1), ⟨#[110]⟩⟩
def w2 : OpA := ⟨(1, 2), 2, [(1, 1)], 3, (1, 1), (0, 0), 0, 0, (0, -2), ⟨#[110]⟩⟩
/-- the dot (1, 1) in a block -/
def d11 (S : St) (d : Nat) : Prop := d < S.n ∧ S.obj d = some (.cells true 2 [.int .i64 1, .int .i64 1])
theorem d11.ext {S S' : St} {d : Nat} (h : d11 S d) (e : S.Ext S') : d11 S' d := ⟨Nat.lt_of_lt_of_le h.1 e.n, (e.obj d h.1).trans h.2⟩
theorem d11.c {S : St} {d : Nat} (h : d11 S d) : S.loadN ⟨d, 0, none⟩ 2 = some [.int .i64 1, .int .i64 1] := cells2 h.2
theorem aw8_1 : orderA [w2, w1] = ([w1, w2], []) := by kernel_rfl
theorem aw8_2 : orderA [w2] = ([], [w2]) := by kernel_rfl
theorem aw8_3 : frontA [w1, w2] = [(1, 2)] := by kernel_rfl
theorem aw8_4 : hasP w2.deps w1.id := by decide +kernel
theorem aw8_5 : rightA [w1, w2] := by
  have h : orderA [w1, w2] = ([w1, w2], []) := by kernel_rfl
  refine ⟨by rw [h], by decide +kernel⟩
theorem aw8_6 : readyA [] w2 = 31 := by decide +kernel
theorem F.osierlaw08_awake_J {S : St} : J PR F.osierlaw08_awake [] S fun v S' => v = .bool true ∧ S = S' := by
  refine J.back (J_by PR.mixed F.osierlaw08_awake.ok (by simp) ?_)
  refine wC_cut (fun fr S1 => S1 = S) (by simp (disch := omega) only [go_sem, simprocAttr]) ?_
  rintro fr S0 rfl
  refine wC_cut (fun fr S1 => ∃ d, fr 1 = ptrV d ∧ d11 S1 d ∧ S0.Ext S1) ?_ ?_
  · simp (disch := omega) only [go_sem, simprocAttr]
    refine walloc_x [.int .i64 0, .int .i64 0] fun d S1 e1 od hd hdn => ?_
    simp (disch := omega) only [go_sem, simprocAttr]
    refine wst_w [.int .i64 1, .int .i64 1] od rfl rfl (by simp) (by decide) rfl fun S2 od2 b2 hd2 => ?_
    simp (disch := omega) only [go_sem, simprocAttr]
    refine ⟨d, ?_⟩
    have k1 : d11 S2 d := ⟨hd2, od2⟩
    have k2 : S0.Ext S2 := e1.but b2 fun j hj => by simp [blkOf] at hj; omega
    repeat' first | assumption | omega | (exact St.Ext.refl _) | (exact List.Perm.refl _) | rfl | (exact .inl trivial) | (exact trivial) | refine And.intro ?_ ?_
  rintro fr S1 ⟨d, h1, d1, g1⟩
  have c1 := d1.c
  refine wC_cut (fun fr S2 => ∃ d x, fr 1 = ptrV d ∧ fr 2 = ptrV x ∧ d11 S2 d ∧ opB S2 x w1 nilS ∧ S0.Ext S2) ?_ ?_
  · simp (disch := omega) only [go_sem, simprocAttr, h1, c1]
    refine wI_alt ?_ ?_
    · simp (disch := omega) only [go_sem, simprocAttr, h1, c1]
      refine wJ_of F.api_Root_J ?_; rintro _ _ ⟨rfl, rfl⟩
      simp (disch := omega) only [go_sem, simprocAttr, h1, c1]
      refine walloc_O fun x S2 e2 hx hxn => ?_
      have c2 := (d1.ext e2).c
      simp (disch := omega) only [go_sem, simprocAttr, h1, c2]
      refine wst_op w1 nilS hx rfl rfl (by decide) rfl fun S3 hx3 b3 => ?_
      have e13 : S1.Ext S3 := e2.but b3 fun j hj => by simp [blkOf] at hj; omega
      simp (disch := omega) only [go_sem, simprocAttr, h1]
      refine ⟨d, x, ?_⟩
      have k1 := d1.ext e13
      have k2 := g1.trans e13
      repeat' first | assumption | omega | (exact St.Ext.refl _) | (exact List.Perm.refl _) | rfl | (exact .inl trivial) | (exact trivial) | refine And.intro ?_ ?_
    · simp (disch := omega) only [go_sem, simprocAttr, h1, c1]
      refine walloc_O fun x S2 e2 hx hxn => ?_
      have c2 := (d1.ext e2).c
      simp (disch := omega) only [go_sem, simprocAttr, h1, c2]
      refine wJ_of F.api_Root_J ?_; rintro _ _ ⟨rfl, rfl⟩
      simp (disch := omega) only [go_sem, simprocAttr, h1, c2]
      refine wst_op w1 nilS hx rfl rfl (by decide) rfl fun S3 hx3 b3 => ?_
      have e13 : S1.Ext S3 := e2.but b3 fun j hj => by simp [blkOf] at hj; omega
      simp (disch := omega) only [go_sem, simprocAttr, h1]
      refine ⟨d, x, ?_⟩
      have k1 := d1.ext e13
      have k2 := g1.trans e13
      repeat' first | assumption | omega | (exact St.Ext.refl _) | (exact List.Perm.refl _) | rfl | (exact .inl trivial) | (exact trivial) | refine And.intro ?_ ?_
  rintro fr S2 ⟨d, x, h1, h2, d2, hx2, g2⟩
  have c2 := d2.c
  refine wC_cut (fun fr S5 => ∃ d x y u, fr 1 = ptrV d ∧ fr 2 = ptrV x ∧ fr 3 = ptrV y ∧ d11 S5 d ∧ opB S5 x w1 nilS ∧ opB S5 y w2 (slOf (some ⟨u, 0, none⟩, 1, 1)) ∧ SlT dotE S5 (slOf (some ⟨u, 0, none⟩, 1, 1)) [(1, 1)] ∧ S0.Ext S5) ?_ ?_
  · simp (disch := omega) only [go_sem, simprocAttr, h1, h2, c2]
    refine wI_alt ?_ (wI_alt ?_ ?_)
    · simp (disch := omega) only [go_sem, simprocAttr, h1, h2, c2]
      refine walloc_sl [.int .i64 1, .int .i64 1] fun u SB eB ou hu hun => ?_
      have dSB := d2.ext eB
      have cSB := dSB.c
      simp (disch := omega) only [go_sem, simprocAttr, h1, h2, c2, cSB]
      refine wI_alt ?_ ?_
      · simp (disch := omega) only [go_sem, simprocAttr, h1, h2, c2]
        refine wJ_of F.api_Trash_J ?_; rintro _ _ ⟨rfl, rfl⟩
        simp (disch := omega) only [go_sem, simprocAttr, h1, h2, c2, cSB]
        refine walloc_O fun y SA eA hy hyn => ?_
        have dSA := dSB.ext eA
        have cSA := dSA.c
        have huy : u < y ∨ y < u := .inl (by have := hu; omega)
        simp (disch := omega) only [go_sem, simprocAttr, h1, h2, c2, cSA]
        have hyS : S2.n ≤ y := by have := eB.n; omega
        have huS : S2.n ≤ u := hun
        have hlt : SlT dotE SA (slOf (some ⟨u, 0, none⟩, 1, 1)) [(1, 1)] := SlT.ext dotE (⟨_, 1, rfl, Nat.le_refl _, .inr rfl, fun _ => ⟨u, 0, rfl, hu, by rw [St.loadN_def, ou]; rfl⟩⟩) eA
        refine wst_op w2 (slOf (some ⟨u, 0, none⟩, 1, 1)) hy rfl rfl (by decide) rfl fun S5 hy5 b5 => ?_
        have e25 : S2.Ext S5 := (eB.trans eA).but b5 fun j hj => by simp [blkOf] at hj; omega
        simp (disch := omega) only [go_sem, simprocAttr, h1, h2]
        refine ⟨d, x, y, u, rfl, rfl, rfl, d2.ext e25, hx2.ext e25, hy5, hlt.but dotE b5 (fun q hq => by simp [blkOf] at hq ⊢; omega), g2.trans e25⟩
      · simp (disch := omega) only [go_sem, simprocAttr, h1, h2, c2]
        refine walloc_O fun y SA eA hy hyn => ?_
        have dSA := dSB.ext eA
        have cSA := dSA.c
        have huy : u < y ∨ y < u := .inl (by have := hu; omega)
        simp (disch := omega) only [go_sem, simprocAttr, h1, h2, c2, cSA]
        refine wJ_of F.api_Trash_J ?_; rintro _ _ ⟨rfl, rfl⟩
        simp (disch := omega) only [go_sem, simprocAttr, h1, h2, c2, cSA]
        have hyS : S2.n ≤ y := by have := eB.n; omega
        have huS : S2.n ≤ u := hun
        have hlt : SlT dotE SA (slOf (some ⟨u, 0, none⟩, 1, 1)) [(1, 1)] := SlT.ext dotE (⟨_, 1, rfl, Nat.le_refl _, .inr rfl, fun _ => ⟨u, 0, rfl, hu, by rw [St.loadN_def, ou]; rfl⟩⟩) eA
        refine wst_op w2 (slOf (some ⟨u, 0, none⟩, 1, 1)) hy rfl rfl (by decide) rfl fun S5 hy5 b5 => ?_
        have e25 : S2.Ext S5 := (eB.trans eA).but b5 fun j hj => by simp [blkOf] at hj; omega
        simp (disch := omega) only [go_sem, simprocAttr, h1, h2]
        refine ⟨d, x, y, u, rfl, rfl, rfl, d2.ext e25, hx2.ext e25, hy5, hlt.but dotE b5 (fun q hq => by simp [blkOf] at hq ⊢; omega), g2.trans e25⟩
    · simp (disch := omega) only [go_sem, simprocAttr, h1, h2, c2]
      refine wJ_of F.api_Trash_J ?_; rintro _ _ ⟨rfl, rfl⟩
      simp (disch := omega) only [go_sem, simprocAttr, h1, h2, c2, c2]
      refine wI_alt ?_ ?_
      · simp (disch := omega) only [go_sem, simprocAttr, h1, h2, c2]
        refine walloc_sl [.int .i64 1, .int .i64 1] fun u SB eB ou hu hun => ?_
        have dSB := d2.ext eB
        have cSB := dSB.c
        simp (disch := omega) only [go_sem, simprocAttr, h1, h2, c2, cSB]
        refine walloc_O fun y SA eA hy hyn => ?_
        have dSA := dSB.ext eA
        have cSA := dSA.c
        have huy : u < y ∨ y < u := .inl (by have := hu; omega)
        simp (disch := omega) only [go_sem, simprocAttr, h1, h2, c2, cSA]
        have hyS : S2.n ≤ y := by have := eB.n; omega
        have huS : S2.n ≤ u := hun
        have hlt : SlT dotE SA (slOf (some ⟨u, 0, none⟩, 1, 1)) [(1, 1)] := SlT.ext dotE (⟨_, 1, rfl, Nat.le_refl _, .inr rfl, fun _ => ⟨u, 0, rfl, hu, by rw [St.loadN_def, ou]; rfl⟩⟩) eA
        refine wst_op w2 (slOf (some ⟨u, 0, none⟩, 1, 1)) hy rfl rfl (by decide) rfl fun S5 hy5 b5 => ?_
        have e25 : S2.Ext S5 := (eB.trans eA).but b5 fun j hj => by simp [blkOf] at hj; omega
        simp (disch := omega) only [go_sem, simprocAttr, h1, h2]
        refine ⟨d, x, y, u, rfl, rfl, rfl, d2.ext e25, hx2.ext e25, hy5, hlt.but dotE b5 (fun q hq => by simp [blkOf] at hq ⊢; omega), g2.trans e25⟩
      · simp (disch := omega) only [go_sem, simprocAttr, h1, h2, c2]
        refine walloc_O fun y SA eA hy hyn => ?_
        have dSA := d2.ext eA
        have cSA := dSA.c
        simp (disch := omega) only [go_sem, simprocAttr, h1, h2, c2, cSA]
        refine walloc_sl [.int .i64 1, .int .i64 1] fun u SB eB ou hu hun => ?_
        have dSB := dSA.ext eB
        have cSB := dSB.c
        have huy : u < y ∨ y < u := .inr (by have := hy.1; omega)
        simp (disch := omega) only [go_sem, simprocAttr, h1, h2, c2, cSB]
        have hyS : S2.n ≤ y := hyn
        have huS : S2.n ≤ u := by have := eA.n; omega
        have hlt : SlT dotE SB (slOf (some ⟨u, 0, none⟩, 1, 1)) [(1, 1)] := ⟨_, 1, rfl, Nat.le_refl _, .inr rfl, fun _ => ⟨u, 0, rfl, hu, by rw [St.loadN_def, ou]; rfl⟩⟩
        refine wst_op w2 (slOf (some ⟨u, 0, none⟩, 1, 1)) (hy.ext eB) rfl rfl (by decide) rfl fun S5 hy5 b5 => ?_
        have e25 : S2.Ext S5 := (eA.trans eB).but b5 fun j hj => by simp [blkOf] at hj; omega
        simp (disch := omega) only [go_sem, simprocAttr, h1, h2]
        refine ⟨d, x, y, u, rfl, rfl, rfl, d2.ext e25, hx2.ext e25, hy5, hlt.but dotE b5 (fun q hq => by simp [blkOf] at hq ⊢; omega), g2.trans e25⟩
    · simp (disch := omega) only [go_sem, simprocAttr, h1, h2, c2]
      refine walloc_O fun y SA eA hy hyn => ?_
      have dSA := d2.ext eA
      have cSA := dSA.c
      simp (disch := omega) only [go_sem, simprocAttr, h1, h2, c2, cSA]
      refine wI_alt ?_ ?_
      · simp (disch := omega) only [go_sem, simprocAttr, h1, h2, c2]
        refine walloc_sl [.int .i64 1, .int .i64 1] fun u SB eB ou hu hun => ?_
        have dSB := dSA.ext eB
        have cSB := dSB.c
        have huy : u < y ∨ y < u := .inr (by have := hy.1; omega)
        simp (disch := omega) only [go_sem, simprocAttr, h1, h2, c2, cSB]
        refine wJ_of F.api_Trash_J ?_; rintro _ _ ⟨rfl, rfl⟩
        simp (disch := omega) only [go_sem, simprocAttr, h1, h2, c2, cSB]
        have hyS : S2.n ≤ y := hyn
        have huS : S2.n ≤ u := by have := eA.n; omega
        have hlt : SlT dotE SB (slOf (some ⟨u, 0, none⟩, 1, 1)) [(1, 1)] := ⟨_, 1, rfl, Nat.le_refl _, .inr rfl, fun _ => ⟨u, 0, rfl, hu, by rw [St.loadN_def, ou]; rfl⟩⟩
        refine wst_op w2 (slOf (some ⟨u, 0, none⟩, 1, 1)) (hy.ext eB) rfl rfl (by decide) rfl fun S5 hy5 b5 => ?_
        have e25 : S2.Ext S5 := (eA.trans eB).but b5 fun j hj => by simp [blkOf] at hj; omega
        simp (disch := omega) only [go_sem, simprocAttr, h1, h2]
        refine ⟨d, x, y, u, rfl, rfl, rfl, d2.ext e25, hx2.ext e25, hy5, hlt.but dotE b5 (fun q hq => by simp [blkOf] at hq ⊢; omega), g2.trans e25⟩
      · simp (disch := omega) only [go_sem, simprocAttr, h1, h2, c2]
        refine wJ_of F.api_Trash_J ?_; rintro _ _ ⟨rfl, rfl⟩
        simp (disch := omega) only [go_sem, simprocAttr, h1, h2, c2, cSA]
        refine walloc_sl [.int .i64 1, .int .i64 1] fun u SB eB ou hu hun => ?_
        have dSB := dSA.ext eB
        have cSB := dSB.c
        have huy : u < y ∨ y < u := .inr (by have := hy.1; omega)
        simp (disch := omega) only [go_sem, simprocAttr, h1, h2, c2, cSB]
        have hyS : S2.n ≤ y := hyn
        have huS : S2.n ≤ u := by have := eA.n; omega
        have hlt : SlT dotE SB (slOf (some ⟨u, 0, none⟩, 1, 1)) [(1, 1)] := ⟨_, 1, rfl, Nat.le_refl _, .inr rfl, fun _ => ⟨u, 0, rfl, hu, by rw [St.loadN_def, ou]; rfl⟩⟩
        refine wst_op w2 (slOf (some ⟨u, 0, none⟩, 1, 1)) (hy.ext eB) rfl rfl (by decide) rfl fun S5 hy5 b5 => ?_
        have e25 : S2.Ext S5 := (eA.trans eB).but b5 fun j hj => by simp [blkOf] at hj; omega
        simp (disch := omega) only [go_sem, simprocAttr, h1, h2]
        refine ⟨d, x, y, u, rfl, rfl, rfl, d2.ext e25, hx2.ext e25, hy5, hlt.but dotE b5 (fun q hq => by simp [blkOf] at hq ⊢; omega), g2.trans e25⟩
  rintro fr S5 ⟨d, x, y, u, h1, h2, h3, d5, hx5, hy5, ht5, g5⟩
  have c5 := d5.c
  have cx5 := hx5.c
  have cy5 := hy5.c
  obtain ⟨t2, ht2⟩ : ∃ t2 : SlP, t2 = (some ⟨u, 0, none⟩, 1, 1) := ⟨_, rfl⟩
  have hnil : SlT dotE S5 (slOf (none, 0, 0)) [] := (OwnT.nil dotE 0 S5).sl dotE
  simp (disch := omega) only [go_sem, simprocAttr, h1, h2, h3, c5, cx5, cy5, opC, w1, w2]
  refine walloc_sl (opC w2 (slOf (some ⟨u, 0, none⟩, 1, 1)) ++ opC w1 nilS) fun z S6 e6 oz hz hzn => ?_
  have hp6 : SlT opE S6 (.slice (some ⟨z, 0, none⟩) 2 2) [(w2, (some ⟨u, 0, none⟩, 1, 1)), (w1, (none, 0, 0))] := ⟨_, 2, rfl, Nat.le_refl _, .inr rfl, fun _ => ⟨z, 0, rfl, hz, by rw [St.loadN_def, oz]; rfl⟩⟩
  have hd6 : ∀ S', S5.Ext S' → DepsT S' [(w2, (some ⟨u, 0, none⟩, 1, 1)), (w1, (none, 0, 0))] := fun S' e p hp => by
    rcases List.mem_cons.1 hp with rfl | hp
    · exact ht5.ext dotE e
    · obtain rfl : p = (w1, (none, 0, 0)) := by simpa using hp
      exact hnil.ext dotE e
  have hD6 : ∀ p ∈ [(w2, ((some ⟨u, 0, none⟩, 1, 1) : SlP)), (w1, (none, 0, 0))], p.1.deps.length < 20000 := fun p hp => by
    rcases List.mem_cons.1 hp with rfl | hp
    · show ([(1, 1)] : List Dot).length < 20000
      decide
    · obtain rfl : p = (w1, (none, 0, 0)) := by simpa using hp
      show ([] : List Dot).length < 20000
      decide
  simp (disch := omega) only [go_sem, simprocAttr]
  refine wJ_of (F.causal_Order_J hp6 (hd6 S6 e6) (by simp) hD6) ?_; rintro _ S7 ⟨va, vb, pa, pb, rfl, ha7, hb7, hda7, hdb7, ho7, e7⟩
  have e57 := e6.trans e7
  replace ho7 : (pa.map Prod.fst, pb.map Prod.fst) = ([w1, w2], []) := ho7.trans aw8_1
  obtain ⟨hpa, hpb⟩ := Prod.mk.inj ho7
  obtain ⟨ta, tb, rfl⟩ : ∃ ta tb, pa = [(w1, ta), (w2, tb)] := by
    rcases pa with _ | ⟨⟨a, ta⟩, _ | ⟨⟨b, tb⟩, _ | ⟨c, l⟩⟩⟩ <;> simp at hpa
    obtain ⟨rfl, rfl⟩ := hpa
    exact ⟨ta, tb, rfl⟩
  obtain rfl : pb = [] := by simpa using hpb
  have d7 := d5.ext e57
  have hx7 := hx5.ext e57
  have hy7 := hy5.ext e57
  have c7 := d7.c
  have cx7 := hx7.c
  have cy7 := hy7.c
  obtain ⟨ba, ca, hva⟩ := ha7.len opE
  obtain ⟨bb, cb, hvb⟩ := hb7.len opE
  change va = .slice ba 2 ca at hva
  change vb = .slice bb 0 cb at hvb
  subst hva hvb
  simp (disch := omega) only [go_sem, simprocAttr, h1, h2, h3, c7, cx7, cy7, opC, w1, w2]
  refine walloc_sl (opC w2 (slOf (some ⟨u, 0, none⟩, 1, 1))) fun z8 S8 e8 oz8 hz8 hzn8 => ?_
  have hp8 : SlT opE S8 (.slice (some ⟨z8, 0, none⟩) 1 1) [(w2, (some ⟨u, 0, none⟩, 1, 1))] := ⟨_, 1, rfl, Nat.le_refl _, .inr rfl, fun _ => ⟨z8, 0, rfl, hz8, by rw [St.loadN_def, oz8]; rfl⟩⟩
  have e58 := e57.trans e8
  simp (disch := omega) only [go_sem, simprocAttr]
  refine wJ_of (F.causal_Order_J hp8 (fun p hp => hd6 S8 e58 p (by simp at hp; simp [hp])) (by simp) (fun p hp => hD6 p (by simp at hp; simp [hp]))) ?_; rintro _ S9 ⟨vc, vd, pc, pd, rfl, hc9, hd9, hdc9, hdd9, ho9, e9⟩
  have e59 := e58.trans e9
  replace ho9 : (pc.map Prod.fst, pd.map Prod.fst) = ([], [w2]) := ho9.trans aw8_2
  obtain ⟨hpc, hpd⟩ := Prod.mk.inj ho9
  obtain ⟨td, rfl⟩ : ∃ td, pd = [(w2, td)] := by
    rcases pd with _ | ⟨⟨a, ta⟩, _ | ⟨b, l⟩⟩ <;> simp at hpd
    subst hpd
    exact ⟨ta, rfl⟩
  obtain rfl : pc = [] := by simpa using hpc
  have d9 := d5.ext e59
  have hx9 := hx5.ext e59
  have hy9 := hy5.ext e59
  have c9 := d9.c
  have cx9 := hx9.c
  have cy9 := hy9.c
  obtain ⟨bc, cc, hvc⟩ := hc9.len opE
  obtain ⟨bd, cd, hvd⟩ := hd9.len opE
  change vc = .slice bc 0 cc at hvc
  change vd = .slice bd 1 cd at hvd
  subst hvc hvd
  simp (disch := omega) only [go_sem, simprocAttr, h1, h2, h3, c9, cx9, cy9, opC, w1, w2]
  refine walloc_sl (opC w1 nilS ++ opC w2 (slOf (some ⟨u, 0, none⟩, 1, 1))) fun z10 S10 e10 oz10 hz10 hzn10 => ?_
  have hp10 : SlT opE S10 (.slice (some ⟨z10, 0, none⟩) 2 2) [(w1, (none, 0, 0)), (w2, (some ⟨u, 0, none⟩, 1, 1))] := ⟨_, 2, rfl, Nat.le_refl _, .inr rfl, fun _ => ⟨z10, 0, rfl, hz10, by rw [St.loadN_def, oz10]; rfl⟩⟩
  have e510 := e59.trans e10
  simp (disch := omega) only [go_sem, simprocAttr]
  refine wJ_of (F.causal_Frontier_J hp10 (fun p hp => hd6 S10 e510 p (by simp at hp; rcases hp with hp | hp <;> simp [hp])) (by simp) (fun p hp => hD6 p (by simp at hp; rcases hp with hp | hp <;> simp [hp]))) ?_; rintro vf S11 ⟨hf, e11⟩
  replace hf : OwnT dotE S10.n S11 vf [(1, 2)] := by
    have := hf
    rw [show frontA (([(w1, ((none, 0, 0) : SlP)), (w2, (some ⟨u, 0, none⟩, 1, 1))] : List OpR).map Prod.fst) = [(1, 2)] from aw8_3] at this
    exact this
  have e511 := e510.trans e11
  have e711 : S7.Ext S11 := ((e8.trans e9).trans e10).trans e11
  have d11' := d5.ext e511
  have hx11 := hx5.ext e511
  have hy11 := hy5.ext e511
  have c11 := d11'.c
  have cx11 := hx11.c
  have cy11 := hy11.c
  obtain ⟨bf, cf, hvf⟩ := (hf.sl dotE).len dotE
  change vf = .slice bf 1 cf at hvf
  subst hvf
  have ha11 := ha7.ext opE e711
  have hda11 := hda7.ext e711
  obtain ⟨bq, oq, rfl, hbq, ⟨q1, -⟩, -⟩ := ha11.op (i := 0) (by simp)
  obtain ⟨bg, og, rfl, hbg, -, -, f1⟩ := (hf.sl dotE).dotc (i := 0) (by simp)
  replace q1 : S11.loadN ⟨bq, oq, none⟩ 2 = some [.int .i64 1, .int .i64 1] := by simpa [w1] using q1
  replace f1 : S11.cell ⟨bg, og + 1, none⟩ = some (.int .i64 2) := by simpa using f1
  have eq1 : eqV [.i .i64, .i .i64] true (dotV (1, 1)) (dotV (1, 1)) = some true := by rw [eqV_dot]; rfl
  simp (disch := omega) only [go_sem, simprocAttr, h1, h2, h3, c11, cx11, cy11, q1, f1, eq1, opC_len, opC_toList]
  have ht11 : SlT dotE S11 (slOf (some ⟨u, 0, none⟩, 1, 1)) w2.deps := ht5.ext dotE e511
  refine wJ_of (F.causal_Ahead_J (a := w1) (b := w2) (da := nilS) ht11 (by decide)) ?_; rintro _ _ ⟨rfl, rfl⟩
  simp (disch := omega) only [go_sem, simprocAttr, aw8_4]
  refine wJ_of (F.causal_Right_J ha11 hda11 (by simp) (fun p hp => by
    simp only [List.mem_cons, List.not_mem_nil, or_false] at hp
    rcases hp with rfl | rfl
    · show ([] : List Dot).length < 20000
      decide
    · show ([(1, 1)] : List Dot).length < 20000
      decide)) ?_; rintro _ _ ⟨⟨t, rfl, ht⟩, rfl⟩
  obtain rfl : t = true := ht.2 aw8_5
  simp (disch := omega) only [go_sem, simprocAttr, h3, cy11, opC_len, opC_toList]
  refine wJ_of (F.causal_Ready_J (v := []) (o := w2) ((OwnT.nil dotE 0 S11).sl dotE) ht11 (by decide) (by decide)) ?_; rintro _ _ ⟨rfl, rfl⟩
  simp (disch := omega) only [go_sem, simprocAttr, aw8_6]
  exact g5.trans e511
end Go.Osj
