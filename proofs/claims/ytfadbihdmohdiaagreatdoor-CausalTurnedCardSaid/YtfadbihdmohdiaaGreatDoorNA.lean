/- The law CausalTurned. -/
import Derived.Test.YtfadbihdmohdiaaGreatDoorMK
import Derived.Test.YtfadbihdmohdiaaGreatDoorLC
set_option linter.unusedVariables false
set_option linter.unusedSimpArgs false
set_option maxHeartbeats 2000000
namespace Go.Osj
theorem SlT.i64 {S : St} {base : Option Addr} {n cap : Nat} {xs : List Int} (h : SlT intE S (.slice base n cap) xs) {i : Nat} (hi : i < xs.length) :
    ∃ b off, base = some ⟨b, off, none⟩ ∧ b < S.n ∧ S.cell ⟨b, off + i * 1, none⟩ = some (.int .i64 xs[i]) := by
  obtain ⟨b, off, h1, h2, h3, h4⟩ := h.at intE (i := i) (x := xs[i]) (by simp)
  exact ⟨b, off, h1, h2, h4 0 (by decide)⟩
theorem wst_own {α : Type} (E : Enc α) {S : St} {b cap : Nat} {zs : List α} {i : Nat} {y : α} {k : KV} (ho : S.obj b = some (.cells true cap (E.flat zs))) (hi : i < zs.length) (hc : zs.length * E.k ≤ cap)
    (hk : ∀ S', S'.obj b = some (.cells true cap (E.flat (zs.set i y))) → St.But (ptrV b) S S' → b < S'.n → k.run undef S') :
    @wst (.pointer (some ⟨b, i * E.k, none⟩)) (.agg (E.enc y).toArray) E.k S k := by
  have hle : i * E.k + E.k ≤ zs.length * E.k := by rw [← Nat.succ_mul]; exact Nat.mul_le_mul_right _ hi
  have e : (Value.agg (E.enc y).toArray).cells.toList = E.enc y := by simp [Value.cells]
  refine wst_w (E.flat (zs.set i y)) ho (by simp [Value.cells, E.len]) (by simpa [Value.cells] using E.one y) (by rw [E.flat_length]; omega) (by omega) ?_ hk
  rw [e, E.flat_set hi]
theorem load_own {α : Type} (E : Enc α) {S : St} {b cap : Nat} {rw : Bool} {zs : List α} (ho : S.obj b = some (.cells rw cap (E.flat zs))) {i : Nat} {x : α} (h : zs[i]? = some x) : S.loadN ⟨b, i * E.k, none⟩ E.k = some (E.enc x) := by
  have hi := (List.getElem?_eq_some_iff.1 h).1
  have hle : i * E.k + E.k ≤ zs.length * E.k := by rw [← Nat.succ_mul]; exact Nat.mul_le_mul_right _ hi
  rw [St.loadN_def, ho]
  simp only [E.flat_length]
  rw [if_pos hle, E.flat_at zs i x h]
theorem F.osierlaw08_CausalTurned.J {S : St} {l k : Value} {xs : List Mk} {ts : List Int} (hl : SlT mkE S l xs) (hX : xs.length < 9223372036854775808) (hI : ∀ m ∈ xs, mkI m) (hk : SlT intE S k ts) (hT : ts.length < 9223372036854775808) (hti : ∀ t ∈ ts, -9223372036854775808 ≤ t ∧ t ≤ 9223372036854775807) :
    J PR F.osierlaw08_CausalTurned [l, k] S fun v _ => v = .bool true := by
  obtain ⟨base, cap, rfl⟩ := hl.len mkE
  obtain ⟨bt, ct, rfl⟩ := hk.len intE
  refine J_by PR.mixed F.osierlaw08_CausalTurned.ok (by simp) ?_
  simp (disch := omega) only [go_sem, simprocAttr]
  refine wJ_of F.osierlaw08_awake_J ?_; rintro _ _ ⟨rfl, rfl⟩
  simp (disch := omega) only [go_sem, simprocAttr]
  refine wJ_of (F.osierref08_Story_J hl hX hI) ?_; rintro v S2 ⟨⟨ps, hps, hop, hdp⟩, e2⟩
  obtain ⟨G, -⟩ := story_good xs
  have hsl := story_len xs
  have hsd := story_deps xs
  rw [← hps] at G hsl hsd
  rw [List.length_map] at hsl
  have hD : ∀ p ∈ ps, p.1.deps.length < 20000 := fun p hp => by have := hsd p.1 (List.mem_map_of_mem hp); omega
  obtain ⟨bp, cp, hv⟩ := (hop.sl opE).len opE
  subst hv
  simp (disch := omega) only [go_sem, simprocAttr]
  refine wE_app opE (B := S2.n) (bytes := 136) (xs := []) (ys := ps) (OwnT.nil opE _ _) (hop.sl opE) rfl rfl (Nat.le_refl _) (by simp; omega) (by simp; omega) fun v3 S3 ho3 hb3 hv3 => ?_
  have g3 : S2.Ext S3 := ⟨hb3.n, fun i hi => hb3.obj i hi (by simp [blkOf])⟩
  rw [List.nil_append] at ho3
  simp (disch := omega) only [go_sem, simprocAttr]
  refine wC_at 0 (fun fr S4 => ∃ (ms : List OpR) (v : Value), ms.Perm ps ∧ fr 6 = .slice bp ps.length cp ∧ fr 7 = v ∧ OwnT opE S2.n S4 v ms ∧ S2.Ext S4) ?_ ?_
  · refine wC_loop (fun n fr S4 => ∃ (i : Nat) (ms : List OpR) (v : Value), n = ps.length - i ∧ i ≤ ps.length ∧ ms.Perm ps ∧ fr 1 = .slice bt ts.length ct ∧ fr 6 = .slice bp ps.length cp ∧ fr 7 = v ∧ fr 8 = .int .i64 (i : Nat) ∧ OwnT opE S2.n S4 v ms ∧ S2.Ext S4) ps.length
      ⟨0, ps, v3, by
        simp (disch := omega) only [go_sem, simprocAttr]
        repeat' first | assumption | omega | (exact St.Ext.refl _) | (exact List.Perm.refl _) | rfl | (exact .inl trivial) | (exact trivial) | refine And.intro ?_ ?_
        ⟩ ?_
    rintro n fr S4 ⟨i, ms, v, rfl, hi, hp, h1, h6, h7, h8, ho, g4⟩
    have hml := hp.length_eq
    rcases ho with ⟨rfl, rfl⟩ | ⟨c, kc, rfl, hBc, hcn, hck, hco⟩
    · simp at hml
      have d1 : ¬ ((i : Int) < 0) := by omega
      simp (disch := omega) only [go_sem, simprocAttr, F.osierlaw08_CausalTurned.l0, h1, h6, h7, h8, d1]
      refine ⟨[], nilS, ?_⟩
      have k0 : OwnT opE S2.n S4 nilS [] := OwnT.nil opE _ _
      repeat' first | assumption | omega | (exact St.Ext.refl _) | (exact List.Perm.refl _) | rfl | (exact .inl trivial) | (exact trivial) | refine And.intro ?_ ?_
    have hown : OwnT opE S2.n S4 (.slice (some ⟨c, 0, none⟩) ms.length kc) ms := .inr ⟨c, kc, rfl, hBc, hcn, hck, hco⟩
    simp (disch := omega) only [go_sem, simprocAttr, F.osierlaw08_CausalTurned.l0, h1, h6, h7, h8]
    by_cases hx : i < ms.length
    rotate_left
    · have d1 : ¬ ((i : Int) < (ms.length : Int)) := by omega
      simp (disch := omega) only [go_sem, simprocAttr, d1, h6, h7]
      refine ⟨ms, .slice (some ⟨c, 0, none⟩) ms.length kc, ?_⟩
      repeat' first | assumption | omega | (exact St.Ext.refl _) | (exact List.Perm.refl _) | rfl | (exact .inl trivial) | (exact trivial) | refine And.intro ?_ ?_
    have d1 : (i : Int) < (ms.length : Int) := by omega
    by_cases hxt : i < ts.length
    rotate_left
    · have d2 : ¬ ((i : Int) < (ts.length : Int)) := by omega
      simp (disch := omega) only [go_sem, simprocAttr, d1, d2, h1, h6, h7, h8]
      refine ⟨ms, .slice (some ⟨c, 0, none⟩) ms.length kc, ?_⟩
      repeat' first | assumption | omega | (exact St.Ext.refl _) | (exact List.Perm.refl _) | rfl | (exact .inl trivial) | (exact trivial) | refine And.intro ?_ ?_
    have d2 : (i : Int) < (ts.length : Int) := by omega
    have c1 : (0 : Int) ≤ (i : Int) ∧ (i : Int) < (ts.length : Int) := by omega
    have c2 : (0 : Int) ≤ (i : Int) ∧ (i : Int) < (ms.length : Int) := by omega
    obtain ⟨b, off, rfl, hb, lt⟩ := (hk.ext intE (e2.trans g4)).i64 hxt
    have hmz : ¬ ((ms.length : Int) = 0) := by omega
    have hti' := hti ts[i] (List.getElem_mem _)
    -- where it goes
    obtain ⟨j, hj, hjl⟩ : ∃ j : Nat, (if ts[i].tmod ms.length < 0 then 0 - ts[i].tmod ms.length else ts[i].tmod ms.length) = (j : Int) ∧ j < ms.length := by
      have h1 := Int.natAbs_tmod ts[i] ms.length
      refine ⟨(ts[i].tmod ms.length).natAbs, ?_, ?_⟩
      · split <;> omega
      · rw [h1]
        simp only [Int.natAbs_natCast]
        exact Nat.mod_lt _ (by omega)
    have c3 : (0 : Int) ≤ (j : Int) ∧ (j : Int) < (ms.length : Int) := by omega
    simp (disch := omega) only [go_sem, simprocAttr, d1, d2, c1, hmz, lt, h1, h6, h7, h8]
    generalize ts[i].tmod ms.length = r at *
    have hrr : -(100 : Int) ≤ r ∧ r ≤ 100 := by
      split at hj <;> omega
    have h0 : True := trivial
    refine wcond_dec (fun hneg => ?_) (fun hpos => ?_)
    · rw [if_pos hneg] at hj
      simp (disch := omega) only [go_sem, simprocAttr, hj, c2, c3, h1, h6, h7, h8]
      have li := load_own opE hco (i := i) (x := ms[i]) (List.getElem?_eq_getElem hx)
      replace li : S4.loadN ⟨c, i * 14, none⟩ 14 = some (opC ms[i].1 (slOf ms[i].2)) := li
      simp (disch := omega) only [go_sem, simprocAttr, li, opC_len, opC_toList]
      refine walloc_O fun y S5 e5 oy hyn => ?_
      simp (disch := omega) only [go_sem, simprocAttr]
      refine wst_op ms[i].1 (slOf ms[i].2) oy rfl rfl (by decide) rfl fun S6 oy6 b6 => ?_
      have hyc : y ≠ c := by omega
      have e6 : S4.Ext S6 := e5.but b6 fun q hq => by simp [blkOf] at hq; omega
      have hco6 := (e6.obj c hcn).trans hco
      have lj := load_own opE hco6 (i := j) (x := ms[j]) (List.getElem?_eq_getElem hjl)
      replace lj : S6.loadN ⟨c, j * 14, none⟩ 14 = some (opC ms[j].1 (slOf ms[j].2)) := lj
      simp (disch := omega) only [go_sem, simprocAttr, hj, c2, c3, h0, h1, h6, h7, h8, lj, opC_len, opC_toList]
      refine wst_own opE (i := i) (y := ms[j]) hco6 hx (Nat.mul_le_mul_right 14 hck) fun S7 ob7 b7 hc7 => ?_
      have ly := (oy6.but b7 (by simp [blkOf]; exact Ne.symm hyc)).c
      simp (disch := omega) only [go_sem, simprocAttr, hj, c2, c3, h0, h1, h6, h7, h8, ly, opC_len, opC_toList]
      refine wst_own opE (i := j) (y := ms[i]) ob7 (by rw [List.length_set]; exact hjl) (by rw [List.length_set]; exact Nat.mul_le_mul_right 14 hck) fun S8 ob8 b8 hc8 => ?_
      have hp8 : ((ms.set i ms[j]).set j ms[i]).Perm ms := List.set_set_perm hx hjl
      have hl8 := hp8.length_eq
      have g8 : S2.Ext S8 := ((g4.trans e6).but b7 fun q hq => by simp [blkOf] at hq; omega).but b8 fun q hq => by simp [blkOf] at hq; omega
      have ho8 : OwnT opE S2.n S8 (.slice (some ⟨c, 0, none⟩) ms.length kc) ((ms.set i ms[j]).set j ms[i]) := by
        rw [← hl8]
        exact .inr ⟨c, kc, rfl, hBc, hc8, by omega, ob8⟩
      have hp9 := hp8.trans hp
      simp (disch := omega) only [go_sem, simprocAttr, hj, h0, h1, h6, h7, h8]
      refine ⟨ps.length - (i + 1), by omega, i + 1, (ms.set i ms[j]).set j ms[i], .slice (some ⟨c, 0, none⟩) ms.length kc, ?_⟩
      repeat' first | assumption | omega | (exact St.Ext.refl _) | (exact List.Perm.refl _) | rfl | (exact .inl trivial) | (exact trivial) | refine And.intro ?_ ?_
    · rw [if_neg hpos] at hj
      subst hj
      simp (disch := omega) only [go_sem, simprocAttr, c2, c3, h1, h6, h7, h8]
      have li := load_own opE hco (i := i) (x := ms[i]) (List.getElem?_eq_getElem hx)
      replace li : S4.loadN ⟨c, i * 14, none⟩ 14 = some (opC ms[i].1 (slOf ms[i].2)) := li
      simp (disch := omega) only [go_sem, simprocAttr, li, opC_len, opC_toList]
      refine walloc_O fun y S5 e5 oy hyn => ?_
      simp (disch := omega) only [go_sem, simprocAttr]
      refine wst_op ms[i].1 (slOf ms[i].2) oy rfl rfl (by decide) rfl fun S6 oy6 b6 => ?_
      have hyc : y ≠ c := by omega
      have e6 : S4.Ext S6 := e5.but b6 fun q hq => by simp [blkOf] at hq; omega
      have hco6 := (e6.obj c hcn).trans hco
      have lj := load_own opE hco6 (i := j) (x := ms[j]) (List.getElem?_eq_getElem hjl)
      replace lj : S6.loadN ⟨c, j * 14, none⟩ 14 = some (opC ms[j].1 (slOf ms[j].2)) := lj
      simp (disch := omega) only [go_sem, simprocAttr, c2, c2, c3, h0, h1, h6, h7, h8, lj, opC_len, opC_toList]
      refine wst_own opE (i := i) (y := ms[j]) hco6 hx (Nat.mul_le_mul_right 14 hck) fun S7 ob7 b7 hc7 => ?_
      have ly := (oy6.but b7 (by simp [blkOf]; exact Ne.symm hyc)).c
      simp (disch := omega) only [go_sem, simprocAttr, c2, c2, c3, h0, h1, h6, h7, h8, ly, opC_len, opC_toList]
      refine wst_own opE (i := j) (y := ms[i]) ob7 (by rw [List.length_set]; exact hjl) (by rw [List.length_set]; exact Nat.mul_le_mul_right 14 hck) fun S8 ob8 b8 hc8 => ?_
      have hp8 : ((ms.set i ms[j]).set j ms[i]).Perm ms := List.set_set_perm hx hjl
      have hl8 := hp8.length_eq
      have g8 : S2.Ext S8 := ((g4.trans e6).but b7 fun q hq => by simp [blkOf] at hq; omega).but b8 fun q hq => by simp [blkOf] at hq; omega
      have ho8 : OwnT opE S2.n S8 (.slice (some ⟨c, 0, none⟩) ms.length kc) ((ms.set i ms[j]).set j ms[i]) := by
        rw [← hl8]
        exact .inr ⟨c, kc, rfl, hBc, hc8, by omega, ob8⟩
      have hp9 := hp8.trans hp
      simp (disch := omega) only [go_sem, simprocAttr, c2, h0, h1, h6, h7, h8]
      refine ⟨ps.length - (i + 1), by omega, i + 1, (ms.set i ms[j]).set j ms[i], .slice (some ⟨c, 0, none⟩) ms.length kc, ?_⟩
      repeat' first | assumption | omega | (exact St.Ext.refl _) | (exact List.Perm.refl _) | rfl | (exact .inl trivial) | (exact trivial) | refine And.intro ?_ ?_
  rintro fr S4 ⟨ms, v, hp, h6, h7, ho, g4⟩
  have hml := hp.length_eq
  obtain ⟨bv, cv, hv⟩ := (ho.sl opE).len opE
  subst hv
  have hpm : (ms.map Prod.fst).Perm (ps.map Prod.fst) := hp.map _
  have hdm : ∀ S', S2.Ext S' → DepsT S' ms := fun S' e p hpm => (hdp p (hp.mem_iff.1 hpm)).ext dotE e
  have hDm : ∀ p ∈ ms, p.1.deps.length < 20000 := fun p hpm => hD p (hp.mem_iff.1 hpm)
  simp (disch := omega) only [go_sem, simprocAttr, h6, h7]
  refine wJ_of (F.causal_Order_J ((hop.sl opE).ext opE g4) (hdp.ext g4) (by omega) hD) ?_; rintro _ S5 ⟨va, vb, pa, pb, rfl, ha, hb, hda, hdb, hoa, e5⟩
  rw [good_order G] at hoa
  obtain ⟨hoa1, hoa2⟩ := Prod.mk.inj hoa
  obtain rfl : pb = [] := by simpa using hoa2
  have hal : pa.length = ps.length := by
    have h1 := congrArg List.length hoa1
    have h2 := G.counted.length_eq
    simp only [List.length_map] at h1 h2
    omega
  simp (disch := omega) only [go_sem, simprocAttr, h6, h7]
  refine wJ_of (F.causal_Order_J ((ho.sl opE).ext opE e5) (hdm S5 (g4.trans e5)) (by omega) hDm) ?_; rintro _ S6 ⟨vc, vd, pc, pd, rfl, hc, hd, hdc, hdd, hoc, e6⟩
  rw [good_order (G.perm hpm), counted_perm G hpm] at hoc
  obtain ⟨hoc1, hoc2⟩ := Prod.mk.inj hoc
  obtain rfl : pd = [] := by simpa using hoc2
  have hDa : ∀ p ∈ pa, p.1.deps.length < 1000000 := fun p hp => by
    have h1 : p.1 ∈ countedA (ps.map Prod.fst) := by rw [← hoa1]; exact List.mem_map_of_mem hp
    obtain ⟨r, h2, h3⟩ := List.mem_map.1 (G.counted.mem_iff.1 h1)
    rw [← h3]
    have := hD r h2
    omega
  have ha6 := ha.ext opE e6
  obtain ⟨xa, ya, hva⟩ := ha.len opE
  obtain ⟨xb, yb, hvb⟩ := hb.len opE
  obtain ⟨xc, yc, hvc⟩ := hc.len opE
  obtain ⟨xd, yd, hvd⟩ := hd.len opE
  rw [hal] at hva
  change vb = .slice xb 0 yb at hvb
  change vd = .slice xd 0 yd at hvd
  subst hva hvb hvc hvd
  simp (disch := omega) only [go_sem, simprocAttr, h6, h7]
  refine wJ_of (F.osierref07_Rows_J ha6 hc (hda.ext e6) hdc (hoa1.trans hoc1.symm) (by omega) hDa) ?_; rintro _ _ ⟨rfl, rfl⟩
  simp (disch := omega) only [go_sem, simprocAttr, h6, h7]
  refine wJ_of (F.causal_Right_J ((ho.sl opE).ext opE (e5.trans e6)) (hdm _ (g4.trans (e5.trans e6))) (by omega) hDm) ?_; rintro _ _ ⟨⟨t, rfl, ht⟩, rfl⟩
  obtain rfl : t = true := ht.2 (G.perm hpm).right
  simp (disch := omega) only [go_sem, simprocAttr]
end Go.Osj
