/- Stories: the walk. -/
import Derived.Test.YtfadbihdmohdiaaGreatDoorGD
set_option linter.unusedVariables false
set_option linter.unusedSimpArgs false
set_option maxHeartbeats 2000000
namespace Go.Osj
theorem learnA_snoc (l : List OpA) (o : OpA) (v : List Dot) : learnA (l ++ [o]) v = if belowP o.deps (learnA l v) then withV (learnA l v) o.id else learnA l v := by
  unfold learnA
  rw [List.foldl_append]
  rfl
theorem learnA_is {v : List Dot} (h : isV v) : ∀ l, isV (learnA l v) := by
  intro l
  unfold learnA
  induction l generalizing v with
  | nil => exact h
  | cons o l ih =>
    rw [List.foldl_cons]
    split
    · exact ih (withV_is h _)
    · exact ih h
theorem learnA_len (l : List OpA) : ∀ v, (learnA l v).length ≤ v.length + l.length := by
  unfold learnA
  induction l with
  | nil => exact fun v => Nat.le_refl _
  | cons o l ih =>
    intro v
    rw [List.foldl_cons, List.length_cons]
    split
    · have h1 := ih (withV v o.id)
      have h2 := withV_len v o.id
      omega
    · have h1 := ih v
      omega
theorem oneA_deps (l : List OpA) (v : List Dot) (act : Int) (m : Mk) : (oneA l v act m).deps = v := by
  unfold oneA
  simp only
  split
  · rfl
  · split
    · split
      · unfold insA; simp only; split <;> rfl
      · rfl
    · split
      · unfold insA; simp only; split <;> rfl
      · rfl
def TaleOk (s : Tale) (n : Nat) : Prop := s.out.length ≤ n ∧ (∀ w, isV (s.knows w) ∧ (s.knows w).length ≤ 100 * n) ∧ ∀ o ∈ s.out, mayO o ∧ o.deps.length ≤ 10000
theorem stepA_ok {s : Tale} {n : Nat} (h : TaleOk s n) (hn : n < 60) (m : Mk) : TaleOk (stepA s m) (n + 1) := by
  obtain ⟨h1, h2, h3⟩ := h
  unfold stepA
  simp only
  generalize hv : learnA (s.out.take ((absZ m.knows).tmod (s.out.length + 1)).toNat) (s.knows (whoA m)) = v
  have hvi : isV v := hv ▸ learnA_is (h2 _).1 _
  have hvl : v.length ≤ 100 * n + n := by
    have h4 := learnA_len (s.out.take ((absZ m.knows).tmod (s.out.length + 1)).toNat) (s.knows (whoA m))
    rw [hv, List.length_take] at h4
    have := (h2 (whoA m)).2
    omega
  have hdp := oneA_deps s.out v (actA (whoA m)) m
  generalize oneA s.out v (actA (whoA m)) m = o at *
  split
  · rename_i hm
    refine ⟨by simp only [List.length_append, List.length_singleton]; omega, fun w => ?_, fun o' ho => ?_⟩
    · simp only
      split
      · have := withV_len v o.id
        exact ⟨withV_is hvi _, by omega⟩
      · have := (h2 w).2
        exact ⟨(h2 w).1, by omega⟩
    · rcases List.mem_append.1 ho with ho | ho
      · exact h3 o' ho
      · obtain rfl : o' = o := by simpa using ho
        exact ⟨hm, by rw [hdp]; omega⟩
  · refine ⟨by simp only; omega, fun w => ?_, h3⟩
    simp only
    split
    · exact ⟨hvi, by omega⟩
    · have := (h2 w).2
      exact ⟨(h2 w).1, by omega⟩
def tale0 : Tale := ⟨[], fun _ => []⟩
theorem tale0_ok : TaleOk tale0 0 := ⟨Nat.le_refl _, fun _ => ⟨isV_nil, Nat.le_refl _⟩, fun o h => by simp [tale0] at h⟩
theorem tale_ok (l : List Mk) : ∀ i, i ≤ 60 → TaleOk ((l.take i).foldl stepA tale0) (l.take i).length := by
  intro i
  induction i with
  | zero => intro _; exact tale0_ok
  | succ i ih =>
    intro hi
    have h1 := ih (by omega)
    by_cases hl : i < l.length
    · rw [take_snoc (List.getElem?_eq_getElem hl), List.foldl_append, List.length_append]
      exact stepA_ok h1 (by rw [List.length_take]; omega) _
    · rw [List.take_of_length_le (by omega)] at h1 ⊢
      exact h1
theorem SlT.mk6 {S : St} {base : Option Addr} {n cap : Nat} {xs : List Mk} (h : SlT mkE S (.slice base n cap) xs) {i : Nat} (hi : i < xs.length) :
    ∃ b off, base = some ⟨b, off, none⟩ ∧ b < S.n ∧ S.loadN ⟨b, off + i * 6, none⟩ 6 = some (mkC xs[i]) := by
  obtain ⟨b, off, h1, h2, h3, h4⟩ := h.at mkE (i := i) (x := xs[i]) (by simp)
  exact ⟨b, off, h1, h2, h3⟩
theorem F.osierref08_Story_J {S : St} {l : Value} {xs : List Mk} (hl : SlT mkE S l xs) (hX : xs.length < 9223372036854775808) (hI : ∀ m ∈ xs, mkI m) :
    J PR F.osierref08_Story [l] S fun v S' => (∃ ps, ps.map Prod.fst = storyA xs ∧ OwnT opE S.n S' v ps ∧ DepsT S' ps) ∧ S.Ext S' := by
  obtain ⟨base, cap, rfl⟩ := hl.len mkE
  refine J_by PR.mixed F.osierref08_Story.ok (by simp) ?_
  simp (disch := omega) only [go_sem, simprocAttr]
  refine walloc_x [nilS, nilS, nilS, nilS] fun kb S1 e1 okb hkb hkbn => ?_
  have T1 : StoT S1 S.n kb nilS (fun _ => (none, 0, 0)) [] tale0 := ⟨rfl, OwnT.nil opE _ _, okb, hkb, hkbn, by simp [nilS, blkOf], fun i _ => ⟨(OwnT.nil dotE 0 _).sl dotE, fun j hj => by simp [blkOf] at hj⟩, fun p hp => by simp at hp⟩
  simp (disch := omega) only [go_sem, simprocAttr]
  refine wC_at 0 (fun fr S2 => ∃ (vo : Value) (tv : Nat → SlP) (ps : List (OpA × SlP)), fr 3 = vo ∧ StoT S2 S.n kb vo tv ps (taleA xs) ∧ S.Ext S2) ?_ ?_
  · refine wC_loop (fun n fr S2 => ∃ (i : Nat) (vo : Value) (tv : Nat → SlP) (ps : List (OpA × SlP)), n = 60 - i ∧ i ≤ 60 ∧ i ≤ xs.length ∧ fr 0 = .slice base xs.length cap ∧ fr 3 = vo ∧ fr 4 = ptrV kb ∧ fr 5 = .int .i64 (i : Nat) ∧ StoT S2 S.n kb vo tv ps ((xs.take i).foldl stepA tale0) ∧ S.Ext S2) 60
      ⟨0, nilS, fun _ => (none, 0, 0), [], by
        have T1 : StoT S1 S.n kb nilS (fun _ => (none, 0, 0)) [] ((xs.take 0).foldl stepA tale0) := T1
        simp (disch := omega) only [go_sem, simprocAttr]
        repeat' first | assumption | omega | (exact St.Ext.refl _) | (exact List.Perm.refl _) | rfl | (exact .inl trivial) | (exact trivial) | refine And.intro ?_ ?_
        ⟩ ?_
    rintro n fr S2 ⟨i, vo, tv, ps, rfl, hi, hix, h0, h3, h4, h5, T2, g2⟩
    simp (disch := omega) only [go_sem, simprocAttr, F.osierref08_Story.l1, h0, h3, h4, h5]
    by_cases hx : i < xs.length
    rotate_left
    · have d1 : ¬ ((i : Int) < (xs.length : Int)) := by omega
      have he : (xs.take i).foldl stepA tale0 = taleA xs := by
        show _ = (xs.take 60).foldl stepA tale0
        rw [List.take_of_length_le (by omega), List.take_of_length_le (by omega)]
      rw [he] at T2
      simp (disch := omega) only [go_sem, simprocAttr, d1, h3]
      refine ⟨vo, tv, ps, ?_⟩
      repeat' first | assumption | omega | (exact St.Ext.refl _) | (exact List.Perm.refl _) | rfl | (exact .inl trivial) | (exact trivial) | refine And.intro ?_ ?_
    have d1 : (i : Int) < (xs.length : Int) := by omega
    by_cases hx60 : i < 60
    rotate_left
    · have d2 : ¬ ((i : Int) < 60) := by omega
      have he : (xs.take i).foldl stepA tale0 = taleA xs := by rw [show i = 60 by omega]; rfl
      rw [he] at T2
      simp (disch := omega) only [go_sem, simprocAttr, d1, d2, h3, h5]
      refine ⟨vo, tv, ps, ?_⟩
      repeat' first | assumption | omega | (exact St.Ext.refl _) | (exact List.Perm.refl _) | rfl | (exact .inl trivial) | (exact trivial) | refine And.intro ?_ ?_
    have d2 : (i : Int) < 60 := by omega
    have c1 : (0 : Int) ≤ (i : Int) ∧ (i : Int) < (xs.length : Int) := by omega
    obtain ⟨b0, o0, rfl, hb0, x1⟩ := (hl.ext mkE g2).mk6 hx
    have hmI : mkI xs[i] := hI _ (List.getElem_mem hx)
    have hok := tale_ok xs i (by omega)
    have hnext : (xs.take (i + 1)).foldl stepA tale0 = stepA ((xs.take i).foldl stepA tale0) xs[i] := by
      rw [take_snoc (List.getElem?_eq_getElem hx), List.foldl_append]
      rfl
    rw [List.length_take] at hok
    generalize (xs.take i).foldl stepA tale0 = s at *
    generalize xs[i] = m at *
    simp (disch := omega) only [go_sem, simprocAttr, d1, d2, c1, h0, h3, h4, h5, x1]
    refine walloc_x (mkC ⟨0, 0, 0, 0, 0, ⟨#[]⟩⟩) fun x S3 e3 ox hxl hxn => ?_
    simp (disch := omega) only [go_sem, simprocAttr]
    refine wst_w (mkC m) ox rfl rfl (by simp [mkC]) (by decide) rfl fun S4 ox4 b4 hx4 => ?_
    have e4 : S2.Ext S4 := e3.but b4 fun j hj => by simp [blkOf] at hj; omega
    have T4 := T2.ext e4
    have g4 := g2.trans e4
    have hxm : mkB S4 x m := ⟨hx4, ox4⟩
    have hxkb : x ≠ kb := by have := T2.lt; omega
    have hxvo : blkOf vo ≠ some x := fun h => by have := (T2.own.blk opE x h).2; omega
    have cx4 := hxm.c
    obtain ⟨mi1, mi2, -⟩ := id hmI
    simp (disch := omega) only [go_sem, simprocAttr, h0, h3, h4, h5, cx4]
    refine wJ_of (F.osierref08_abs_J (n := m.act) mi1) ?_; rintro _ _ ⟨rfl, rfl⟩
    obtain ⟨w, hw⟩ : ∃ w, w = whoA m := ⟨_, rfl⟩
    have hw4 := tmod_rng (n := 4) (absZ_nonneg m.act) (by decide)
    have hwz : (absZ m.act).tmod 4 = (w : Int) := by rw [hw]; exact (Int.toNat_of_nonneg hw4.1).symm
    have hwl : w < 4 := by omega
    simp (disch := omega) only [go_sem, simprocAttr, h0, h3, h4, h5, cx4, hwz]
    refine wJ_of (F.osierref08_abs_J (n := m.knows) mi2) ?_; rintro _ _ ⟨rfl, rfl⟩
    have hlen : ps.length = s.out.length := by rw [← T2.out, List.length_map]
    obtain ⟨bv, cv, hv⟩ := (T4.own.sl opE).len opE
    obtain ⟨kn, hkn, hknl⟩ := tmod_nat (a := absZ m.knows) (n := ps.length + 1) (absZ_nonneg _) (by omega)
    have hkn' : (absZ m.knows).tmod ((ps.length : Int) + 1) = (kn : Int) := hkn
    have hps1 : ¬ ((ps.length : Int) + 1 = 0) := by omega
    have hps := hok.1
    subst hv
    simp (disch := omega) only [go_sem, simprocAttr, h0, h3, h4, h5, hwz, hkn', hps1]
    have hkA : ((absZ m.knows).tmod ((s.out.length : Int) + 1)).toNat = kn := by rw [← hlen, hkn']; rfl
    have hi0 : ∀ k, isV (learnA (s.out.take k) (s.knows w)) ∧ (learnA (s.out.take k) (s.knows w)).length ≤ 100 * i + i := fun k => by
      have h1 := learnA_len (s.out.take k) (s.knows w)
      rw [List.length_take] at h1
      have h2 := hok.2.1 w
      exact ⟨learnA_is h2.1 _, by omega⟩
    have c2 : (0 : Int) ≤ (w : Int) ∧ (w : Int) < 4 := by omega
    refine wC_at 2 (fun fr S5 => ∃ tv' : Nat → SlP, fr 0 = .slice (some ⟨b0, o0, none⟩) xs.length cap ∧ fr 3 = .slice bv ps.length cv ∧ fr 4 = ptrV kb ∧ fr 5 = .int .i64 (i : Nat) ∧ fr 6 = ptrV x ∧ fr 7 = .int .i64 (w : Nat) ∧ StoT S5 S.n kb (.slice bv ps.length cv) tv' ps ⟨s.out, setT s.knows w (learnA (s.out.take kn) (s.knows w))⟩ ∧ mkB S5 x m ∧ S.Ext S5) ?_ ?_
    · refine wC_loop (fun n fr S5 => ∃ (k : Nat) (tv' : Nat → SlP), n = kn - k ∧ k ≤ kn ∧ fr 0 = .slice (some ⟨b0, o0, none⟩) xs.length cap ∧ fr 3 = .slice bv ps.length cv ∧ fr 4 = ptrV kb ∧ fr 5 = .int .i64 (i : Nat) ∧ fr 6 = ptrV x ∧ fr 7 = .int .i64 (w : Nat) ∧ fr 8 = .int .i64 (kn : Nat) ∧ fr 9 = .int .i64 (k : Nat) ∧ StoT S5 S.n kb (.slice bv ps.length cv) tv' ps ⟨s.out, setT s.knows w (learnA (s.out.take k) (s.knows w))⟩ ∧ mkB S5 x m ∧ S.Ext S5) kn
        ⟨0, tv, by
          have k0 : StoT S4 S.n kb (.slice bv ps.length cv) tv ps ⟨s.out, setT s.knows w (learnA (s.out.take 0) (s.knows w))⟩ := by
            have e : setT s.knows w (learnA (s.out.take 0) (s.knows w)) = s.knows := by
              funext q
              unfold setT
              split
              · rename_i hq; rw [hq]; rfl
              · rfl
            rw [e]
            exact T4
          simp (disch := omega) only [go_sem, simprocAttr, h0, h4, h5]
          repeat' first | assumption | omega | (exact St.Ext.refl _) | (exact List.Perm.refl _) | rfl | (exact .inl trivial) | (exact trivial) | refine And.intro ?_ ?_
          ⟩ ?_
      rintro n fr S5 ⟨k, tv', rfl, hk, h0, h3, h4, h5, h6, h7, h8, h9, T5, hx5, g5⟩
      simp (disch := omega) only [go_sem, simprocAttr, F.osierref08_Story.l0, h0, h3, h4, h5, h6, h7, h8, h9]
      refine wcond_dec (fun hlt => ?_) (fun hge => ?_)
      rotate_left
      · obtain rfl : k = kn := by omega
        simp (disch := omega) only [go_sem, simprocAttr, h0, h3, h4, h5, h6, h7]
        refine ⟨tv', ?_⟩
        repeat' first | assumption | omega | (exact St.Ext.refl _) | (exact List.Perm.refl _) | rfl | (exact .inl trivial) | (exact trivial) | refine And.intro ?_ ?_
      have hkl : k < ps.length := by omega
      have c3 : (0 : Int) ≤ (k : Int) ∧ (k : Int) < (ps.length : Int) := by omega
      have hlb : ∃ b off, bv = some ⟨b, off, none⟩ ∧ ∀ S', S5.Ext S' → (S'.loadN ⟨b, off + k * 14, none⟩ 2 = some [.int .i64 ps[k].1.id.1, .int .i64 ps[k].1.id.2] ∧ S'.cell ⟨b, off + k * 14 + 3, none⟩ = some (slOf ps[k].2)) := by
        obtain ⟨b, off, hb, -, -, -⟩ := (T5.own.sl opE).op hkl
        refine ⟨b, off, hb, fun S' e => ?_⟩
        obtain ⟨b', off', hb', -, ⟨x1, -, x3, -⟩, -⟩ := ((T5.own.sl opE).ext opE e).op hkl
        rw [hb] at hb'
        injection hb' with hb'
        injection hb' with hb1 hb2
        subst hb1 hb2
        exact ⟨x1, x3⟩
      obtain ⟨b, off, rfl, hld⟩ := hlb
      obtain ⟨y1, y3⟩ := hld S5 (St.Ext.refl S5)
      have hdk := (T5.dp ps[k] (List.getElem_mem hkl)).1
      have hkn5 := T5.kn w hwl
      simp only [setT_same] at hkn5
      have ck := T5.cell1 hwl
      have hdl : ps[k].1.deps.length ≤ 10000 := (hok.2.2 _ (by rw [← T2.out]; exact List.mem_map_of_mem (List.getElem_mem hkl))).2
      have hos : s.out[k]? = some ps[k].1 := by rw [← T2.out, List.getElem?_map, List.getElem?_eq_getElem hkl]; rfl
      have hsn := learnA_snoc (s.out.take k) ps[k].1 (s.knows w)
      rw [← take_snoc hos] at hsn
      obtain ⟨hvi, hvl⟩ := hi0 k
      generalize learnA (s.out.take k) (s.knows w) = V at *
      generalize ps[k].1 = o at *
      simp (disch := omega) only [go_sem, simprocAttr, h0, h3, h4, h5, h6, h7, h8, h9, c2, c3, y1, y3, ck]
      refine wJ_of (F.osierref04_Below_J hdk hkn5.1 (by omega) (by omega)) ?_; rintro _ _ ⟨rfl, rfl⟩
      by_cases hbel : belowP o.deps V
      rotate_left
      · rw [if_neg hbel] at hsn
        simp (disch := omega) only [go_sem, simprocAttr, hbel, h0, h3, h4, h5, h6, h7, h8, h9]
        refine ⟨kn - (k + 1), by omega, k + 1, tv', ?_⟩
        rw [hsn]
        repeat' first | assumption | omega | (exact St.Ext.refl _) | (exact List.Perm.refl _) | rfl | (exact .inl trivial) | (exact trivial) | refine And.intro ?_ ?_
      rw [if_pos hbel] at hsn
      simp (disch := omega) only [go_sem, simprocAttr, hbel, h0, h3, h4, h5, h6, h7, h8, h9, c2, c3, y1, y3, ck]
      refine wJ_of (F.osierref04_With_O (d := o.id) hkn5.1 hvi (by omega)) ?_; rintro v6 S6 ⟨hv6, e6⟩
      obtain ⟨t6, rfl, ht6, hb6⟩ := T5.fresh hwl (by simpa only [setT_same] using hv6) e6
      have T6 := T5.ext e6
      simp (disch := omega) only [go_sem, simprocAttr, h4, h7, c2]
      refine T6.wst_kn hwl ht6 hb6 fun S7 T7 b7 => ?_
      simp only [setT_set] at T7
      rw [← hsn] at T7
      have hx7 := (hx5.ext e6).but b7 (by simp [blkOf]; exact Ne.symm hxkb)
      have g7 : S.Ext S7 := (g5.trans e6).but b7 fun j hj => by simp [blkOf] at hj; omega
      simp (disch := omega) only [go_sem, simprocAttr, h0, h3, h4, h5, h6, h7, h8, h9]
      refine ⟨kn - (k + 1), by omega, k + 1, setT tv' w t6, ?_⟩
      repeat' first | assumption | omega | (exact St.Ext.refl _) | (exact List.Perm.refl _) | rfl | (exact .inl trivial) | (exact trivial) | refine And.intro ?_ ?_
    rintro fr S5 ⟨tv', h0, h3, h4, h5, h6, h7, T5, hx5, g5⟩
    have hV := hi0 kn
    have hkA' : learnA (s.out.take ((absZ m.knows).tmod ((s.out.length : Int) + 1)).toNat) (s.knows w) = learnA (s.out.take kn) (s.knows w) := by rw [hkA]
    have hst : stepA s m = (if mayO (oneA s.out (learnA (s.out.take kn) (s.knows w)) (actA w) m) then ⟨s.out ++ [oneA s.out (learnA (s.out.take kn) (s.knows w)) (actA w) m], setT s.knows w (withV (learnA (s.out.take kn) (s.knows w)) (oneA s.out (learnA (s.out.take kn) (s.knows w)) (actA w) m).id)⟩ else ⟨s.out, setT s.knows w (learnA (s.out.take kn) (s.knows w))⟩) := by
      unfold stepA
      simp only [← hw, hkA']
      rfl
    have hkn5 := T5.kn w hwl
    simp only [setT_same] at hkn5
    have hod := oneA_deps s.out (learnA (s.out.take kn) (s.knows w)) (actA w) m
    generalize learnA (s.out.take kn) (s.knows w) = V at *
    have ck := T5.cell1 hwl
    have cx5 := hx5.c
    simp (disch := omega) only [go_sem, simprocAttr, h0, h3, h4, h5, h6, h7, c2, ck, cx5, mkC_len, mkC_toList]
    have htm : ∀ p ∈ ps, p.1.time ≤ 1099511627776 := fun p hp => (hok.2.2 p.1 (by rw [← T2.out]; exact List.mem_map_of_mem hp)).1.1.2.2.1
    have hone : ∀ S', S5.Ext S' → J PR F.osierref08_one [.slice bv ps.length cv, slOf (tv' w), .int .i64 (1 + (w : Int) * 256), mkV m] S' fun v S'' => v = opV (oneA s.out V (actA w) m) (slOf (tv' w)) ∧ S'.Ext S'' := fun S' e => by
      have := F.osierref08_one_J (t := tv' w) (act := 1 + (w : Int) * 256) ((T5.own.sl opE).ext opE e) (hkn5.1.ext dotE e) hV.1 hmI (by omega) (by omega) htm
      rw [T5.out] at this
      exact this
    generalize oneA s.out V (actA w) m = o at *
    have hpl : ps.length < 60 := by omega
    refine wI_alt ?_ ?_
    · simp (disch := omega) only [go_sem, simprocAttr]
      refine wJ_of (hone S5 (St.Ext.refl _)) ?_; rintro _ S6 ⟨rfl, e6⟩
      simp (disch := omega) only [go_sem, simprocAttr]
      refine walloc_O fun y S7 e7 hy7 hyn => ?_
      simp (disch := omega) only [go_sem, simprocAttr]
      refine wst_op o (slOf (tv' w)) hy7 rfl rfl (by decide) rfl fun S8 hy8 b8 => ?_
      have g58 : S5.Ext S8 := (e6.trans e7).but b8 fun j hj => by simp [blkOf] at hj; have := e6.n; omega
      have hy5 : S5.n ≤ y := by have := e6.n; omega
      have T8 := T5.ext g58
      have g8 := g5.trans g58
      have hyvo : blkOf (.slice bv ps.length cv) ≠ some y := fun h => by have := (T5.own.blk opE y h).2; omega
      have hykb : y ≠ kb := by have := T5.lt; omega
      have cy8 := hy8.c
      have hkn8 := T8.kn w hwl
      simp only [setT_same] at hkn8
      simp (disch := omega) only [go_sem, simprocAttr, h0, h3, h4, h5, h7, cy8, opC_len, opC_toList]
      refine wJ_of (F.osierref07_Check_J (o := o) (dv := slOf (tv' w)) (by rw [hod]; exact hkn8.1) (by rw [hod]; omega)) ?_; rintro _ _ ⟨rfl, rfl⟩
      by_cases hmay : mayO o
      rotate_left
      · rw [if_neg hmay] at hst
        simp (disch := omega) only [go_sem, simprocAttr, hmay, h0, h3, h4, h5]
        refine ⟨60 - (i + 1), by omega, i + 1, .slice bv ps.length cv, tv', ps, ?_⟩
        rw [hnext, hst]
        repeat' first | assumption | omega | (exact St.Ext.refl _) | (exact List.Perm.refl _) | rfl | (exact .inl trivial) | (exact trivial) | refine And.intro ?_ ?_
      rw [if_pos hmay] at hst
      simp (disch := omega) only [go_sem, simprocAttr, hmay, h0, h3, h4, h5, h7, cy8, opC_len, opC_toList]
      refine walloc_sl (opC o (slOf (tv' w))) fun u S9 e9 ou hu hun => ?_
      simp (disch := omega) only [go_sem, simprocAttr, h3]
      have T9 := T8.ext e9
      have hlit : SlT opE S9 (.slice (some ⟨u, 0, none⟩) 1 1) [(o, tv' w)] := ⟨_, 1, rfl, Nat.le_refl _, .inr rfl, fun _ => ⟨u, 0, rfl, hu, by rw [St.loadN_def, ou]; rfl⟩⟩
      have hkn9 := T9.kn w hwl
      simp only [setT_same] at hkn9
      refine wE_app opE (bytes := 136) (xs := ps) (ys := [(o, tv' w)]) T9.own hlit rfl rfl (Nat.le_trans g8.n e9.n) (by simp only [List.length_singleton]; omega) (by simp only [List.length_singleton]; omega) fun v10 S10 ho10 hb10 hv10 => ?_
      have T10 := T9.push (o := o) (t := tv' w) hb10 ho10 hv10 (by rw [hod]; exact hkn9.1) hkn9.2
      have hy10 := (hy8.ext e9).but hb10 hyvo
      have cy10 := hy10.c
      have ck10 := T10.cell1 hwl
      have hkn10 := T10.kn w hwl
      simp only [setT_same] at hkn10
      have g10 : S.Ext S10 := (g8.trans e9).but hb10 fun j hj => (T9.own.blk opE j hj).1
      simp (disch := omega) only [go_sem, simprocAttr, h0, h4, h5, h7, c2, cy10, ck10]
      refine wJ_of (F.osierref04_With_O (d := o.id) hkn10.1 hV.1 (by omega)) ?_; rintro v11 S11 ⟨hv11, e11⟩
      obtain ⟨t11, rfl, ht11, hb11⟩ := T10.fresh hwl (by simpa only [setT_same] using hv11) e11
      have T11 := T10.ext e11
      simp (disch := omega) only [go_sem, simprocAttr, h4, h7, c2]
      refine T11.wst_kn hwl ht11 hb11 fun S12 T12 b12 => ?_
      simp only [setT_set] at T12
      have g12 : S.Ext S12 := (g10.trans e11).but b12 fun j hj => by simp [blkOf] at hj; omega
      simp (disch := omega) only [go_sem, simprocAttr, h0, h4, h5]
      refine ⟨60 - (i + 1), by omega, i + 1, v10, setT tv' w t11, ps ++ [(o, tv' w)], ?_⟩
      rw [hnext, hst]
      repeat' first | assumption | omega | (exact St.Ext.refl _) | (exact List.Perm.refl _) | rfl | (exact .inl trivial) | (exact trivial) | refine And.intro ?_ ?_
    · simp (disch := omega) only [go_sem, simprocAttr]
      refine walloc_O fun y S7 e7 hy7 hyn => ?_
      have ck7 := (T5.ext e7).cell1 hwl
      have cx7 := (hx5.ext e7).c
      simp (disch := omega) only [go_sem, simprocAttr, ck7, cx7, mkC_toList]
      refine wJ_of (hone S7 e7) ?_; rintro _ S6 ⟨rfl, e6⟩
      simp (disch := omega) only [go_sem, simprocAttr]
      refine wst_op o (slOf (tv' w)) (hy7.ext e6) rfl rfl (by decide) rfl fun S8 hy8 b8 => ?_
      have g58 : S5.Ext S8 := (e7.trans e6).but b8 fun j hj => by simp [blkOf] at hj; omega
      have hy5 : S5.n ≤ y := hyn
      have T8 := T5.ext g58
      have g8 := g5.trans g58
      have hyvo : blkOf (.slice bv ps.length cv) ≠ some y := fun h => by have := (T5.own.blk opE y h).2; omega
      have hykb : y ≠ kb := by have := T5.lt; omega
      have cy8 := hy8.c
      have hkn8 := T8.kn w hwl
      simp only [setT_same] at hkn8
      simp (disch := omega) only [go_sem, simprocAttr, h0, h3, h4, h5, h7, cy8, opC_len, opC_toList]
      refine wJ_of (F.osierref07_Check_J (o := o) (dv := slOf (tv' w)) (by rw [hod]; exact hkn8.1) (by rw [hod]; omega)) ?_; rintro _ _ ⟨rfl, rfl⟩
      by_cases hmay : mayO o
      rotate_left
      · rw [if_neg hmay] at hst
        simp (disch := omega) only [go_sem, simprocAttr, hmay, h0, h3, h4, h5]
        refine ⟨60 - (i + 1), by omega, i + 1, .slice bv ps.length cv, tv', ps, ?_⟩
        rw [hnext, hst]
        repeat' first | assumption | omega | (exact St.Ext.refl _) | (exact List.Perm.refl _) | rfl | (exact .inl trivial) | (exact trivial) | refine And.intro ?_ ?_
      rw [if_pos hmay] at hst
      simp (disch := omega) only [go_sem, simprocAttr, hmay, h0, h3, h4, h5, h7, cy8, opC_len, opC_toList]
      refine walloc_sl (opC o (slOf (tv' w))) fun u S9 e9 ou hu hun => ?_
      simp (disch := omega) only [go_sem, simprocAttr, h3]
      have T9 := T8.ext e9
      have hlit : SlT opE S9 (.slice (some ⟨u, 0, none⟩) 1 1) [(o, tv' w)] := ⟨_, 1, rfl, Nat.le_refl _, .inr rfl, fun _ => ⟨u, 0, rfl, hu, by rw [St.loadN_def, ou]; rfl⟩⟩
      have hkn9 := T9.kn w hwl
      simp only [setT_same] at hkn9
      refine wE_app opE (bytes := 136) (xs := ps) (ys := [(o, tv' w)]) T9.own hlit rfl rfl (Nat.le_trans g8.n e9.n) (by simp only [List.length_singleton]; omega) (by simp only [List.length_singleton]; omega) fun v10 S10 ho10 hb10 hv10 => ?_
      have T10 := T9.push (o := o) (t := tv' w) hb10 ho10 hv10 (by rw [hod]; exact hkn9.1) hkn9.2
      have hy10 := (hy8.ext e9).but hb10 hyvo
      have cy10 := hy10.c
      have ck10 := T10.cell1 hwl
      have hkn10 := T10.kn w hwl
      simp only [setT_same] at hkn10
      have g10 : S.Ext S10 := (g8.trans e9).but hb10 fun j hj => (T9.own.blk opE j hj).1
      simp (disch := omega) only [go_sem, simprocAttr, h0, h4, h5, h7, c2, cy10, ck10]
      refine wJ_of (F.osierref04_With_O (d := o.id) hkn10.1 hV.1 (by omega)) ?_; rintro v11 S11 ⟨hv11, e11⟩
      obtain ⟨t11, rfl, ht11, hb11⟩ := T10.fresh hwl (by simpa only [setT_same] using hv11) e11
      have T11 := T10.ext e11
      simp (disch := omega) only [go_sem, simprocAttr, h4, h7, c2]
      refine T11.wst_kn hwl ht11 hb11 fun S12 T12 b12 => ?_
      simp only [setT_set] at T12
      have g12 : S.Ext S12 := (g10.trans e11).but b12 fun j hj => by simp [blkOf] at hj; omega
      simp (disch := omega) only [go_sem, simprocAttr, h0, h4, h5]
      refine ⟨60 - (i + 1), by omega, i + 1, v10, setT tv' w t11, ps ++ [(o, tv' w)], ?_⟩
      rw [hnext, hst]
      repeat' first | assumption | omega | (exact St.Ext.refl _) | (exact List.Perm.refl _) | rfl | (exact .inl trivial) | (exact trivial) | refine And.intro ?_ ?_
  rintro fr S2 ⟨vo, tv, ps, h3, T, g2⟩
  simp (disch := omega) only [go_sem, simprocAttr, h3]
  exact ⟨⟨ps, T.out, T.own, fun p hp => (T.dp p hp).1⟩, g2⟩
end Go.Osj
