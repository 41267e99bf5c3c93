/- The law TreeOrders. -/
import Derived.Test.YtdabompehgancaaKI
import Derived.Test.YtdabompehgancaaXE
set_option linter.unusedVariables false
set_option linter.unusedSimpArgs false
set_option maxHeartbeats 2000000
namespace Go.Osj
def intE : Enc Int := ⟨fun a => [.int .i64 a], 1, fun _ => rfl, fun _ => rfl, by decide⟩
theorem SlT.i64 {S : St} {base : Option Addr} {n cap : Nat} {xs : List Int} (h : SlT intE S (.slice base n cap) xs) {i : Nat} (hi : i < xs.length) :
    ∃ b off, base = some ⟨b, off, none⟩ ∧ b < S.n ∧ S.cell ⟨b, off + i * 1, none⟩ = some (.int .i64 xs[i]) := by
  obtain ⟨b, off, h1, h2, h3, h4⟩ := h.at intE (i := i) (x := xs[i]) (by simp)
  exact ⟨b, off, h1, h2, h4 0 (by decide)⟩
theorem wst_own {α : Type} (E : Enc α) {S : St} {b cap : Nat} {zs : List α} {i : Nat} {y : α} {k : KV} (ho : S.obj b = some (.cells true cap (E.flat zs))) (hi : i < zs.length) (hc : zs.length * E.k ≤ cap)
    (hk : ∀ S', S'.obj b = some (.cells true cap (E.flat (zs.set i y))) → St.But (ptrV b) S S' → b < S'.n → k.run undef S') :
    @wst (.pointer (some ⟨b, i * E.k, none⟩)) (.agg (E.enc y).toArray) E.k S k := by
  have hle : i * E.k + E.k ≤ zs.length * E.k := by rw [← Nat.succ_mul]; exact Nat.mul_le_mul_right _ hi
  have e : (Value.agg (E.enc y).toArray).cells.toList = E.enc y := by simp [Value.cells]
  refine wst_w (E.flat (zs.set i y)) ho (by simp [Value.cells, E.len]) (by simpa [Value.cells] using E.one y) (by rw [E.flat_length]; omega) (by omega) ?_ hk
  rw [e, E.flat_set hi]
theorem load_own {α : Type} (E : Enc α) {S : St} {b cap : Nat} {rw : Bool} {zs : List α} (ho : S.obj b = some (.cells rw cap (E.flat zs))) {i : Nat} {x : α} (h : zs[i]? = some x) : S.loadN ⟨b, i * E.k, none⟩ E.k = some (E.enc x) := by
  have hi := (List.getElem?_eq_some_iff.1 h).1
  have hle : i * E.k + E.k ≤ zs.length * E.k := by rw [← Nat.succ_mul]; exact Nat.mul_le_mul_right _ hi
  rw [St.loadN_def, ho]
  simp only [E.flat_length]
  rw [if_pos hle, E.flat_at zs i x h]
theorem moveA_in {L ms : List Mv} {m : Mv} (h : InM L ms) (hn : ((ms ++ [m]).map Mv.id).Nodup) : InM (moveA L m).2 (ms ++ [m]) := by
  have hf := h.fresh hn
  unfold moveA
  by_cases hg : goodM m = true
  · have h1 : ¬ (noneP m.id ∨ noneP m.block) := by unfold goodM at hg; simp at hg; exact fun h => h.elim hg.1 hg.2
    rw [if_neg h1, if_neg hf]
    exact h.add hg hf
  · have hg' : goodM m = false := by simpa using hg
    have h1 : noneP m.id ∨ noneP m.block := by
      unfold goodM at hg'
      simp at hg'
      by_cases h : noneP m.id
      · exact .inl h
      · exact .inr (hg' h)
    rw [if_pos h1]
    exact h.not hg'
theorem F.osierlaw10_TreeOrders.J {S : St} {l k : Value} {xs : List Mv} {ts : List Int} (hl : SlT rmE S l xs) (hk : SlT intE S k ts) (hX : xs.length < 9223372036854775808) (hT : ts.length < 9223372036854775808) (hti : ∀ t ∈ ts, -9223372036854775808 ≤ t ∧ t ≤ 9223372036854775807) :
    J PR F.osierlaw10_TreeOrders [l, k] S fun v _ => v = .bool true := by
  obtain ⟨base, cap, rfl⟩ := hl.len rmE
  obtain ⟨bt, ct, rfl⟩ := hk.len intE
  refine J_by PR.mixed F.osierlaw10_TreeOrders.ok (by simp) ?_
  simp (disch := omega) only [go_sem, ↓reduceIte, Nat.reduceEqDiff, Nat.reduceAdd, Nat.reduceMul, Nat.reduceSub, Nat.reduceLT, Nat.reduceLeDiff, Nat.reduceBEq, reduceCtorEq, Int.reduceLT, Int.reduceEq, Int.reduceLE, Int.reduceAdd, Int.reduceSub, Int.reduceToNat, Int.reduceNeg]
  refine wJ_of F.osierlaw10_awake_J ?_; rintro _ _ ⟨rfl, rfl⟩
  simp (disch := omega) only [go_sem, ↓reduceIte, Nat.reduceEqDiff, Nat.reduceAdd, Nat.reduceMul, Nat.reduceSub, Nat.reduceLT, Nat.reduceLeDiff, Nat.reduceBEq, reduceCtorEq, Int.reduceLT, Int.reduceEq, Int.reduceLE, Int.reduceAdd, Int.reduceSub, Int.reduceToNat, Int.reduceNeg]
  refine wcond_dec (fun h40 => ?_) (fun h40 => ?_)
  · simp (disch := omega) only [go_sem, ↓reduceIte, Nat.reduceEqDiff, Nat.reduceAdd, Nat.reduceMul, Nat.reduceSub, Nat.reduceLT, Nat.reduceLeDiff, Nat.reduceBEq, reduceCtorEq, Int.reduceLT, Int.reduceEq, Int.reduceLE, Int.reduceAdd, Int.reduceSub, Int.reduceToNat, Int.reduceNeg]
  simp (disch := omega) only [go_sem, ↓reduceIte, Nat.reduceEqDiff, Nat.reduceAdd, Nat.reduceMul, Nat.reduceSub, Nat.reduceLT, Nat.reduceLeDiff, Nat.reduceBEq, reduceCtorEq, Int.reduceLT, Int.reduceEq, Int.reduceLE, Int.reduceAdd, Int.reduceSub, Int.reduceToNat, Int.reduceNeg]
  -- no id twice
  refine wC_at 0 (fun fr S2 => S2 = S ∧ fr 0 = .slice base xs.length cap ∧ fr 1 = .slice bt ts.length ct ∧ (xs.map Mv.id).Nodup) ?_ ?_
  · refine wC_loop (fun n fr S2 => ∃ i : Nat, n = xs.length - i ∧ i ≤ xs.length ∧ S2 = S ∧ fr 0 = .slice base xs.length cap ∧ fr 1 = .slice bt ts.length ct ∧ fr 6 = .int .i64 (i : Nat) ∧ ((xs.take i).map Mv.id).Nodup) xs.length
      ⟨0, by
        have k0 : ((xs.take 0).map Mv.id).Nodup := by simp
        simp (disch := omega) only [go_sem, ↓reduceIte, Nat.reduceEqDiff, Nat.reduceAdd, Nat.reduceMul, Nat.reduceSub, Nat.reduceLT, Nat.reduceLeDiff, Nat.reduceBEq, reduceCtorEq, Int.reduceLT, Int.reduceEq, Int.reduceLE, Int.reduceAdd, Int.reduceSub, Int.reduceToNat, Int.reduceNeg]
        repeat' first | assumption | omega | (exact St.Ext.refl _) | (exact List.Perm.refl _) | rfl | (exact .inl trivial) | (exact trivial) | refine And.intro ?_ ?_
        ⟩ ?_
    rintro n fr S2 ⟨i, rfl, hi, rfl, h0, h1, h6, hn⟩
    simp (disch := omega) only [go_sem, ↓reduceIte, Nat.reduceEqDiff, Nat.reduceAdd, Nat.reduceMul, Nat.reduceSub, Nat.reduceLT, Nat.reduceLeDiff, Nat.reduceBEq, reduceCtorEq, Int.reduceLT, Int.reduceEq, Int.reduceLE, Int.reduceAdd, Int.reduceSub, Int.reduceToNat, Int.reduceNeg, F.osierlaw10_TreeOrders.l1, h0, h1, h6]
    refine wcond_dec (fun hlt => ?_) (fun hge => ?_)
    rotate_left
    · simp (disch := omega) only [go_sem, ↓reduceIte, Nat.reduceEqDiff, Nat.reduceAdd, Nat.reduceMul, Nat.reduceSub, Nat.reduceLT, Nat.reduceLeDiff, Nat.reduceBEq, reduceCtorEq, Int.reduceLT, Int.reduceEq, Int.reduceLE, Int.reduceAdd, Int.reduceSub, Int.reduceToNat, Int.reduceNeg, h0, h1]
      rw [List.take_of_length_le (by omega)] at hn
      repeat' first | assumption | omega | (exact St.Ext.refl _) | (exact List.Perm.refl _) | rfl | (exact .inl trivial) | (exact trivial) | refine And.intro ?_ ?_
    have hlx : i < xs.length := by omega
    simp (disch := omega) only [go_sem, ↓reduceIte, Nat.reduceEqDiff, Nat.reduceAdd, Nat.reduceMul, Nat.reduceSub, Nat.reduceLT, Nat.reduceLeDiff, Nat.reduceBEq, reduceCtorEq, Int.reduceLT, Int.reduceEq, Int.reduceLE, Int.reduceAdd, Int.reduceSub, Int.reduceToNat, Int.reduceNeg, h0, h1, h6]
    refine wC_at 2 (fun fr S3 => S3 = S2 ∧ fr 0 = .slice base xs.length cap ∧ fr 1 = .slice bt ts.length ct ∧ fr 6 = .int .i64 (i : Nat) ∧ xs[i].id ∉ (xs.take i).map Mv.id) ?_ ?_
    · refine wC_loop (fun n fr S3 => ∃ j : Nat, n = i - j ∧ j ≤ i ∧ S3 = S2 ∧ fr 0 = .slice base xs.length cap ∧ fr 1 = .slice bt ts.length ct ∧ fr 6 = .int .i64 (i : Nat) ∧ fr 7 = .int .i64 (j : Nat) ∧ xs[i].id ∉ (xs.take j).map Mv.id) i
        ⟨0, by
          have k0 : xs[i].id ∉ (xs.take 0).map Mv.id := by simp
          simp (disch := omega) only [go_sem, ↓reduceIte, Nat.reduceEqDiff, Nat.reduceAdd, Nat.reduceMul, Nat.reduceSub, Nat.reduceLT, Nat.reduceLeDiff, Nat.reduceBEq, reduceCtorEq, Int.reduceLT, Int.reduceEq, Int.reduceLE, Int.reduceAdd, Int.reduceSub, Int.reduceToNat, Int.reduceNeg]
          repeat' first | assumption | omega | (exact St.Ext.refl _) | (exact List.Perm.refl _) | rfl | (exact .inl trivial) | (exact trivial) | refine And.intro ?_ ?_
          ⟩ ?_
      rintro n fr S3 ⟨j, rfl, hj, rfl, h0, h1, h6, h7, hnj⟩
      simp (disch := omega) only [go_sem, ↓reduceIte, Nat.reduceEqDiff, Nat.reduceAdd, Nat.reduceMul, Nat.reduceSub, Nat.reduceLT, Nat.reduceLeDiff, Nat.reduceBEq, reduceCtorEq, Int.reduceLT, Int.reduceEq, Int.reduceLE, Int.reduceAdd, Int.reduceSub, Int.reduceToNat, Int.reduceNeg, F.osierlaw10_TreeOrders.l0, h0, h1, h6, h7]
      refine wcond_dec (fun hltj => ?_) (fun hgej => ?_)
      · have hlj : j < xs.length := by omega
        obtain ⟨b, off, rfl, hb, ⟨x1, -⟩, -⟩ := hl.rm hlx
        obtain ⟨b', off', hbb, -, ⟨y1, -⟩, -⟩ := hl.rm hlj
        injection hbb with hbb
        injection hbb with hb1 hb2
        subst hb1 hb2
        have c1 : (0 : Int) ≤ (i : Int) ∧ (i : Int) < (xs.length : Int) := by omega
        have c2 : (0 : Int) ≤ (j : Int) ∧ (j : Int) < (xs.length : Int) := by omega
        have eq := eqV_dot xs[i].id xs[j].id
        simp (disch := omega) only [go_sem, ↓reduceIte, Nat.reduceEqDiff, Nat.reduceAdd, Nat.reduceMul, Nat.reduceSub, Nat.reduceLT, Nat.reduceLeDiff, Nat.reduceBEq, reduceCtorEq, Int.reduceLT, Int.reduceEq, Int.reduceLE, Int.reduceAdd, Int.reduceSub, Int.reduceToNat, Int.reduceNeg, h0, h1, h6, h7, c1, c2, x1, y1, eq]
        refine wcond_dec (fun hq => ?_) (fun hq => ?_)
        · simp (disch := omega) only [go_sem, ↓reduceIte, Nat.reduceEqDiff, Nat.reduceAdd, Nat.reduceMul, Nat.reduceSub, Nat.reduceLT, Nat.reduceLeDiff, Nat.reduceBEq, reduceCtorEq, Int.reduceLT, Int.reduceEq, Int.reduceLE, Int.reduceAdd, Int.reduceSub, Int.reduceToNat, Int.reduceNeg]
        · simp (disch := omega) only [go_sem, ↓reduceIte, Nat.reduceEqDiff, Nat.reduceAdd, Nat.reduceMul, Nat.reduceSub, Nat.reduceLT, Nat.reduceLeDiff, Nat.reduceBEq, reduceCtorEq, Int.reduceLT, Int.reduceEq, Int.reduceLE, Int.reduceAdd, Int.reduceSub, Int.reduceToNat, Int.reduceNeg, h0, h1, h6, h7]
          have k0 : xs[i].id ∉ (xs.take (j + 1)).map Mv.id := by
            rw [take_snoc (List.getElem?_eq_getElem hlj), List.map_append, List.mem_append]
            rintro (h | h)
            · exact hnj h
            · simp at h
              exact hq h
          refine ⟨i - (j + 1), by omega, j + 1, ?_⟩
          repeat' first | assumption | omega | (exact St.Ext.refl _) | (exact List.Perm.refl _) | rfl | (exact .inl trivial) | (exact trivial) | refine And.intro ?_ ?_
      · obtain rfl : i = j := by omega
        simp (disch := omega) only [go_sem, ↓reduceIte, Nat.reduceEqDiff, Nat.reduceAdd, Nat.reduceMul, Nat.reduceSub, Nat.reduceLT, Nat.reduceLeDiff, Nat.reduceBEq, reduceCtorEq, Int.reduceLT, Int.reduceEq, Int.reduceLE, Int.reduceAdd, Int.reduceSub, Int.reduceToNat, Int.reduceNeg, h0, h1, h6]
        repeat' first | assumption | omega | (exact St.Ext.refl _) | (exact List.Perm.refl _) | rfl | (exact .inl trivial) | (exact trivial) | refine And.intro ?_ ?_
    rintro fr S3 ⟨rfl, h0, h1, h6, hni⟩
    simp (disch := omega) only [go_sem, ↓reduceIte, Nat.reduceEqDiff, Nat.reduceAdd, Nat.reduceMul, Nat.reduceSub, Nat.reduceLT, Nat.reduceLeDiff, Nat.reduceBEq, reduceCtorEq, Int.reduceLT, Int.reduceEq, Int.reduceLE, Int.reduceAdd, Int.reduceSub, Int.reduceToNat, Int.reduceNeg, h0, h1, h6]
    have k0 : ((xs.take (i + 1)).map Mv.id).Nodup := by
      rw [take_snoc (List.getElem?_eq_getElem hlx), List.map_append, List.nodup_append]
      refine ⟨hn, by simp, fun a ha c hc => ?_⟩
      simp at hc
      subst hc
      exact fun e => hni (e ▸ ha)
    refine ⟨xs.length - (i + 1), by omega, i + 1, ?_⟩
    repeat' first | assumption | omega | (exact St.Ext.refl _) | (exact List.Perm.refl _) | rfl | (exact .inl trivial) | (exact trivial) | refine And.intro ?_ ?_
  rintro fr S2 ⟨rfl, h0, h1, hnd⟩
  simp (disch := omega) only [go_sem, ↓reduceIte, Nat.reduceEqDiff, Nat.reduceAdd, Nat.reduceMul, Nat.reduceSub, Nat.reduceLT, Nat.reduceLeDiff, Nat.reduceBEq, reduceCtorEq, Int.reduceLT, Int.reduceEq, Int.reduceLE, Int.reduceAdd, Int.reduceSub, Int.reduceToNat, Int.reduceNeg, h0]
  refine wE_app rmE (B := S2.n) (bytes := 72) (xs := []) (ys := xs) (OwnT.nil rmE _ _) hl rfl rfl (Nat.le_refl _) (by simp; omega) (by simp; omega) fun v3 S3 ho3 hb3 hv3 => ?_
  have g3 : S2.Ext S3 := ⟨hb3.n, fun i hi => hb3.obj i hi (by simp [blkOf])⟩
  rw [List.nil_append] at ho3
  simp (disch := omega) only [go_sem, ↓reduceIte, Nat.reduceEqDiff, Nat.reduceAdd, Nat.reduceMul, Nat.reduceSub, Nat.reduceLT, Nat.reduceLeDiff, Nat.reduceBEq, reduceCtorEq, Int.reduceLT, Int.reduceEq, Int.reduceLE, Int.reduceAdd, Int.reduceSub, Int.reduceToNat, Int.reduceNeg, h0, h1]
  -- turned
  refine wC_at 4 (fun fr S4 => ∃ (ms : List Mv) (v : Value), ms.Perm xs ∧ fr 0 = .slice base xs.length cap ∧ fr 8 = v ∧ OwnT rmE S2.n S4 v ms ∧ S2.Ext S4) ?_ ?_
  · refine wC_loop (fun n fr S4 => ∃ (i : Nat) (ms : List Mv) (v : Value), n = xs.length - i ∧ i ≤ xs.length ∧ ms.Perm xs ∧ fr 0 = .slice base xs.length cap ∧ fr 1 = .slice bt ts.length ct ∧ fr 8 = v ∧ fr 9 = .int .i64 (i : Nat) ∧ OwnT rmE S2.n S4 v ms ∧ S2.Ext S4) xs.length
      ⟨0, xs, v3, by
        simp (disch := omega) only [go_sem, ↓reduceIte, Nat.reduceEqDiff, Nat.reduceAdd, Nat.reduceMul, Nat.reduceSub, Nat.reduceLT, Nat.reduceLeDiff, Nat.reduceBEq, reduceCtorEq, Int.reduceLT, Int.reduceEq, Int.reduceLE, Int.reduceAdd, Int.reduceSub, Int.reduceToNat, Int.reduceNeg]
        repeat' first | assumption | omega | (exact St.Ext.refl _) | (exact List.Perm.refl _) | rfl | (exact .inl trivial) | (exact trivial) | refine And.intro ?_ ?_
        ⟩ ?_
    rintro n fr S4 ⟨i, ms, v, rfl, hi, hp, h0, h1, h8, h9, ho, g4⟩
    have hml := hp.length_eq
    rcases ho with ⟨rfl, rfl⟩ | ⟨c, kc, rfl, hBc, hcn, hck, hco⟩
    · simp at hml
      have d1 : ¬ ((i : Int) < 0) := by omega
      simp (disch := omega) only [go_sem, ↓reduceIte, Nat.reduceEqDiff, Nat.reduceAdd, Nat.reduceMul, Nat.reduceSub, Nat.reduceLT, Nat.reduceLeDiff, Nat.reduceBEq, reduceCtorEq, Int.reduceLT, Int.reduceEq, Int.reduceLE, Int.reduceAdd, Int.reduceSub, Int.reduceToNat, Int.reduceNeg, F.osierlaw10_TreeOrders.l2, h0, h1, h8, h9, d1]
      refine ⟨[], nilS, ?_⟩
      have k0 : OwnT rmE S2.n S4 nilS [] := OwnT.nil rmE _ _
      repeat' first | assumption | omega | (exact St.Ext.refl _) | (exact List.Perm.refl _) | rfl | (exact .inl trivial) | (exact trivial) | refine And.intro ?_ ?_
    have hown : OwnT rmE S2.n S4 (.slice (some ⟨c, 0, none⟩) ms.length kc) ms := .inr ⟨c, kc, rfl, hBc, hcn, hck, hco⟩
    simp (disch := omega) only [go_sem, ↓reduceIte, Nat.reduceEqDiff, Nat.reduceAdd, Nat.reduceMul, Nat.reduceSub, Nat.reduceLT, Nat.reduceLeDiff, Nat.reduceBEq, reduceCtorEq, Int.reduceLT, Int.reduceEq, Int.reduceLE, Int.reduceAdd, Int.reduceSub, Int.reduceToNat, Int.reduceNeg, F.osierlaw10_TreeOrders.l2, h0, h1, h8, h9]
    by_cases hx : i < ms.length
    rotate_left
    · have d1 : ¬ ((i : Int) < (ms.length : Int)) := by omega
      simp (disch := omega) only [go_sem, ↓reduceIte, Nat.reduceEqDiff, Nat.reduceAdd, Nat.reduceMul, Nat.reduceSub, Nat.reduceLT, Nat.reduceLeDiff, Nat.reduceBEq, reduceCtorEq, Int.reduceLT, Int.reduceEq, Int.reduceLE, Int.reduceAdd, Int.reduceSub, Int.reduceToNat, Int.reduceNeg, d1, h0, h8]
      refine ⟨ms, .slice (some ⟨c, 0, none⟩) ms.length kc, ?_⟩
      repeat' first | assumption | omega | (exact St.Ext.refl _) | (exact List.Perm.refl _) | rfl | (exact .inl trivial) | (exact trivial) | refine And.intro ?_ ?_
    have d1 : (i : Int) < (ms.length : Int) := by omega
    by_cases hxt : i < ts.length
    rotate_left
    · have d2 : ¬ ((i : Int) < (ts.length : Int)) := by omega
      simp (disch := omega) only [go_sem, ↓reduceIte, Nat.reduceEqDiff, Nat.reduceAdd, Nat.reduceMul, Nat.reduceSub, Nat.reduceLT, Nat.reduceLeDiff, Nat.reduceBEq, reduceCtorEq, Int.reduceLT, Int.reduceEq, Int.reduceLE, Int.reduceAdd, Int.reduceSub, Int.reduceToNat, Int.reduceNeg, d1, d2, h0, h1, h8, h9]
      refine ⟨ms, .slice (some ⟨c, 0, none⟩) ms.length kc, ?_⟩
      repeat' first | assumption | omega | (exact St.Ext.refl _) | (exact List.Perm.refl _) | rfl | (exact .inl trivial) | (exact trivial) | refine And.intro ?_ ?_
    have d2 : (i : Int) < (ts.length : Int) := by omega
    have c1 : (0 : Int) ≤ (i : Int) ∧ (i : Int) < (ts.length : Int) := by omega
    have c2 : (0 : Int) ≤ (i : Int) ∧ (i : Int) < (ms.length : Int) := by omega
    obtain ⟨b, off, rfl, hb, lt⟩ := (hk.ext intE g4).i64 hxt
    have hmz : ¬ ((ms.length : Int) = 0) := by omega
    have hti' := hti ts[i] (List.getElem_mem _)
    -- where it goes
    obtain ⟨j, hj, hjl⟩ : ∃ j : Nat, (if ts[i].tmod ms.length < 0 then 0 - ts[i].tmod ms.length else ts[i].tmod ms.length) = (j : Int) ∧ j < ms.length := by
      have h1 := Int.natAbs_tmod ts[i] ms.length
      refine ⟨(ts[i].tmod ms.length).natAbs, ?_, ?_⟩
      · split <;> omega
      · rw [h1]
        simp only [Int.natAbs_natCast]
        exact Nat.mod_lt _ (by omega)
    have c3 : (0 : Int) ≤ (j : Int) ∧ (j : Int) < (ms.length : Int) := by omega
    simp (disch := omega) only [go_sem, ↓reduceIte, Nat.reduceEqDiff, Nat.reduceAdd, Nat.reduceMul, Nat.reduceSub, Nat.reduceLT, Nat.reduceLeDiff, Nat.reduceBEq, reduceCtorEq, Int.reduceLT, Int.reduceEq, Int.reduceLE, Int.reduceAdd, Int.reduceSub, Int.reduceToNat, Int.reduceNeg, d1, d2, c1, hmz, lt, h0, h1, h8, h9]
    generalize ts[i].tmod ms.length = r at *
    have hrr : -(100 : Int) ≤ r ∧ r ≤ 100 := by
      split at hj <;> omega
    refine wcond_dec (fun hneg => ?_) (fun hpos => ?_)
    · rw [if_pos hneg] at hj
      simp (disch := omega) only [go_sem, ↓reduceIte, Nat.reduceEqDiff, Nat.reduceAdd, Nat.reduceMul, Nat.reduceSub, Nat.reduceLT, Nat.reduceLeDiff, Nat.reduceBEq, reduceCtorEq, Int.reduceLT, Int.reduceEq, Int.reduceLE, Int.reduceAdd, Int.reduceSub, Int.reduceToNat, Int.reduceNeg, hj, c2, c3, h0, h1, h8, h9]
      have li := load_own rmE hco (i := i) (x := ms[i]) (List.getElem?_eq_getElem hx)
      replace li : S4.loadN ⟨c, i * 8, none⟩ 8 = some (rmC ms[i]) := li
      simp (disch := omega) only [go_sem, ↓reduceIte, Nat.reduceEqDiff, Nat.reduceAdd, Nat.reduceMul, Nat.reduceSub, Nat.reduceLT, Nat.reduceLeDiff, Nat.reduceBEq, reduceCtorEq, Int.reduceLT, Int.reduceEq, Int.reduceLE, Int.reduceAdd, Int.reduceSub, Int.reduceToNat, Int.reduceNeg, li]
      refine walloc_x (rmC ⟨(0, 0), 0, (0, 0), ⟨#[]⟩, (0, 0)⟩) fun y S5 e5 oy hy hyn => ?_
      simp (disch := omega) only [go_sem, ↓reduceIte, Nat.reduceEqDiff, Nat.reduceAdd, Nat.reduceMul, Nat.reduceSub, Nat.reduceLT, Nat.reduceLeDiff, Nat.reduceBEq, reduceCtorEq, Int.reduceLT, Int.reduceEq, Int.reduceLE, Int.reduceAdd, Int.reduceSub, Int.reduceToNat, Int.reduceNeg]
      refine wst_w (rmC ms[i]) oy rfl rfl (by simp) (by decide) rfl fun S6 oy6 b6 hy6 => ?_
      have hyc : y ≠ c := by omega
      have e6 : S4.Ext S6 := e5.but b6 fun q hq => by simp [blkOf] at hq; omega
      have hco6 := (e6.obj c hcn).trans hco
      have lj := load_own rmE hco6 (i := j) (x := ms[j]) (List.getElem?_eq_getElem hjl)
      replace lj : S6.loadN ⟨c, j * 8, none⟩ 8 = some (rmC ms[j]) := lj
      simp (disch := omega) only [go_sem, ↓reduceIte, Nat.reduceEqDiff, Nat.reduceAdd, Nat.reduceMul, Nat.reduceSub, Nat.reduceLT, Nat.reduceLeDiff, Nat.reduceBEq, reduceCtorEq, Int.reduceLT, Int.reduceEq, Int.reduceLE, Int.reduceAdd, Int.reduceSub, Int.reduceToNat, Int.reduceNeg, hj, c2, c3, h0, h1, h8, h9, lj]
      refine wst_own rmE (i := i) (y := ms[j]) hco6 hx (Nat.mul_le_mul_right 8 hck) fun S7 ob7 b7 hc7 => ?_
      have oy7 := (b7.obj y hy6 (by simp [blkOf]; exact Ne.symm hyc)).trans oy6
      have ly : S7.loadN ⟨y, 0, none⟩ 8 = some (rmC ms[i]) := by rw [St.loadN_def, oy7]; rfl
      simp (disch := omega) only [go_sem, ↓reduceIte, Nat.reduceEqDiff, Nat.reduceAdd, Nat.reduceMul, Nat.reduceSub, Nat.reduceLT, Nat.reduceLeDiff, Nat.reduceBEq, reduceCtorEq, Int.reduceLT, Int.reduceEq, Int.reduceLE, Int.reduceAdd, Int.reduceSub, Int.reduceToNat, Int.reduceNeg, hj, c2, c3, h0, h1, h8, h9, ly]
      refine wst_own rmE (i := j) (y := ms[i]) ob7 (by rw [List.length_set]; exact hjl) (by rw [List.length_set]; exact Nat.mul_le_mul_right 8 hck) fun S8 ob8 b8 hc8 => ?_
      have hp8 : ((ms.set i ms[j]).set j ms[i]).Perm ms := List.set_set_perm hx hjl
      have hl8 := hp8.length_eq
      have g8 : S2.Ext S8 := ((g4.trans e6).but b7 fun q hq => by simp [blkOf] at hq; omega).but b8 fun q hq => by simp [blkOf] at hq; omega
      have ho8 : OwnT rmE S2.n S8 (.slice (some ⟨c, 0, none⟩) ms.length kc) ((ms.set i ms[j]).set j ms[i]) := by
        rw [← hl8]
        exact .inr ⟨c, kc, rfl, hBc, hc8, by omega, ob8⟩
      have hp9 := hp8.trans hp
      simp (disch := omega) only [go_sem, ↓reduceIte, Nat.reduceEqDiff, Nat.reduceAdd, Nat.reduceMul, Nat.reduceSub, Nat.reduceLT, Nat.reduceLeDiff, Nat.reduceBEq, reduceCtorEq, Int.reduceLT, Int.reduceEq, Int.reduceLE, Int.reduceAdd, Int.reduceSub, Int.reduceToNat, Int.reduceNeg, hj, h0, h1, h8, h9]
      refine ⟨xs.length - (i + 1), by omega, i + 1, (ms.set i ms[j]).set j ms[i], .slice (some ⟨c, 0, none⟩) ms.length kc, ?_⟩
      repeat' first | assumption | omega | (exact St.Ext.refl _) | (exact List.Perm.refl _) | rfl | (exact .inl trivial) | (exact trivial) | refine And.intro ?_ ?_
    · rw [if_neg hpos] at hj
      subst hj
      simp (disch := omega) only [go_sem, ↓reduceIte, Nat.reduceEqDiff, Nat.reduceAdd, Nat.reduceMul, Nat.reduceSub, Nat.reduceLT, Nat.reduceLeDiff, Nat.reduceBEq, reduceCtorEq, Int.reduceLT, Int.reduceEq, Int.reduceLE, Int.reduceAdd, Int.reduceSub, Int.reduceToNat, Int.reduceNeg, c2, c3, h0, h1, h8, h9]
      have li := load_own rmE hco (i := i) (x := ms[i]) (List.getElem?_eq_getElem hx)
      replace li : S4.loadN ⟨c, i * 8, none⟩ 8 = some (rmC ms[i]) := li
      simp (disch := omega) only [go_sem, ↓reduceIte, Nat.reduceEqDiff, Nat.reduceAdd, Nat.reduceMul, Nat.reduceSub, Nat.reduceLT, Nat.reduceLeDiff, Nat.reduceBEq, reduceCtorEq, Int.reduceLT, Int.reduceEq, Int.reduceLE, Int.reduceAdd, Int.reduceSub, Int.reduceToNat, Int.reduceNeg, li]
      refine walloc_x (rmC ⟨(0, 0), 0, (0, 0), ⟨#[]⟩, (0, 0)⟩) fun y S5 e5 oy hy hyn => ?_
      simp (disch := omega) only [go_sem, ↓reduceIte, Nat.reduceEqDiff, Nat.reduceAdd, Nat.reduceMul, Nat.reduceSub, Nat.reduceLT, Nat.reduceLeDiff, Nat.reduceBEq, reduceCtorEq, Int.reduceLT, Int.reduceEq, Int.reduceLE, Int.reduceAdd, Int.reduceSub, Int.reduceToNat, Int.reduceNeg]
      refine wst_w (rmC ms[i]) oy rfl rfl (by simp) (by decide) rfl fun S6 oy6 b6 hy6 => ?_
      have hyc : y ≠ c := by omega
      have e6 : S4.Ext S6 := e5.but b6 fun q hq => by simp [blkOf] at hq; omega
      have hco6 := (e6.obj c hcn).trans hco
      have lj := load_own rmE hco6 (i := j) (x := ms[j]) (List.getElem?_eq_getElem hjl)
      replace lj : S6.loadN ⟨c, j * 8, none⟩ 8 = some (rmC ms[j]) := lj
      simp (disch := omega) only [go_sem, ↓reduceIte, Nat.reduceEqDiff, Nat.reduceAdd, Nat.reduceMul, Nat.reduceSub, Nat.reduceLT, Nat.reduceLeDiff, Nat.reduceBEq, reduceCtorEq, Int.reduceLT, Int.reduceEq, Int.reduceLE, Int.reduceAdd, Int.reduceSub, Int.reduceToNat, Int.reduceNeg, c2, c2, c3, h0, h1, h8, h9, lj]
      refine wst_own rmE (i := i) (y := ms[j]) hco6 hx (Nat.mul_le_mul_right 8 hck) fun S7 ob7 b7 hc7 => ?_
      have oy7 := (b7.obj y hy6 (by simp [blkOf]; exact Ne.symm hyc)).trans oy6
      have ly : S7.loadN ⟨y, 0, none⟩ 8 = some (rmC ms[i]) := by rw [St.loadN_def, oy7]; rfl
      simp (disch := omega) only [go_sem, ↓reduceIte, Nat.reduceEqDiff, Nat.reduceAdd, Nat.reduceMul, Nat.reduceSub, Nat.reduceLT, Nat.reduceLeDiff, Nat.reduceBEq, reduceCtorEq, Int.reduceLT, Int.reduceEq, Int.reduceLE, Int.reduceAdd, Int.reduceSub, Int.reduceToNat, Int.reduceNeg, c2, c2, c3, h0, h1, h8, h9, ly]
      refine wst_own rmE (i := j) (y := ms[i]) ob7 (by rw [List.length_set]; exact hjl) (by rw [List.length_set]; exact Nat.mul_le_mul_right 8 hck) fun S8 ob8 b8 hc8 => ?_
      have hp8 : ((ms.set i ms[j]).set j ms[i]).Perm ms := List.set_set_perm hx hjl
      have hl8 := hp8.length_eq
      have g8 : S2.Ext S8 := ((g4.trans e6).but b7 fun q hq => by simp [blkOf] at hq; omega).but b8 fun q hq => by simp [blkOf] at hq; omega
      have ho8 : OwnT rmE S2.n S8 (.slice (some ⟨c, 0, none⟩) ms.length kc) ((ms.set i ms[j]).set j ms[i]) := by
        rw [← hl8]
        exact .inr ⟨c, kc, rfl, hBc, hc8, by omega, ob8⟩
      have hp9 := hp8.trans hp
      simp (disch := omega) only [go_sem, ↓reduceIte, Nat.reduceEqDiff, Nat.reduceAdd, Nat.reduceMul, Nat.reduceSub, Nat.reduceLT, Nat.reduceLeDiff, Nat.reduceBEq, reduceCtorEq, Int.reduceLT, Int.reduceEq, Int.reduceLE, Int.reduceAdd, Int.reduceSub, Int.reduceToNat, Int.reduceNeg, c2, h0, h1, h8, h9]
      refine ⟨xs.length - (i + 1), by omega, i + 1, (ms.set i ms[j]).set j ms[i], .slice (some ⟨c, 0, none⟩) ms.length kc, ?_⟩
      repeat' first | assumption | omega | (exact St.Ext.refl _) | (exact List.Perm.refl _) | rfl | (exact .inl trivial) | (exact trivial) | refine And.intro ?_ ?_
  rintro fr S4 ⟨ms, v, hp, h0, h8, ho, g4⟩
  have hml := hp.length_eq
  have hndm : (ms.map Mv.id).Nodup := ((hp.map Mv.id).nodup_iff).2 hnd
  obtain ⟨bv, cv, hv⟩ := (ho.sl rmE).len rmE
  subst hv
  have hl4 := hl.ext rmE g4
  have hs4 := ho.sl rmE
  simp (disch := omega) only [go_sem, ↓reduceIte, Nat.reduceEqDiff, Nat.reduceAdd, Nat.reduceMul, Nat.reduceSub, Nat.reduceLT, Nat.reduceLeDiff, Nat.reduceBEq, reduceCtorEq, Int.reduceLT, Int.reduceEq, Int.reduceLE, Int.reduceAdd, Int.reduceSub, Int.reduceToNat, Int.reduceNeg, h0, h8]
  refine wJ_of F.movetree_New_J ?_; rintro _ S5 ⟨q1, Z1, rfl, T1, z1, g5⟩
  simp (disch := omega) only [go_sem, ↓reduceIte, Nat.reduceEqDiff, Nat.reduceAdd, Nat.reduceMul, Nat.reduceSub, Nat.reduceLT, Nat.reduceLeDiff, Nat.reduceBEq, reduceCtorEq, Int.reduceLT, Int.reduceEq, Int.reduceLE, Int.reduceAdd, Int.reduceSub, Int.reduceToNat, Int.reduceNeg]
  refine wJ_of F.movetree_New_J ?_; rintro _ S6 ⟨q2, Z2, rfl, T2, z2, g6⟩
  have hdis0 : ∀ j, Z1 j → ¬ Z2 j := fun j h1 h2 => by have := T1.1 j h1; have := z2 j h2; omega
  simp (disch := omega) only [go_sem, ↓reduceIte, Nat.reduceEqDiff, Nat.reduceAdd, Nat.reduceMul, Nat.reduceSub, Nat.reduceLT, Nat.reduceLeDiff, Nat.reduceBEq, reduceCtorEq, Int.reduceLT, Int.reduceEq, Int.reduceLE, Int.reduceAdd, Int.reduceSub, Int.reduceToNat, Int.reduceNeg]
  refine wC_at 6 (fun fr S7 => ∃ (L : List Mv) (Z1 Z2 : Nat → Prop), fr 0 = .slice base xs.length cap ∧ fr 12 = ptrV q1 ∧ fr 13 = ptrV q2 ∧ TreeT S7 Z1 q1 L ∧ TreeT S7 Z2 q2 L ∧ S4.Ext S7 ∧ L.length ≤ 40) ?_ ?_
  · refine wC_loop (fun n fr S7 => ∃ (i : Nat) (L K : List Mv) (Z1 Z2 : Nat → Prop), n = xs.length - i ∧ i ≤ xs.length ∧ fr 0 = .slice base xs.length cap ∧ fr 8 = .slice bv ms.length cv ∧ fr 12 = ptrV q1 ∧ fr 13 = ptrV q2 ∧ fr 14 = .int .i64 (i : Nat) ∧
        InM L (xs.take i) ∧ InM K (ms.take i) ∧ TreeT S7 Z1 q1 L ∧ TreeT S7 Z2 q2 K ∧ (∀ j, Z1 j → ¬ Z2 j) ∧ (∀ j, Z1 j → S4.n ≤ j) ∧ (∀ j, Z2 j → S4.n ≤ j) ∧ S4.Ext S7 ∧ L.length ≤ i ∧ K.length ≤ i) xs.length
      ⟨0, [], [], Z1, Z2, by
        have k0 : InM [] (xs.take 0) := InM.nil
        have k1 : InM [] (ms.take 0) := InM.nil
        have k2 := T1.ext g6
        have k3 : ∀ j, Z2 j → S4.n ≤ j := fun j h => Nat.le_trans g5.n (z2 j h)
        have k4 := g5.trans g6
        simp (disch := omega) only [go_sem, ↓reduceIte, Nat.reduceEqDiff, Nat.reduceAdd, Nat.reduceMul, Nat.reduceSub, Nat.reduceLT, Nat.reduceLeDiff, Nat.reduceBEq, reduceCtorEq, Int.reduceLT, Int.reduceEq, Int.reduceLE, Int.reduceAdd, Int.reduceSub, Int.reduceToNat, Int.reduceNeg]
        repeat' first | assumption | omega | (exact St.Ext.refl _) | (exact List.Perm.refl _) | rfl | (exact .inl trivial) | (exact trivial) | refine And.intro ?_ ?_
        ⟩ ?_
    rintro n fr S7 ⟨i, L, K, Z1, Z2, rfl, hi, h0, h8, h12, h13, h14, hL, hK, T1, T2, hdis, hz1, hz2, g7, hLi, hKi⟩
    simp (disch := omega) only [go_sem, ↓reduceIte, Nat.reduceEqDiff, Nat.reduceAdd, Nat.reduceMul, Nat.reduceSub, Nat.reduceLT, Nat.reduceLeDiff, Nat.reduceBEq, reduceCtorEq, Int.reduceLT, Int.reduceEq, Int.reduceLE, Int.reduceAdd, Int.reduceSub, Int.reduceToNat, Int.reduceNeg, F.osierlaw10_TreeOrders.l3, h0, h8, h12, h13, h14]
    refine wcond_dec (fun hlt => ?_) (fun hge => ?_)
    rotate_left
    · rw [List.take_of_length_le (by omega)] at hL hK
      have hLK := hL.same hK hp.symm
      subst hLK
      simp (disch := omega) only [go_sem, ↓reduceIte, Nat.reduceEqDiff, Nat.reduceAdd, Nat.reduceMul, Nat.reduceSub, Nat.reduceLT, Nat.reduceLeDiff, Nat.reduceBEq, reduceCtorEq, Int.reduceLT, Int.reduceEq, Int.reduceLE, Int.reduceAdd, Int.reduceSub, Int.reduceToNat, Int.reduceNeg, h0, h12, h13]
      refine ⟨L, Z1, Z2, ?_⟩
      repeat' first | assumption | omega | (exact St.Ext.refl _) | (exact List.Perm.refl _) | rfl | (exact .inl trivial) | (exact trivial) | refine And.intro ?_ ?_
    have hx : i < xs.length := by omega
    have hxm : i < ms.length := by omega
    have c1 : (0 : Int) ≤ (i : Int) ∧ (i : Int) < (xs.length : Int) := by omega
    have c2 : (0 : Int) ≤ (i : Int) ∧ (i : Int) < (ms.length : Int) := by omega
    obtain ⟨b, off, rfl, hb, ⟨x1, x2, x3, x4, x5⟩, -⟩ := (hl4.ext rmE g7).rm hx
    simp (disch := omega) only [go_sem, ↓reduceIte, Nat.reduceEqDiff, Nat.reduceAdd, Nat.reduceMul, Nat.reduceSub, Nat.reduceLT, Nat.reduceLeDiff, Nat.reduceBEq, reduceCtorEq, Int.reduceLT, Int.reduceEq, Int.reduceLE, Int.reduceAdd, Int.reduceSub, Int.reduceToNat, Int.reduceNeg, h0, h8, h12, h13, h14, c1, x1, x2, x3, x4, x5]
    refine wJ_of (F.movetree_Tree_Move_J (m := xs[i]) T1 (by omega)) ?_; rintro _ S8 ⟨rfl, Z1', T1', z1', f1⟩
    have g8 : S4.Ext S8 := g7.frm f1 hz1
    have hz1' : ∀ j, Z1' j → S4.n ≤ j := fun j hj => (z1' j hj).elim (hz1 j) (fun h => Nat.le_trans g7.n h)
    have T2' : TreeT S8 Z2 q2 K := T2.keep f1.n fun j hj h2 => f1.obj j hj fun h1 => hdis j h1 h2
    have hdis' : ∀ j, Z1' j → ¬ Z2 j := fun j h1 h2 => (z1' j h1).elim (fun h => hdis j h h2) (fun h => by have := T2.1 j h2; omega)
    have hl8 := moveA_len L xs[i]
    have hk8 := moveA_len K ms[i]
    have k1 : InM (moveA L xs[i]).2 (xs.take (i + 1)) := by
      rw [take_snoc (List.getElem?_eq_getElem hx)]
      exact moveA_in hL (by rw [← take_snoc (List.getElem?_eq_getElem hx)]; exact hnd.sublist ((List.take_sublist _ _).map _))
    have k2 : InM (moveA K ms[i]).2 (ms.take (i + 1)) := by
      rw [take_snoc (List.getElem?_eq_getElem hxm)]
      exact moveA_in hK (by rw [← take_snoc (List.getElem?_eq_getElem hxm)]; exact hndm.sublist ((List.take_sublist _ _).map _))
    obtain ⟨b', off', rfl, hb', ⟨y1, y2, y3, y4, y5⟩, -⟩ := (hs4.ext rmE g8).rm hxm
    simp (disch := omega) only [go_sem, ↓reduceIte, Nat.reduceEqDiff, Nat.reduceAdd, Nat.reduceMul, Nat.reduceSub, Nat.reduceLT, Nat.reduceLeDiff, Nat.reduceBEq, reduceCtorEq, Int.reduceLT, Int.reduceEq, Int.reduceLE, Int.reduceAdd, Int.reduceSub, Int.reduceToNat, Int.reduceNeg, h0, h8, h12, h13, h14, c2, y1, y2, y3, y4, y5]
    refine wJ_of (F.movetree_Tree_Move_J (m := ms[i]) T2' (by omega)) ?_; rintro _ S9 ⟨rfl, Z2', T2'', z2', f2⟩
    have g9 : S4.Ext S9 := g8.frm f2 hz2
    have hz2' : ∀ j, Z2' j → S4.n ≤ j := fun j hj => (z2' j hj).elim (hz2 j) (fun h => Nat.le_trans g8.n h)
    have T1'' : TreeT S9 Z1' q1 (moveA L xs[i]).2 := T1'.keep f2.n fun j hj h1 => f2.obj j hj fun h2 => hdis' j h1 h2
    have hdis'' : ∀ j, Z1' j → ¬ Z2' j := fun j h1 h2 => (z2' j h2).elim (fun h => hdis' j h1 h) (fun h => by have := T1'.1 j h1; omega)
    simp (disch := omega) only [go_sem, ↓reduceIte, Nat.reduceEqDiff, Nat.reduceAdd, Nat.reduceMul, Nat.reduceSub, Nat.reduceLT, Nat.reduceLeDiff, Nat.reduceBEq, reduceCtorEq, Int.reduceLT, Int.reduceEq, Int.reduceLE, Int.reduceAdd, Int.reduceSub, Int.reduceToNat, Int.reduceNeg, h0, h8, h12, h13, h14]
    refine ⟨xs.length - (i + 1), by omega, i + 1, (moveA L xs[i]).2, (moveA K ms[i]).2, Z1', Z2', ?_⟩
    repeat' first | assumption | omega | (exact St.Ext.refl _) | (exact List.Perm.refl _) | rfl | (exact .inl trivial) | (exact trivial) | refine And.intro ?_ ?_
  rintro fr S7 ⟨L, Z1, Z2, h0, h12, h13, T1, T2, g7, hLi⟩
  simp (disch := omega) only [go_sem, ↓reduceIte, Nat.reduceEqDiff, Nat.reduceAdd, Nat.reduceMul, Nat.reduceSub, Nat.reduceLT, Nat.reduceLeDiff, Nat.reduceBEq, reduceCtorEq, Int.reduceLT, Int.reduceEq, Int.reduceLE, Int.reduceAdd, Int.reduceSub, Int.reduceToNat, Int.reduceNeg, h12, h13]
  refine wJ_of (F.movetree_Tree_Blocks_J T1 (by omega)) ?_; rintro vb S8 ⟨hob, e8⟩
  have T1 := T1.ext e8
  have T2 := T2.ext e8
  simp (disch := omega) only [go_sem, ↓reduceIte, Nat.reduceEqDiff, Nat.reduceAdd, Nat.reduceMul, Nat.reduceSub, Nat.reduceLT, Nat.reduceLeDiff, Nat.reduceBEq, reduceCtorEq, Int.reduceLT, Int.reduceEq, Int.reduceLE, Int.reduceAdd, Int.reduceSub, Int.reduceToNat, Int.reduceNeg, h12, h13]
  refine wJ_of (F.movetree_Tree_Blocks_J T2 (by omega)) ?_; rintro vb2 S9 ⟨hob2, e9⟩
  have T1 := T1.ext e9
  have T2 := T2.ext e9
  have hob := hob.ext dotE e9
  have hBl : (risen ((runS L).map Prod.fst)).length ≤ 40 := by
    have h1 := risen_len ((runS L).map Prod.fst)
    have h2 := runS_len L
    simp at h1
    omega
  have hBm : ∀ d, d ∈ risen ((runS L).map Prod.fst) ↔ (alook d (runS L)).isSome = true := fun d => by rw [(risen_ris _).2, alook_isSome]
  generalize risen ((runS L).map Prod.fst) = B at *
  have hsb := hob.sl dotE
  have hsb2 := hob2.sl dotE
  obtain ⟨bb, cb, hv⟩ := hsb.len dotE
  subst hv
  simp (disch := omega) only [go_sem, ↓reduceIte, Nat.reduceEqDiff, Nat.reduceAdd, Nat.reduceMul, Nat.reduceSub, Nat.reduceLT, Nat.reduceLeDiff, Nat.reduceBEq, reduceCtorEq, Int.reduceLT, Int.reduceEq, Int.reduceLE, Int.reduceAdd, Int.reduceSub, Int.reduceToNat, Int.reduceNeg]
  refine wJ_of (F.osierref03_Same.J hsb hsb2 (by omega)) ?_; rintro _ _ ⟨rfl, rfl⟩
  simp (disch := omega) only [go_sem, ↓reduceIte, Nat.reduceEqDiff, Nat.reduceAdd, Nat.reduceMul, Nat.reduceSub, Nat.reduceLT, Nat.reduceLeDiff, Nat.reduceBEq, reduceCtorEq, Int.reduceLT, Int.reduceEq, Int.reduceLE, Int.reduceAdd, Int.reduceSub, Int.reduceToNat, Int.reduceNeg]
  have gl9 : S4.Ext S9 := (g7.trans e8).trans e9
  -- kids
  have kidl : ∀ (p : Dot) (l1 l2 : List Dot), IsKids (runS L) p l1 → IsKids (runS L) p l2 → l1 = l2 ∧ l1.length ≤ 40 := fun p l1 l2 k1 k2 => by
    refine ⟨k1.eq k2, ?_⟩
    have hn : l1.Nodup := k1.rises.imp fun {x y} (h : kltP (runS L) x y) (e : x = y) => kltP_irrefl (runS L) x (by rw [← e] at h; exact h)
    have hsub : l1 ⊆ (runS L).map Prod.fst := fun z hz => by
      obtain ⟨s', h1, -⟩ := (k1.mem z).1 hz
      exact alook_isSome.1 (by rw [h1]; rfl)
    have h1 := hn.length_le_of_subset hsub
    have h2 := runS_len L
    simp at h1
    omega
  refine wC_at 8 (fun fr S10 => fr 0 = .slice base xs.length cap ∧ fr 12 = ptrV q1 ∧ fr 13 = ptrV q2 ∧ S9.Ext S10) ?_ ?_
  · refine wC_loop (fun n fr S10 => ∃ i : Nat, n = B.length - i ∧ i ≤ B.length ∧ fr 0 = .slice base xs.length cap ∧ fr 12 = ptrV q1 ∧ fr 13 = ptrV q2 ∧ fr 15 = .slice bb B.length cb ∧ fr 16 = .int .i64 (i : Nat) ∧ S9.Ext S10) B.length
      ⟨0, by
        simp (disch := omega) only [go_sem, ↓reduceIte, Nat.reduceEqDiff, Nat.reduceAdd, Nat.reduceMul, Nat.reduceSub, Nat.reduceLT, Nat.reduceLeDiff, Nat.reduceBEq, reduceCtorEq, Int.reduceLT, Int.reduceEq, Int.reduceLE, Int.reduceAdd, Int.reduceSub, Int.reduceToNat, Int.reduceNeg]
        repeat' first | assumption | omega | (exact St.Ext.refl _) | (exact List.Perm.refl _) | rfl | (exact .inl trivial) | (exact trivial) | refine And.intro ?_ ?_
        ⟩ ?_
    rintro n fr S10 ⟨i, rfl, hi, h0, h12, h13, h15, h16, g10⟩
    simp (disch := omega) only [go_sem, ↓reduceIte, Nat.reduceEqDiff, Nat.reduceAdd, Nat.reduceMul, Nat.reduceSub, Nat.reduceLT, Nat.reduceLeDiff, Nat.reduceBEq, reduceCtorEq, Int.reduceLT, Int.reduceEq, Int.reduceLE, Int.reduceAdd, Int.reduceSub, Int.reduceToNat, Int.reduceNeg, F.osierlaw10_TreeOrders.l4, h0, h12, h13, h15, h16]
    refine wcond_dec (fun hlt => ?_) (fun hge => ?_)
    rotate_left
    · simp (disch := omega) only [go_sem, ↓reduceIte, Nat.reduceEqDiff, Nat.reduceAdd, Nat.reduceMul, Nat.reduceSub, Nat.reduceLT, Nat.reduceLeDiff, Nat.reduceBEq, reduceCtorEq, Int.reduceLT, Int.reduceEq, Int.reduceLE, Int.reduceAdd, Int.reduceSub, Int.reduceToNat, Int.reduceNeg, h0, h12, h13]
      repeat' first | assumption | omega | (exact St.Ext.refl _) | (exact List.Perm.refl _) | rfl | (exact .inl trivial) | (exact trivial) | refine And.intro ?_ ?_
    have hlx : i < B.length := by omega
    have c1 : (0 : Int) ≤ (i : Int) ∧ (i : Int) < (B.length : Int) := by omega
    have hld : ∃ b0 o0, bb = some ⟨b0, o0, none⟩ ∧ ∀ S', S9.Ext S' → S'.loadN ⟨b0, o0 + i * 2, none⟩ 2 = some [.int .i64 B[i].1, .int .i64 B[i].2] := by
      obtain ⟨b1, o1, hbb, -, -⟩ := hsb.dot hlx
      refine ⟨b1, o1, hbb, fun S' e => ?_⟩
      obtain ⟨b2, o2, hbb2, -, l2⟩ := (hsb.ext dotE e).dot hlx
      rw [hbb] at hbb2
      injection hbb2 with hbb2
      injection hbb2 with hb1 hb2
      subst hb1 hb2
      exact l2
    obtain ⟨b0, o0, rfl, hld⟩ := hld
    have hsome := (hBm B[i]).1 (List.getElem_mem hlx)
    have l10 := hld S10 g10
    generalize B[i] = d at *
    simp (disch := omega) only [go_sem, ↓reduceIte, Nat.reduceEqDiff, Nat.reduceAdd, Nat.reduceMul, Nat.reduceSub, Nat.reduceLT, Nat.reduceLeDiff, Nat.reduceBEq, reduceCtorEq, Int.reduceLT, Int.reduceEq, Int.reduceLE, Int.reduceAdd, Int.reduceSub, Int.reduceToNat, Int.reduceNeg, h0, h12, h13, h15, h16, c1, l10]
    refine wJ_of (F.movetree_Tree_Parent_J (d := d) (T1.ext g10)) ?_; rintro _ _ ⟨rfl, rfl⟩
    simp (disch := omega) only [go_sem, ↓reduceIte, Nat.reduceEqDiff, Nat.reduceAdd, Nat.reduceMul, Nat.reduceSub, Nat.reduceLT, Nat.reduceLeDiff, Nat.reduceBEq, reduceCtorEq, Int.reduceLT, Int.reduceEq, Int.reduceLE, Int.reduceAdd, Int.reduceSub, Int.reduceToNat, Int.reduceNeg]
    refine walloc_x [.int .i64 0, .int .i64 0] fun y S11 e11 oy hy hyn => ?_
    simp (disch := omega) only [go_sem, ↓reduceIte, Nat.reduceEqDiff, Nat.reduceAdd, Nat.reduceMul, Nat.reduceSub, Nat.reduceLT, Nat.reduceLeDiff, Nat.reduceBEq, reduceCtorEq, Int.reduceLT, Int.reduceEq, Int.reduceLE, Int.reduceAdd, Int.reduceSub, Int.reduceToNat, Int.reduceNeg]
    refine wst_w [.int .i64 ((alook d (runS L)).getD zSpot).1.1, .int .i64 ((alook d (runS L)).getD zSpot).1.2] oy rfl rfl (by simp) (by simp) rfl fun S12 oy12 b12 hy12 => ?_
    have k12 : S10.Ext S12 := e11.but b12 fun j hj => by simp [blkOf] at hj; omega
    have g12 := g10.trans k12
    have l12 := hld S12 g12
    have ly12 := cells2 oy12
    simp (disch := omega) only [go_sem, ↓reduceIte, Nat.reduceEqDiff, Nat.reduceAdd, Nat.reduceMul, Nat.reduceSub, Nat.reduceLT, Nat.reduceLeDiff, Nat.reduceBEq, reduceCtorEq, Int.reduceLT, Int.reduceEq, Int.reduceLE, Int.reduceAdd, Int.reduceSub, Int.reduceToNat, Int.reduceNeg, h0, h12, h13, h15, h16, c1, l12]
    refine wJ_of (F.movetree_Tree_Parent_J (d := d) (T2.ext g12)) ?_; rintro _ _ ⟨rfl, rfl⟩
    simp (disch := omega) only [go_sem, ↓reduceIte, Nat.reduceEqDiff, Nat.reduceAdd, Nat.reduceMul, Nat.reduceSub, Nat.reduceLT, Nat.reduceLeDiff, Nat.reduceBEq, reduceCtorEq, Int.reduceLT, Int.reduceEq, Int.reduceLE, Int.reduceAdd, Int.reduceSub, Int.reduceToNat, Int.reduceNeg]
    refine walloc_x [.int .i64 0, .int .i64 0] fun z S13 e13 oz hz hzn => ?_
    simp (disch := omega) only [go_sem, ↓reduceIte, Nat.reduceEqDiff, Nat.reduceAdd, Nat.reduceMul, Nat.reduceSub, Nat.reduceLT, Nat.reduceLeDiff, Nat.reduceBEq, reduceCtorEq, Int.reduceLT, Int.reduceEq, Int.reduceLE, Int.reduceAdd, Int.reduceSub, Int.reduceToNat, Int.reduceNeg]
    refine wst_w [.int .i64 ((alook d (runS L)).getD zSpot).1.1, .int .i64 ((alook d (runS L)).getD zSpot).1.2] oz rfl rfl (by simp) (by simp) rfl fun S14 oz14 b14 hz14 => ?_
    have k14 : S12.Ext S14 := e13.but b14 fun j hj => by simp [blkOf] at hj; omega
    have g14 := g12.trans k14
    have l14 := hld S14 g14
    have ly14 := cells2 ((k14.obj y hy12).trans oy12)
    have lz14 := cells2 oz14
    have epp := eqV_d ((alook d (runS L)).getD zSpot).1 ((alook d (runS L)).getD zSpot).1 (t := true) (by simp)
    have ekk : (((alook d (runS L)).getD zSpot).2 == ((alook d (runS L)).getD zSpot).2) = true := by rw [ba_beq]; simp
    simp (disch := omega) only [go_sem, ↓reduceIte, Nat.reduceEqDiff, Nat.reduceAdd, Nat.reduceMul, Nat.reduceSub, Nat.reduceLT, Nat.reduceLeDiff, Nat.reduceBEq, reduceCtorEq, Int.reduceLT, Int.reduceEq, Int.reduceLE, Int.reduceAdd, Int.reduceSub, Int.reduceToNat, Int.reduceNeg, h0, h12, h13, h15, h16, c1, l14, ly14, lz14, epp, ekk, hsome]
    refine wJ_of (F.movetree_Tree_Kids_J (p := d) (T1.ext g14) (by omega)) ?_; rintro vk S15 ⟨⟨K1, hK1, hok1⟩, e15⟩
    have g15 := g14.trans e15
    have l15 := hld S15 g15
    simp (disch := omega) only [go_sem, ↓reduceIte, Nat.reduceEqDiff, Nat.reduceAdd, Nat.reduceMul, Nat.reduceSub, Nat.reduceLT, Nat.reduceLeDiff, Nat.reduceBEq, reduceCtorEq, Int.reduceLT, Int.reduceEq, Int.reduceLE, Int.reduceAdd, Int.reduceSub, Int.reduceToNat, Int.reduceNeg, h0, h12, h13, h15, h16, c1, l15]
    refine wJ_of (F.movetree_Tree_Kids_J (p := d) (T2.ext g15) (by omega)) ?_; rintro vk2 S16 ⟨⟨K2, hK2, hok2⟩, e16⟩
    obtain ⟨rfl, hkl⟩ := kidl d K1 K2 hK1 hK2
    have g16 := g15.trans e16
    simp (disch := omega) only [go_sem, ↓reduceIte, Nat.reduceEqDiff, Nat.reduceAdd, Nat.reduceMul, Nat.reduceSub, Nat.reduceLT, Nat.reduceLeDiff, Nat.reduceBEq, reduceCtorEq, Int.reduceLT, Int.reduceEq, Int.reduceLE, Int.reduceAdd, Int.reduceSub, Int.reduceToNat, Int.reduceNeg]
    refine wJ_of (F.osierref03_Same.J ((hok1.ext dotE e16).sl dotE) (hok2.sl dotE) (by omega)) ?_; rintro _ _ ⟨rfl, rfl⟩
    simp (disch := omega) only [go_sem, ↓reduceIte, Nat.reduceEqDiff, Nat.reduceAdd, Nat.reduceMul, Nat.reduceSub, Nat.reduceLT, Nat.reduceLeDiff, Nat.reduceBEq, reduceCtorEq, Int.reduceLT, Int.reduceEq, Int.reduceLE, Int.reduceAdd, Int.reduceSub, Int.reduceToNat, Int.reduceNeg, h0, h12, h13, h15, h16]
    refine ⟨B.length - (i + 1), by omega, i + 1, ?_⟩
    repeat' first | assumption | omega | (exact St.Ext.refl _) | (exact List.Perm.refl _) | rfl | (exact .inl trivial) | (exact trivial) | refine And.intro ?_ ?_
  rintro fr S10 ⟨h0, h12, h13, g10⟩
  have T1 := T1.ext g10
  have T2 := T2.ext g10
  have hl10 := hl4.ext rmE (gl9.trans g10)
  simp (disch := omega) only [go_sem, ↓reduceIte, Nat.reduceEqDiff, Nat.reduceAdd, Nat.reduceMul, Nat.reduceSub, Nat.reduceLT, Nat.reduceLeDiff, Nat.reduceBEq, reduceCtorEq, Int.reduceLT, Int.reduceEq, Int.reduceLE, Int.reduceAdd, Int.reduceSub, Int.reduceToNat, Int.reduceNeg, h0, h12, h13]
  refine wC_at 10 (fun fr S11 => S11 = S10 ∧ fr 12 = ptrV q1 ∧ fr 13 = ptrV q2) ?_ ?_
  · refine wC_loop (fun n fr S11 => ∃ i : Nat, n = xs.length - i ∧ i ≤ xs.length ∧ S11 = S10 ∧ fr 0 = .slice base xs.length cap ∧ fr 12 = ptrV q1 ∧ fr 13 = ptrV q2 ∧ fr 23 = .int .i64 (i : Nat)) xs.length
      ⟨0, by
        simp (disch := omega) only [go_sem, ↓reduceIte, Nat.reduceEqDiff, Nat.reduceAdd, Nat.reduceMul, Nat.reduceSub, Nat.reduceLT, Nat.reduceLeDiff, Nat.reduceBEq, reduceCtorEq, Int.reduceLT, Int.reduceEq, Int.reduceLE, Int.reduceAdd, Int.reduceSub, Int.reduceToNat, Int.reduceNeg]
        repeat' first | assumption | omega | (exact St.Ext.refl _) | (exact List.Perm.refl _) | rfl | (exact .inl trivial) | (exact trivial) | refine And.intro ?_ ?_
        ⟩ ?_
    rintro n fr S11 ⟨i, rfl, hi, rfl, h0, h12, h13, h23⟩
    simp (disch := omega) only [go_sem, ↓reduceIte, Nat.reduceEqDiff, Nat.reduceAdd, Nat.reduceMul, Nat.reduceSub, Nat.reduceLT, Nat.reduceLeDiff, Nat.reduceBEq, reduceCtorEq, Int.reduceLT, Int.reduceEq, Int.reduceLE, Int.reduceAdd, Int.reduceSub, Int.reduceToNat, Int.reduceNeg, F.osierlaw10_TreeOrders.l5, h0, h12, h13, h23]
    refine wcond_dec (fun hlt => ?_) (fun hge => ?_)
    · have hx : i < xs.length := by omega
      have c1 : (0 : Int) ≤ (i : Int) ∧ (i : Int) < (xs.length : Int) := by omega
      obtain ⟨b, off, rfl, hb, ⟨x1, -⟩, -⟩ := hl10.rm hx
      simp (disch := omega) only [go_sem, ↓reduceIte, Nat.reduceEqDiff, Nat.reduceAdd, Nat.reduceMul, Nat.reduceSub, Nat.reduceLT, Nat.reduceLeDiff, Nat.reduceBEq, reduceCtorEq, Int.reduceLT, Int.reduceEq, Int.reduceLE, Int.reduceAdd, Int.reduceSub, Int.reduceToNat, Int.reduceNeg, h0, h12, h13, h23, c1, x1]
      refine wJ_of (F.movetree_Tree_Took_J (d := xs[i].id) T1 (by omega)) ?_; rintro _ _ ⟨rfl, rfl⟩
      simp (disch := omega) only [go_sem, ↓reduceIte, Nat.reduceEqDiff, Nat.reduceAdd, Nat.reduceMul, Nat.reduceSub, Nat.reduceLT, Nat.reduceLeDiff, Nat.reduceBEq, reduceCtorEq, Int.reduceLT, Int.reduceEq, Int.reduceLE, Int.reduceAdd, Int.reduceSub, Int.reduceToNat, Int.reduceNeg, h0, h12, h13, h23, c1, x1]
      refine wJ_of (F.movetree_Tree_Took_J (d := xs[i].id) T2 (by omega)) ?_; rintro _ _ ⟨rfl, rfl⟩
      have bt : ∀ b : Bool, (b == b) = true := fun b => by cases b <;> rfl
      simp (disch := omega) only [go_sem, ↓reduceIte, Nat.reduceEqDiff, Nat.reduceAdd, Nat.reduceMul, Nat.reduceSub, Nat.reduceLT, Nat.reduceLeDiff, Nat.reduceBEq, reduceCtorEq, Int.reduceLT, Int.reduceEq, Int.reduceLE, Int.reduceAdd, Int.reduceSub, Int.reduceToNat, Int.reduceNeg, bt, h0, h12, h13, h23]
      refine ⟨xs.length - (i + 1), by omega, i + 1, ?_⟩
      repeat' first | assumption | omega | (exact St.Ext.refl _) | (exact List.Perm.refl _) | rfl | (exact .inl trivial) | (exact trivial) | refine And.intro ?_ ?_
    · simp (disch := omega) only [go_sem, ↓reduceIte, Nat.reduceEqDiff, Nat.reduceAdd, Nat.reduceMul, Nat.reduceSub, Nat.reduceLT, Nat.reduceLeDiff, Nat.reduceBEq, reduceCtorEq, Int.reduceLT, Int.reduceEq, Int.reduceLE, Int.reduceAdd, Int.reduceSub, Int.reduceToNat, Int.reduceNeg, h12, h13]
      repeat' first | assumption | omega | (exact St.Ext.refl _) | (exact List.Perm.refl _) | rfl | (exact .inl trivial) | (exact trivial) | refine And.intro ?_ ?_
  rintro fr S11 ⟨rfl, h12, h13⟩
  simp (disch := omega) only [go_sem, ↓reduceIte, Nat.reduceEqDiff, Nat.reduceAdd, Nat.reduceMul, Nat.reduceSub, Nat.reduceLT, Nat.reduceLeDiff, Nat.reduceBEq, reduceCtorEq, Int.reduceLT, Int.reduceEq, Int.reduceLE, Int.reduceAdd, Int.reduceSub, Int.reduceToNat, Int.reduceNeg, h12, h13]
  refine wJ_of F.api_Root_J ?_; rintro _ _ ⟨rfl, rfl⟩
  simp (disch := omega) only [go_sem, ↓reduceIte, Nat.reduceEqDiff, Nat.reduceAdd, Nat.reduceMul, Nat.reduceSub, Nat.reduceLT, Nat.reduceLeDiff, Nat.reduceBEq, reduceCtorEq, Int.reduceLT, Int.reduceEq, Int.reduceLE, Int.reduceAdd, Int.reduceSub, Int.reduceToNat, Int.reduceNeg, h12, h13]
  refine wJ_of (F.movetree_Tree_Kids_J (p := (0, -1)) T1 (by omega)) ?_; rintro vk S12 ⟨⟨K1, hK1, hok1⟩, e12⟩
  simp (disch := omega) only [go_sem, ↓reduceIte, Nat.reduceEqDiff, Nat.reduceAdd, Nat.reduceMul, Nat.reduceSub, Nat.reduceLT, Nat.reduceLeDiff, Nat.reduceBEq, reduceCtorEq, Int.reduceLT, Int.reduceEq, Int.reduceLE, Int.reduceAdd, Int.reduceSub, Int.reduceToNat, Int.reduceNeg, h12, h13]
  refine wJ_of F.api_Root_J ?_; rintro _ _ ⟨rfl, rfl⟩
  simp (disch := omega) only [go_sem, ↓reduceIte, Nat.reduceEqDiff, Nat.reduceAdd, Nat.reduceMul, Nat.reduceSub, Nat.reduceLT, Nat.reduceLeDiff, Nat.reduceBEq, reduceCtorEq, Int.reduceLT, Int.reduceEq, Int.reduceLE, Int.reduceAdd, Int.reduceSub, Int.reduceToNat, Int.reduceNeg, h12, h13]
  refine wJ_of (F.movetree_Tree_Kids_J (p := (0, -1)) (T2.ext e12) (by omega)) ?_; rintro vk2 S13 ⟨⟨K2, hK2, hok2⟩, e13⟩
  obtain ⟨rfl, hkl⟩ := kidl (0, -1) K1 K2 hK1 hK2
  simp (disch := omega) only [go_sem, ↓reduceIte, Nat.reduceEqDiff, Nat.reduceAdd, Nat.reduceMul, Nat.reduceSub, Nat.reduceLT, Nat.reduceLeDiff, Nat.reduceBEq, reduceCtorEq, Int.reduceLT, Int.reduceEq, Int.reduceLE, Int.reduceAdd, Int.reduceSub, Int.reduceToNat, Int.reduceNeg]
  refine wJ_of (F.osierref03_Same.J ((hok1.ext dotE e13).sl dotE) (hok2.sl dotE) (by omega)) ?_; rintro _ _ ⟨rfl, rfl⟩
  simp (disch := omega) only [go_sem, ↓reduceIte, Nat.reduceEqDiff, Nat.reduceAdd, Nat.reduceMul, Nat.reduceSub, Nat.reduceLT, Nat.reduceLeDiff, Nat.reduceBEq, reduceCtorEq, Int.reduceLT, Int.reduceEq, Int.reduceLE, Int.reduceAdd, Int.reduceSub, Int.reduceToNat, Int.reduceNeg]
end Go.Osj
