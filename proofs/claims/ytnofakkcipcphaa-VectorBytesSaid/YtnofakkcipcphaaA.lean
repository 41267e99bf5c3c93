/- Contracts of layer 1: the reference's bytes of a number; both signs. -/
import Derived.Test.YtnofakkcipcphaaR
set_option linter.unusedSimpArgs false
namespace Go.Osj
def leN (n k : Nat) : List Int := (List.range k).map fun j => ((n / 256 ^ j % 256 : Nat) : Int)
theorem leN_len (n k : Nat) : (leN n k).length = k := by simp [leN]
theorem leN_succ (n k : Nat) : leN n (k + 1) = leN n k ++ [((n / 256 ^ k % 256 : Nat) : Int)] := by simp [leN, List.range_succ]
theorem leN_get (n k i : Nat) (h : i < (leN n k).length) : (leN n k)[i] = ((n / 256 ^ i % 256 : Nat) : Int) := by simp [leN]
theorem leN_rev (n k : Nat) : (leN n k).reverse = beN n k := by
  apply List.ext_getElem
  · simp [leN_len, beN_len]
  · intro i h1 h2
    rw [List.getElem_reverse, leN_get, beN_get, leN_len]
theorem head_step : ∀ i : Fin 8, 1 ≤ i.val → headN (i.val + 1) = headN i.val + 2 ^ (8 - i.val) ∧ 2 ^ (8 - i.val) / 2 = 2 ^ (8 - (i.val + 1)) := by decide
theorem head_fits {k q : Nat} (h1 : 1 ≤ k) (h8 : k ≤ 8) (h : q < 2 ^ (8 - k)) : q + headN k < 256 := by
  have : k = 1 ∨ k = 2 ∨ k = 3 ∨ k = 4 ∨ k = 5 ∨ k = 6 ∨ k = 7 ∨ k = 8 := by omega
  rcases this with rfl | rfl | rfl | rfl | rfl | rfl | rfl | rfl <;> simp [headN] at h ⊢ <;> omega
theorem head_le (k : Nat) : headN k ≤ 255 := by unfold headN; have := Nat.two_pow_pos (9 - k); omega
theorem wrote_set {xs : List Int} {i : Nat} (hi : i < xs.length) (y : Int) : wrote (u8s xs) i [.int .u8 y] = u8s (xs.set i y) := by
  unfold wrote
  rw [List.set_eq_take_append_cons_drop, if_pos hi]
  simp [u8s]
theorem encN_rev {n k : Nat} (hk : sizeN n = k) (hk1 : 1 ≤ k) : ((leN n k).set (k - 1) ((n / 256 ^ (k - 1) % 256 : Nat) + (headN k : Int))).reverse = encN n := by
  have henc : encN n = (beN n k).modify 0 fun b => b + headN k := by rw [← hk]; rfl
  rw [henc]
  apply List.ext_getElem
  · simp [leN_len, beN_len]
  · intro i h1 h2
    simp only [List.length_reverse, List.length_set, leN_len] at h1
    rw [List.getElem_reverse, List.getElem_set, List.getElem_modify, beN_get, leN_get]
    simp only [List.length_set, leN_len]
    by_cases hi : i = 0
    · subst hi
      simp
    · rw [if_neg (by omega), if_neg (by omega)]
theorem tmodN (m k : Nat) : ((m : Nat) : Int).tmod (k : Nat) = ((m % k : Nat) : Int) := rfl
theorem tdivN (m k : Nat) : ((m : Nat) : Int).tdiv (k : Nat) = ((m / k : Nat) : Int) := rfl

theorem F.osierref01_Uint_J {S : St} {n : Nat} (hn : n < 18446744073709551616) : J PR F.osierref01_Uint [.int .u64 n] S fun v S' => OwnT byteE S.n S' v (encN n) ∧ S.Ext S' := by
  refine J_by PR.mixed F.osierref01_Uint.ok (by simp) ?_
  simp (disch := omega) only [go_sem, ↓reduceIte, Nat.reduceEqDiff, Nat.reduceAdd, Nat.reduceMul, Nat.reduceSub, Nat.reduceLT, Nat.reduceLeDiff, Nat.reduceBEq, Nat.reduceLeDiff, reduceCtorEq, Int.reduceLT, Int.reduceEq, Int.reduceLE, Int.reduceAdd, Int.reduceSub, Int.reduceToNat, Int.reduceNeg, Int.toNat_natCast, beq_self_eq_true, wrap64, undef, Nat.zero_add, Nat.add_zero, Int.zero_add, Int.add_zero, Int.sub_zero, St.loadN_other, St.cell_other]
  refine wJ_of (F.osierref01_Size_J hn) ?_; rintro _ _ ⟨rfl, rfl⟩
  have hk := sizeN_range n
  have hfirst := be_first hn (rfl : sizeN n = sizeN n)
  have hrev := encN_rev (rfl : sizeN n = sizeN n) hk.1
  generalize sizeN n = k at *
  simp (disch := omega) only [go_sem, ↓reduceIte, Nat.reduceEqDiff, Nat.reduceAdd, Nat.reduceMul, Nat.reduceSub, Nat.reduceLT, Nat.reduceLeDiff, Nat.reduceBEq, Nat.reduceLeDiff, reduceCtorEq, Int.reduceLT, Int.reduceEq, Int.reduceLE, Int.reduceAdd, Int.reduceSub, Int.reduceToNat, Int.reduceNeg, Int.toNat_natCast, beq_self_eq_true, wrap64, undef, Nat.zero_add, Nat.add_zero, Int.zero_add, Int.add_zero, Int.sub_zero, St.loadN_other, St.cell_other]
  refine wC_at 0 (fun fr S' => ∃ v, fr 3 = .int .i64 k ∧ fr 4 = v ∧ OwnT byteE S.n S' v (leN n k) ∧ S.Ext S') ?_ ?_
  · refine wC_loop (fun m fr S' => ∃ (i : Nat) (v : Value), m = k - i ∧ i ≤ k ∧ fr 0 = .int .u64 ((n / 256 ^ i : Nat) : Int) ∧ fr 3 = .int .i64 k ∧ fr 4 = v ∧ fr 5 = .int .i64 (i : Nat) ∧ S.Ext S' ∧ OwnT byteE S.n S' v (leN n i)) k
      ⟨0, .slice none 0 0, by simp (disch := omega) only [go_sem, ↓reduceIte, Nat.reduceEqDiff, Nat.reduceAdd, Nat.reduceMul, Nat.reduceSub, Nat.reduceLT, Nat.reduceLeDiff, Nat.reduceBEq, Nat.reduceLeDiff, reduceCtorEq, Int.reduceLT, Int.reduceEq, Int.reduceLE, Int.reduceAdd, Int.reduceSub, Int.reduceToNat, Int.reduceNeg, Int.toNat_natCast, beq_self_eq_true, wrap64, undef, Nat.zero_add, Nat.add_zero, Int.zero_add, Int.add_zero, Int.sub_zero, St.loadN_other, St.cell_other]; exact ⟨by simp, by simp, by simp, St.Ext.refl _, by simpa [leN] using OwnT.nil byteE S.n S⟩⟩ ?_
    rintro m fr S1 ⟨i, v, rfl, hi, h0, h3, h4, h5, he, ho⟩
    simp (disch := omega) only [go_sem, ↓reduceIte, Nat.reduceEqDiff, Nat.reduceAdd, Nat.reduceMul, Nat.reduceSub, Nat.reduceLT, Nat.reduceLeDiff, Nat.reduceBEq, Nat.reduceLeDiff, reduceCtorEq, Int.reduceLT, Int.reduceEq, Int.reduceLE, Int.reduceAdd, Int.reduceSub, Int.reduceToNat, Int.reduceNeg, Int.toNat_natCast, beq_self_eq_true, wrap64, undef, Nat.zero_add, Nat.add_zero, Int.zero_add, Int.add_zero, Int.sub_zero, St.loadN_other, St.cell_other, F.osierref01_Uint.l0, h0, h3, h4, h5]
    refine wcond_dec (fun hlt => ?_) (fun hge => ?_)
    · have hle : n / 256 ^ i ≤ n := Nat.div_le_self _ _
      have e0 : n / 256 ^ (i + 1) = n / 256 ^ i / 256 := by rw [Nat.pow_succ, Nat.div_div_eq_div_mul]
      have hsucc := leN_succ n i
      rw [← e0.symm] at e0
      generalize hq : n / 256 ^ i = q at *
      have e1 : ((q : Nat) : Int).tmod 256 = ((q % 256 : Nat) : Int) := tmodN q 256
      have e2 : ((q : Nat) : Int).tdiv 256 = ((q / 256 : Nat) : Int) := tdivN q 256
      have e3 : IntKind.u8.wrap ((q % 256 : Nat) : Int) = ((q % 256 : Nat) : Int) := wrapu8 (by omega) (by omega)
      have e4 : IntKind.u64.wrap ((q / 256 : Nat) : Int) = ((q / 256 : Nat) : Int) := wrapu64 (by omega) (by omega)
      simp (disch := omega) only [go_sem, ↓reduceIte, Nat.reduceEqDiff, Nat.reduceAdd, Nat.reduceMul, Nat.reduceSub, Nat.reduceLT, Nat.reduceLeDiff, Nat.reduceBEq, Nat.reduceLeDiff, reduceCtorEq, Int.reduceLT, Int.reduceEq, Int.reduceLE, Int.reduceAdd, Int.reduceSub, Int.reduceToNat, Int.reduceNeg, Int.toNat_natCast, beq_self_eq_true, wrap64, undef, Nat.zero_add, Nat.add_zero, Int.zero_add, Int.add_zero, Int.sub_zero, St.loadN_other, St.cell_other, h0, h3, h4, h5, e1, e3]
      refine wfresh_of fun u hu => ?_
      simp (disch := omega) only [go_sem, ↓reduceIte, Nat.reduceEqDiff, Nat.reduceAdd, Nat.reduceMul, Nat.reduceSub, Nat.reduceLT, Nat.reduceLeDiff, Nat.reduceBEq, Nat.reduceLeDiff, reduceCtorEq, Int.reduceLT, Int.reduceEq, Int.reduceLE, Int.reduceAdd, Int.reduceSub, Int.reduceToNat, Int.reduceNeg, Int.toNat_natCast, beq_self_eq_true, wrap64, undef, Nat.zero_add, Nat.add_zero, Int.zero_add, Int.add_zero, Int.sub_zero, St.loadN_other, St.cell_other, h0, h3, h4, h5]
      have he2 := (St.Ext.refl S1).put hu (.cells true 1 [.int .u8 ((q % 256 : Nat) : Int)])
      refine wE_app byteE (ys := [((q % 256 : Nat) : Int)]) (ho.ext byteE he2) (SlT.lit byteE (xs := [((q % 256 : Nat) : Int)])) rfl rfl (he.trans he2).n (by simp [leN_len]; omega) (by simp [leN_len]; omega) fun v3 S3 ho3 hb3 hv3 => ?_
      simp (disch := omega) only [go_sem, ↓reduceIte, Nat.reduceEqDiff, Nat.reduceAdd, Nat.reduceMul, Nat.reduceSub, Nat.reduceLT, Nat.reduceLeDiff, Nat.reduceBEq, Nat.reduceLeDiff, reduceCtorEq, Int.reduceLT, Int.reduceEq, Int.reduceLE, Int.reduceAdd, Int.reduceSub, Int.reduceToNat, Int.reduceNeg, Int.toNat_natCast, beq_self_eq_true, wrap64, undef, Nat.zero_add, Nat.add_zero, Int.zero_add, Int.add_zero, Int.sub_zero, St.loadN_other, St.cell_other, h0, h3, h4, h5, e2, e4]
      refine ⟨k - (i + 1), by omega, i + 1, _, rfl, by omega, by rw [Nat.pow_succ, ← Nat.div_div_eq_div_mul, hq], rfl, rfl, (he.trans he2).but hb3 (ho.fresh byteE), ?_⟩
      rw [hsucc]
      exact ho3
    · simp (disch := omega) only [go_sem, ↓reduceIte, Nat.reduceEqDiff, Nat.reduceAdd, Nat.reduceMul, Nat.reduceSub, Nat.reduceLT, Nat.reduceLeDiff, Nat.reduceBEq, Nat.reduceLeDiff, reduceCtorEq, Int.reduceLT, Int.reduceEq, Int.reduceLE, Int.reduceAdd, Int.reduceSub, Int.reduceToNat, Int.reduceNeg, Int.toNat_natCast, beq_self_eq_true, wrap64, undef, Nat.zero_add, Nat.add_zero, Int.zero_add, Int.add_zero, Int.sub_zero, St.loadN_other, St.cell_other, h3, h4]
      have hik : i = k := by omega
      subst hik
      exact ⟨_, rfl, ho, he⟩
  rintro fr S1 ⟨v, h3, h4, ho, he⟩
  change wC (q := _) PR (.seq _ _) _ _
  refine wC_cut (fun fr S' => ∃ b c, fr 3 = .int .i64 k ∧ fr 4 = .slice (some ⟨b, 0, none⟩) k c ∧ OwnT byteE S.n S' (.slice (some ⟨b, 0, none⟩) k c) ((leN n k).set (k - 1) ((n / 256 ^ (k - 1) % 256 : Nat) + (headN k : Int))) ∧ S.Ext S') ?_ ?_
  · have hll := leN_len n k
    rcases ho with ⟨h, -⟩ | ⟨b, c, rfl, hB, hb, hc, hob⟩
    · rw [h] at hll
      simp at hll
      omega
    rw [hll] at h4 hc
    rw [byteE_flat] at hob
    have hfinish : ∀ y : Int, y = (n / 256 ^ (k - 1) % 256 : Nat) + (headN k : Int) → OwnT byteE S.n (S1.put b (.cells true (c * 1) (wrote (u8s (leN n k)) (k - 1) [.int .u8 y]))) (.slice (some ⟨b, 0, none⟩) k c) ((leN n k).set (k - 1) ((n / 256 ^ (k - 1) % 256 : Nat) + (headN k : Int))) ∧
        S.Ext (S1.put b (.cells true (c * 1) (wrote (u8s (leN n k)) (k - 1) [.int .u8 y]))) := by
      intro y hy
      subst hy
      rw [wrote_set (by omega)]
      refine ⟨?_, ⟨Nat.le_trans he.n (by rw [St.put_n]; omega), fun i hi => by rw [St.put_other _ _ _ (by omega)]; exact he.obj i hi⟩⟩
      have := OwnT.mk byteE (B := S.n) (S := S1.put b (.cells true (c * 1) (u8s ((leN n k).set (k - 1) ((n / 256 ^ (k - 1) % 256 : Nat) + (headN k : Int)))))) (b := b) (c := c) (xs := (leN n k).set (k - 1) ((n / 256 ^ (k - 1) % 256 : Nat) + (headN k : Int))) hB (St.lt_put_self _ _ _) (by simp [hll]; exact hc) (by rw [St.put_same, byteE_flat]; rfl)
      simpa [hll] using this
    simp (disch := omega) only [go_sem, ↓reduceIte, Nat.reduceEqDiff, Nat.reduceAdd, Nat.reduceMul, Nat.reduceSub, Nat.reduceLT, Nat.reduceLeDiff, Nat.reduceBEq, Nat.reduceLeDiff, reduceCtorEq, Int.reduceLT, Int.reduceEq, Int.reduceLE, Int.reduceAdd, Int.reduceSub, Int.reduceToNat, Int.reduceNeg, Int.toNat_natCast, beq_self_eq_true, wrap64, undef, Nat.zero_add, Nat.add_zero, Int.zero_add, Int.add_zero, Int.sub_zero, St.loadN_other, St.cell_other, h3, h4]
    refine wcond_dec (fun h9 => ?_) (fun h9 => ?_)
    · have hk9 : k = 9 := by omega
      subst hk9
      simp (disch := omega) only [go_sem, ↓reduceIte, Nat.reduceEqDiff, Nat.reduceAdd, Nat.reduceMul, Nat.reduceSub, Nat.reduceLT, Nat.reduceLeDiff, Nat.reduceBEq, Nat.reduceLeDiff, reduceCtorEq, Int.reduceLT, Int.reduceEq, Int.reduceLE, Int.reduceAdd, Int.reduceSub, Int.reduceToNat, Int.reduceNeg, Int.toNat_natCast, beq_self_eq_true, wrap64, undef, Nat.zero_add, Nat.add_zero, Int.zero_add, Int.add_zero, Int.sub_zero, St.loadN_other, St.cell_other, h3, h4]
      refine wst_of hob rfl rfl (by simp [hll]) (by simp [byteE]; omega) ?_
      simp only [cells_int]
      simp (disch := omega) only [go_sem, ↓reduceIte, Nat.reduceEqDiff, Nat.reduceAdd, Nat.reduceMul, Nat.reduceSub, Nat.reduceLT, Nat.reduceLeDiff, Nat.reduceBEq, Nat.reduceLeDiff, reduceCtorEq, Int.reduceLT, Int.reduceEq, Int.reduceLE, Int.reduceAdd, Int.reduceSub, Int.reduceToNat, Int.reduceNeg, Int.toNat_natCast, beq_self_eq_true, wrap64, undef, Nat.zero_add, Nat.add_zero, Int.zero_add, Int.add_zero, Int.sub_zero, St.loadN_other, St.cell_other, h3, h4]
      refine ⟨_, _, rfl, ?_⟩
      refine hfinish 255 ?_
      rw [show (9 : Nat) - 1 = 8 from rfl] at hfirst
      rw [show (9 : Nat) - 1 = 8 from rfl, hfirst.2 rfl]
      rfl
    · simp (disch := omega) only [go_sem, ↓reduceIte, Nat.reduceEqDiff, Nat.reduceAdd, Nat.reduceMul, Nat.reduceSub, Nat.reduceLT, Nat.reduceLeDiff, Nat.reduceBEq, Nat.reduceLeDiff, reduceCtorEq, Int.reduceLT, Int.reduceEq, Int.reduceLE, Int.reduceAdd, Int.reduceSub, Int.reduceToNat, Int.reduceNeg, Int.toNat_natCast, beq_self_eq_true, wrap64, undef, Nat.zero_add, Nat.add_zero, Int.zero_add, Int.add_zero, Int.sub_zero, St.loadN_other, St.cell_other, h3, h4]
      refine wC_loop (fun m fr S' => ∃ i : Nat, m = k - i ∧ 1 ≤ i ∧ i ≤ k ∧ S1 = S' ∧ fr 3 = .int .i64 k ∧ fr 4 = .slice (some ⟨b, 0, none⟩) k c ∧ fr 6 = .int .i64 (headN i : Nat) ∧ fr 7 = .int .i64 ((2 ^ (8 - i) : Nat) : Int) ∧ fr 8 = .int .i64 (i : Nat)) (k - 1) ⟨1, by simp (disch := omega) only [go_sem, ↓reduceIte, Nat.reduceEqDiff, Nat.reduceAdd, Nat.reduceMul, Nat.reduceSub, Nat.reduceLT, Nat.reduceLeDiff, Nat.reduceBEq, Nat.reduceLeDiff, reduceCtorEq, Int.reduceLT, Int.reduceEq, Int.reduceLE, Int.reduceAdd, Int.reduceSub, Int.reduceToNat, Int.reduceNeg, Int.toNat_natCast, beq_self_eq_true, wrap64, undef, Nat.zero_add, Nat.add_zero, Int.zero_add, Int.add_zero, Int.sub_zero, St.loadN_other, St.cell_other, h3, h4]; exact ⟨by omega, rfl, rfl⟩⟩ ?_
      rintro m fr S2 ⟨i, rfl, hi1, hik, rfl, h3, h4, h6, h7, h8⟩
      simp (disch := omega) only [go_sem, ↓reduceIte, Nat.reduceEqDiff, Nat.reduceAdd, Nat.reduceMul, Nat.reduceSub, Nat.reduceLT, Nat.reduceLeDiff, Nat.reduceBEq, Nat.reduceLeDiff, reduceCtorEq, Int.reduceLT, Int.reduceEq, Int.reduceLE, Int.reduceAdd, Int.reduceSub, Int.reduceToNat, Int.reduceNeg, Int.toNat_natCast, beq_self_eq_true, wrap64, undef, Nat.zero_add, Nat.add_zero, Int.zero_add, Int.add_zero, Int.sub_zero, St.loadN_other, St.cell_other, F.osierref01_Uint.l1, h3, h4, h6, h7, h8]
      refine wcond_dec (fun hlt => ?_) (fun hge => ?_)
      · have hi8 : i < 8 := by omega
        obtain ⟨g1, g2⟩ := head_step ⟨i, hi8⟩ hi1
        simp only at g1 g2
        have hb1 := head_le (i + 1)
        have e1 : IntKind.i64.wrap ((headN i : Nat) + ((2 ^ (8 - i) : Nat) : Int)) = ((headN (i + 1) : Nat) : Int) := by
          rw [g1]
          rw [wrap64 (by omega) (by omega)]
          omega
        have e2 : IntKind.i64.wrap (((2 ^ (8 - i) : Nat) : Int).tdiv 2) = ((2 ^ (8 - (i + 1)) : Nat) : Int) := by
          have : ((2 ^ (8 - i) : Nat) : Int).tdiv 2 = ((2 ^ (8 - i) / 2 : Nat) : Int) := tdivN _ 2
          rw [this, g2]
          have := Nat.pow_le_pow_right (n := 2) (by decide) (show 8 - (i + 1) ≤ 8 by omega)
          generalize (2 ^ (8 - (i + 1)) : Nat) = w at *
          exact wrap64 (by omega) (by omega)
        simp (disch := omega) only [go_sem, ↓reduceIte, Nat.reduceEqDiff, Nat.reduceAdd, Nat.reduceMul, Nat.reduceSub, Nat.reduceLT, Nat.reduceLeDiff, Nat.reduceBEq, Nat.reduceLeDiff, reduceCtorEq, Int.reduceLT, Int.reduceEq, Int.reduceLE, Int.reduceAdd, Int.reduceSub, Int.reduceToNat, Int.reduceNeg, Int.toNat_natCast, beq_self_eq_true, wrap64, undef, Nat.zero_add, Nat.add_zero, Int.zero_add, Int.add_zero, Int.sub_zero, St.loadN_other, St.cell_other, h3, h4, h6, h7, h8, e1, e2]
        exact ⟨k - (i + 1), by omega, i + 1, rfl, by omega, by omega, rfl, rfl, rfl⟩
      · have hk2 : i = k := by omega
        subst hk2
        have e1 : (i : Int) - 1 = ((i - 1 : Nat) : Int) := by omega
        have c1 : (0 : Int) ≤ ((i - 1 : Nat) : Int) ∧ ((i - 1 : Nat) : Int) < (i : Int) := by omega
        have lx : S1.cell ⟨b, i - 1, none⟩ = some (.int .u8 ((n / 256 ^ (i - 1) % 256 : Nat) : Int)) := by
          rw [St.cell_def, hob]
          have := leN_get n i (i - 1) (by rw [hll]; omega)
          rw [← this]
          simp
        have hq : n / 256 ^ (i - 1) % 256 + headN i < 256 := by
          have h8 : i ≤ 8 := by omega
          have := hfirst.1 h8
          exact head_fits hi1 h8 (Nat.lt_of_le_of_lt (Nat.mod_le _ _) this)
        have e2 : IntKind.u8.wrap ((headN i : Nat) : Int) = ((headN i : Nat) : Int) := wrapu8 (by omega) (by omega)
        have e3 : IntKind.u8.wrap (((n / 256 ^ (i - 1) % 256 : Nat) : Int) + ((headN i : Nat) : Int)) = ((n / 256 ^ (i - 1) % 256 : Nat) : Int) + ((headN i : Nat) : Int) := wrapu8 (by omega) (by omega)
        simp (disch := omega) only [go_sem, ↓reduceIte, Nat.reduceEqDiff, Nat.reduceAdd, Nat.reduceMul, Nat.reduceSub, Nat.reduceLT, Nat.reduceLeDiff, Nat.reduceBEq, Nat.reduceLeDiff, reduceCtorEq, Int.reduceLT, Int.reduceEq, Int.reduceLE, Int.reduceAdd, Int.reduceSub, Int.reduceToNat, Int.reduceNeg, Int.toNat_natCast, beq_self_eq_true, wrap64, undef, Nat.zero_add, Nat.add_zero, Int.zero_add, Int.add_zero, Int.sub_zero, St.loadN_other, St.cell_other, h3, h4, h6, h7, h8, e1, c1, Nat.mul_one, lx, e2, e3]
        refine wst_of hob rfl rfl (by simp [hll]) (by simp [byteE]; omega) ?_
        simp only [cells_int]
        simp (disch := omega) only [go_sem, ↓reduceIte, Nat.reduceEqDiff, Nat.reduceAdd, Nat.reduceMul, Nat.reduceSub, Nat.reduceLT, Nat.reduceLeDiff, Nat.reduceBEq, Nat.reduceLeDiff, reduceCtorEq, Int.reduceLT, Int.reduceEq, Int.reduceLE, Int.reduceAdd, Int.reduceSub, Int.reduceToNat, Int.reduceNeg, Int.toNat_natCast, beq_self_eq_true, wrap64, undef, Nat.zero_add, Nat.add_zero, Int.zero_add, Int.add_zero, Int.sub_zero, St.loadN_other, St.cell_other, h3, h4]
        exact ⟨_, _, rfl, hfinish _ rfl⟩
  rintro fr S2 ⟨b, c, h3, h4, ho2, he2⟩
  generalize hys : (leN n k).set (k - 1) ((n / 256 ^ (k - 1) % 256 : Nat) + (headN k : Int)) = ys at ho2 hrev
  have hyl : ys.length = k := by rw [← hys]; simp [leN_len]
  have hs2 := ho2.sl byteE
  have hB2 := ho2.blk byteE b rfl
  simp (disch := omega) only [go_sem, ↓reduceIte, Nat.reduceEqDiff, Nat.reduceAdd, Nat.reduceMul, Nat.reduceSub, Nat.reduceLT, Nat.reduceLeDiff, Nat.reduceBEq, Nat.reduceLeDiff, reduceCtorEq, Int.reduceLT, Int.reduceEq, Int.reduceLE, Int.reduceAdd, Int.reduceSub, Int.reduceToNat, Int.reduceNeg, Int.toNat_natCast, beq_self_eq_true, wrap64, undef, Nat.zero_add, Nat.add_zero, Int.zero_add, Int.add_zero, Int.sub_zero, St.loadN_other, St.cell_other, h3, h4]
  refine wC_loop (fun m fr S' => ∃ (j : Nat) (v : Value), m = j ∧ j ≤ k ∧ fr 4 = .slice (some ⟨b, 0, none⟩) k c ∧ fr 9 = v ∧ fr 10 = .int .i64 ((j : Int) - 1) ∧ S2.Ext S' ∧ OwnT byteE S2.n S' v (ys.drop j).reverse) k
    ⟨k, .slice none 0 0, by simp (disch := omega) only [go_sem, ↓reduceIte, Nat.reduceEqDiff, Nat.reduceAdd, Nat.reduceMul, Nat.reduceSub, Nat.reduceLT, Nat.reduceLeDiff, Nat.reduceBEq, Nat.reduceLeDiff, reduceCtorEq, Int.reduceLT, Int.reduceEq, Int.reduceLE, Int.reduceAdd, Int.reduceSub, Int.reduceToNat, Int.reduceNeg, Int.toNat_natCast, beq_self_eq_true, wrap64, undef, Nat.zero_add, Nat.add_zero, Int.zero_add, Int.add_zero, Int.sub_zero, St.loadN_other, St.cell_other, h3, h4]; exact ⟨by omega, St.Ext.refl _, by rw [List.drop_of_length_le (by omega)]; exact OwnT.nil ..⟩⟩ ?_
  rintro j fr S3 ⟨_, v, rfl, hj, h4, h9, h10, he3, ho3⟩
  simp (disch := omega) only [go_sem, ↓reduceIte, Nat.reduceEqDiff, Nat.reduceAdd, Nat.reduceMul, Nat.reduceSub, Nat.reduceLT, Nat.reduceLeDiff, Nat.reduceBEq, Nat.reduceLeDiff, reduceCtorEq, Int.reduceLT, Int.reduceEq, Int.reduceLE, Int.reduceAdd, Int.reduceSub, Int.reduceToNat, Int.reduceNeg, Int.toNat_natCast, beq_self_eq_true, wrap64, undef, Nat.zero_add, Nat.add_zero, Int.zero_add, Int.add_zero, Int.sub_zero, St.loadN_other, St.cell_other, F.osierref01_Uint.l2, h4, h9, h10]
  refine wcond_dec (fun hlt => ?_) (fun hge => ?_)
  · obtain ⟨i, rfl⟩ : ∃ i, j = i + 1 := ⟨j - 1, by omega⟩
    have e1 : ((i + 1 : Nat) : Int) - 1 = (i : Int) := by omega
    have hiy : i < ys.length := by omega
    have c1 : (0 : Int) ≤ (i : Int) ∧ (i : Int) < (k : Int) := by omega
    rw [← hyl] at hs2
    obtain ⟨b', off', hbb, hb', hx⟩ := SlT.byte (hs2.ext byteE he3) hiy
    simp only [Option.some.injEq, Addr.mk.injEq, and_true] at hbb
    obtain ⟨rfl, rfl⟩ := hbb
    rw [Nat.zero_add] at hx
    simp (disch := omega) only [go_sem, ↓reduceIte, Nat.reduceEqDiff, Nat.reduceAdd, Nat.reduceMul, Nat.reduceSub, Nat.reduceLT, Nat.reduceLeDiff, Nat.reduceBEq, Nat.reduceLeDiff, reduceCtorEq, Int.reduceLT, Int.reduceEq, Int.reduceLE, Int.reduceAdd, Int.reduceSub, Int.reduceToNat, Int.reduceNeg, Int.toNat_natCast, beq_self_eq_true, wrap64, undef, Nat.zero_add, Nat.add_zero, Int.zero_add, Int.add_zero, Int.sub_zero, St.loadN_other, St.cell_other, h4, h9, h10, e1, c1, Nat.mul_one, hx]
    refine wfresh_of fun u hu => ?_
    simp (disch := omega) only [go_sem, ↓reduceIte, Nat.reduceEqDiff, Nat.reduceAdd, Nat.reduceMul, Nat.reduceSub, Nat.reduceLT, Nat.reduceLeDiff, Nat.reduceBEq, Nat.reduceLeDiff, reduceCtorEq, Int.reduceLT, Int.reduceEq, Int.reduceLE, Int.reduceAdd, Int.reduceSub, Int.reduceToNat, Int.reduceNeg, Int.toNat_natCast, beq_self_eq_true, wrap64, undef, Nat.zero_add, Nat.add_zero, Int.zero_add, Int.add_zero, Int.sub_zero, St.loadN_other, St.cell_other, h4, h9, h10]
    have he4 := (St.Ext.refl S3).put hu (.cells true 1 [.int .u8 ys[i]])
    refine wE_app byteE (ys := [ys[i]]) (ho3.ext byteE he4) (SlT.lit byteE (xs := [ys[i]])) rfl rfl (he3.trans he4).n (by simp; omega) (by simp; omega) fun v8 S8 ho8 hb8 hv8 => ?_
    simp (disch := omega) only [go_sem, ↓reduceIte, Nat.reduceEqDiff, Nat.reduceAdd, Nat.reduceMul, Nat.reduceSub, Nat.reduceLT, Nat.reduceLeDiff, Nat.reduceBEq, Nat.reduceLeDiff, reduceCtorEq, Int.reduceLT, Int.reduceEq, Int.reduceLE, Int.reduceAdd, Int.reduceSub, Int.reduceToNat, Int.reduceNeg, Int.toNat_natCast, beq_self_eq_true, wrap64, undef, Nat.zero_add, Nat.add_zero, Int.zero_add, Int.add_zero, Int.sub_zero, St.loadN_other, St.cell_other, h4, h9, h10, e1]
    refine ⟨i, by omega, i, _, rfl, by omega, rfl, rfl, (he3.trans he4).but hb8 (ho3.fresh byteE), ?_⟩
    rw [List.drop_eq_getElem_cons hiy, List.reverse_cons]
    exact ho8
  · simp (disch := omega) only [go_sem, ↓reduceIte, Nat.reduceEqDiff, Nat.reduceAdd, Nat.reduceMul, Nat.reduceSub, Nat.reduceLT, Nat.reduceLeDiff, Nat.reduceBEq, Nat.reduceLeDiff, reduceCtorEq, Int.reduceLT, Int.reduceEq, Int.reduceLE, Int.reduceAdd, Int.reduceSub, Int.reduceToNat, Int.reduceNeg, Int.toNat_natCast, beq_self_eq_true, wrap64, undef, Nat.zero_add, Nat.add_zero, Int.zero_add, Int.add_zero, Int.sub_zero, St.loadN_other, St.cell_other, h9]
    have hj0 : j = 0 := by omega
    subst hj0
    rw [List.drop_zero, hrev] at ho3
    exact ⟨ho3.mono byteE he2.n, he2.trans he3⟩
end Go.Osj
