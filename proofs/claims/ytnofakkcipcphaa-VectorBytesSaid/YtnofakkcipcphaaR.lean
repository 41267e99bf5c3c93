/- Contracts of layer 1: a number's bytes, put. -/
import Derived.Test.YtnofakkcipcphaaQ
set_option linter.unusedSimpArgs false
namespace Go.Osj
def byteE : Enc Int := ⟨fun a => [.int .u8 a], 1, fun _ => rfl, fun _ => rfl, by decide⟩
abbrev u8s (xs : List Int) : List Value := xs.map (Value.int .u8)
theorem byteE_flat (xs : List Int) : byteE.flat xs = u8s xs := by
  induction xs with
  | nil => rfl
  | cons x xs ih => rw [Enc.flat_cons, ih]; rfl
theorem u8s_one (xs : List Int) : oneC (u8s xs) = true := by rw [← byteE_flat]; exact byteE.flat_one xs
theorem rowC_u8 (n : Nat) : rowC [.int .u8 0] n = u8s (List.replicate n 0) := by
  apply List.ext_getElem
  · simp [rowC]
  · intro i h1 h2
    simp [rowC, Nat.mod_one]
/-- Appending where there is room. -/
theorem wE_app_in {P : Program} {fr : Fr} {S : St} {k : KV} {s x : Operand} {esz bytes b n m c cap : Nat} {cs news : List Value} (ho : S.obj b = some (.cells true cap cs)) (hs : ev fr s = .slice (some ⟨b, 0, none⟩) n c)
    (hy : S.loadX esz (ev fr x) = some (m, news)) (hc : n + m ≤ c) (h1 : oneC news = true) (hpos : ¬ m * esz = 0) (hle : n * esz ≤ cs.length) (hcap : n * esz + news.length ≤ cap)
    (hk : k.run (.slice (some ⟨b, 0, none⟩) (n + m) c) (S.put b (.cells true cap (wrote cs (n * esz) news)))) : @wE P (.app esz bytes s x) fr S k := by
  unfold wE
  simp only [JE, hs]
  refine ⟨m, news, hy, fun _ => ?_, fun h => by omega⟩
  rw [if_neg hpos]
  exact ⟨h1, trivial, _, by rw [Nat.zero_add]; exact St.write_own ho _ hle hcap, hk⟩
theorem St.put_eq {S : St} {b : Nat} {o : AObj} (h : S.obj b = some o) (hb : b < S.n) : S.put b o = S := by
  obtain ⟨n, obj⟩ := S
  simp only [St.put] at *
  congr 1
  · omega
  · funext i
    split
    · rename_i hi; subst hi; exact h.symm
    · rfl
/-- Copying all of a slice to the front of a block. -/
theorem wE_cp_in {α : Type} (E : Enc α) {P : Program} {fr : Fr} {S : St} {k : KV} {d s : Operand} {b n c cap : Nat} {cs : List Value} {xs : List α} (ho : S.obj b = some (.cells true cap cs)) (hbn : b < S.n) (hd : ev fr d = .slice (some ⟨b, 0, none⟩) n c)
    (hs : SlT E S (ev fr s) xs) (hn : xs.length = n) (hcap : n * E.k ≤ cap) (hk : k.run (.int .i64 n) (S.put b (.cells true cap (wrote cs 0 (E.flat xs))))) : @wE P (.cp E.k d s) fr S k := by
  subst hn
  have hnews := hs.news E
  obtain ⟨base, c2, he⟩ := hs.len E
  rw [he] at hnews
  simp only [St.loadX, Option.map_eq_some_iff, Prod.mk.injEq, true_and] at hnews
  obtain ⟨cs', h1, rfl⟩ := hnews
  unfold wE
  simp only [JE, hd, he, Nat.min_self]
  refine ⟨_, h1, ?_⟩
  split
  · rename_i h0
    have hx : xs = [] := by
      rcases Nat.mul_eq_zero.1 h0 with h | h
      · exact List.eq_nil_of_length_eq_zero h
      · have := E.pos; omega
    subst hx
    have e : wrote cs 0 (E.flat []) = cs := by simp [wrote, Enc.flat]
    rw [e, St.put_eq ho hbn] at hk
    exact hk
  · exact ⟨E.flat_one xs, _, St.write_own ho 0 (Nat.zero_le _) (by rw [E.flat_length]; omega), hk⟩
theorem wrote_mid (A B Z : List Value) : wrote (A ++ Z) A.length B = A ++ B ++ Z.drop B.length := by
  unfold wrote
  rw [List.take_left', List.drop_append, List.drop_of_length_le (by omega)]
  · simp
  · rfl
theorem orHead_ok : ∀ (k : Fin 10) (b : Fin 256), 1 ≤ k.val → (k.val ≤ 8 → b.val < 2 ^ (8 - k.val)) → (k.val = 9 → b.val = 0) → bits .or .u8 (b.val : Int) (headN k.val : Int) = ((b.val + headN k.val : Nat) : Int) := by decide +kernel
theorem be_first {n : Nat} (hn : n < 18446744073709551616) {k : Nat} (hk : sizeN n = k) : (k ≤ 8 → n / 256 ^ (k - 1) < 2 ^ (8 - k)) ∧ (k = 9 → n / 256 ^ (k - 1) = 0) := by
  have hr := sizeN_range n
  constructor
  · intro h
    have h1 := sizeN_hi (n := n) (by omega)
    rw [hk] at h1
    rw [Nat.div_lt_iff_lt_mul (Nat.pow_pos (by decide)), show (256 : Nat) = 2 ^ 8 from rfl, ← Nat.pow_mul, ← Nat.pow_add]
    rw [show 8 - k + 8 * (k - 1) = 7 * k by omega]
    exact h1
  · intro h
    subst h
    rw [Nat.div_eq_zero_iff]
    right
    exact hn
theorem SlT.byte {S : St} {base : Option Addr} {n cap : Nat} {xs : List Int} (h : SlT byteE S (.slice base n cap) xs) {i : Nat} (hi : i < xs.length) :
    ∃ b off, base = some ⟨b, off, none⟩ ∧ b < S.n ∧ S.cell ⟨b, off + i, none⟩ = some (.int .u8 xs[i]) := by
  obtain ⟨b, off, h1, h2, h3, h4⟩ := h.at byteE (i := i) (x := xs[i]) (by simp)
  exact ⟨b, off, h1, h2, by simpa [byteE] using h4 0 (by decide)⟩

theorem F.num_Uint_J {S : St} {l : Value} {bs : List Int} {n : Nat} (hl : SlT byteE S l bs) (hn : n < 18446744073709551616) (hL : bs.length < 1000000000) :
    J PR F.num_Uint [l, .int .u64 n] S fun v S' => OwnT byteE S.n S' v (bs ++ encN n) ∧ S.Ext S' := by
  obtain ⟨base, cap, rfl⟩ := hl.len byteE
  refine J_weak (J_by PR.mixed F.num_Uint.ok (by simp) ?_)
  simp (disch := omega) only [go_sem, ↓reduceIte, Nat.reduceEqDiff, Nat.reduceAdd, Nat.reduceMul, Nat.reduceSub, Nat.reduceLT, Nat.reduceLeDiff, Nat.reduceBEq, Nat.reduceLeDiff, reduceCtorEq, Int.reduceLT, Int.reduceEq, Int.reduceLE, Int.reduceAdd, Int.reduceSub, Int.reduceToNat, Int.reduceNeg, Int.toNat_natCast, beq_self_eq_true, wrap64, undef, Nat.zero_add, Nat.add_zero, Int.zero_add, Int.add_zero, Int.sub_zero, St.loadN_other, St.cell_other]
  refine wJ_of (F.num_size_J hn) ?_; rintro _ _ ⟨rfl, rfl⟩
  have hk := sizeN_range n
  have hfirst := be_first hn (rfl : sizeN n = sizeN n)
  have henc : encN n = (beN n (sizeN n)).modify 0 fun b => b + headN (sizeN n) := rfl
  generalize sizeN n = k at *
  simp (disch := omega) only [go_sem, ↓reduceIte, Nat.reduceEqDiff, Nat.reduceAdd, Nat.reduceMul, Nat.reduceSub, Nat.reduceLT, Nat.reduceLeDiff, Nat.reduceBEq, Nat.reduceLeDiff, reduceCtorEq, Int.reduceLT, Int.reduceEq, Int.reduceLE, Int.reduceAdd, Int.reduceSub, Int.reduceToNat, Int.reduceNeg, Int.toNat_natCast, beq_self_eq_true, wrap64, undef, Nat.zero_add, Nat.add_zero, Int.zero_add, Int.add_zero, Int.sub_zero, St.loadN_other, St.cell_other]
  unfold wE
  simp only [JE, go_sem]
  refine ⟨by omega, by omega, by omega, by omega, fun b hb => ?_⟩
  rw [show ((bs.length : Int) + 9).toNat = bs.length + 9 by omega, Nat.mul_one, rowC_u8]
  simp (disch := omega) only [go_sem, ↓reduceIte, Nat.reduceEqDiff, Nat.reduceAdd, Nat.reduceMul, Nat.reduceSub, Nat.reduceLT, Nat.reduceLeDiff, Nat.reduceBEq, Nat.reduceLeDiff, reduceCtorEq, Int.reduceLT, Int.reduceEq, Int.reduceLE, Int.reduceAdd, Int.reduceSub, Int.reduceToNat, Int.reduceNeg, Int.toNat_natCast, beq_self_eq_true, wrap64, undef, Nat.zero_add, Nat.add_zero, Int.zero_add, Int.add_zero, Int.sub_zero, St.loadN_other, St.cell_other]
  have hpn := St.lt_put_self S b (.cells true (bs.length + 9) (u8s (List.replicate (bs.length + 9) 0)))
  have he0 := (St.Ext.refl S).put hb (.cells true (bs.length + 9) (u8s (List.replicate (bs.length + 9) 0)))
  refine wE_cp_in byteE (St.put_same ..) hpn rfl (hl.ext byteE he0) rfl (by simp [byteE]) ?_
  rw [St.put_put]
  have hcs : wrote (u8s (List.replicate (bs.length + 9) 0)) 0 (byteE.flat bs) = u8s bs ++ u8s (List.replicate 9 0) := by
    rw [byteE_flat]
    simp [wrote]
  rw [hcs]
  have he1 := (St.Ext.refl S).put hb (.cells true (bs.length + 9) (u8s bs ++ u8s (List.replicate 9 0)))
  simp (disch := omega) only [go_sem, ↓reduceIte, Nat.reduceEqDiff, Nat.reduceAdd, Nat.reduceMul, Nat.reduceSub, Nat.reduceLT, Nat.reduceLeDiff, Nat.reduceBEq, Nat.reduceLeDiff, reduceCtorEq, Int.reduceLT, Int.reduceEq, Int.reduceLE, Int.reduceAdd, Int.reduceSub, Int.reduceToNat, Int.reduceNeg, Int.toNat_natCast, beq_self_eq_true, wrap64, undef, Nat.zero_add, Nat.add_zero, Int.zero_add, Int.add_zero, Int.sub_zero, St.loadN_other, St.cell_other]
  refine wC_at 0 (fun fr S' => fr 0 = .slice base bs.length cap ∧ fr 5 = .int .i64 k ∧ fr 6 = .slice (some ⟨b, 0, none⟩) (bs.length + k) (bs.length + 9) ∧ S.Ext S' ∧ b < S'.n ∧ S'.obj b = some (.cells true (bs.length + 9) (u8s (bs ++ beN n k) ++ u8s (List.replicate (9 - k) 0)))) ?_ ?_
  · refine wC_loop (fun m fr S' => ∃ i, m = k - i ∧ i ≤ k ∧ fr 0 = .slice base bs.length cap ∧ fr 1 = .int .u64 n ∧ fr 5 = .int .i64 k ∧ fr 6 = .slice (some ⟨b, 0, none⟩) (bs.length + i) (bs.length + 9) ∧ fr 19 = .int .i64 k ∧ fr 20 = .int .i64 (i : Nat) ∧
      S.Ext S' ∧ b < S'.n ∧ S'.obj b = some (.cells true (bs.length + 9) (u8s (bs ++ (beN n k).take i) ++ u8s (List.replicate (9 - i) 0)))) k ⟨0, by simp (disch := omega) only [go_sem, ↓reduceIte, Nat.reduceEqDiff, Nat.reduceAdd, Nat.reduceMul, Nat.reduceSub, Nat.reduceLT, Nat.reduceLeDiff, Nat.reduceBEq, Nat.reduceLeDiff, reduceCtorEq, Int.reduceLT, Int.reduceEq, Int.reduceLE, Int.reduceAdd, Int.reduceSub, Int.reduceToNat, Int.reduceNeg, Int.toNat_natCast, beq_self_eq_true, wrap64, undef, Nat.zero_add, Nat.add_zero, Int.zero_add, Int.add_zero, Int.sub_zero, St.loadN_other, St.cell_other]; exact ⟨by simp, by simp, he1, by omega, by rw [St.put_same]; simp⟩⟩ ?_
    rintro m fr S1 ⟨i, rfl, hi, h0, h1, h5, h6, h19, h20, he, hbn, hob⟩
    simp (disch := omega) only [go_sem, ↓reduceIte, Nat.reduceEqDiff, Nat.reduceAdd, Nat.reduceMul, Nat.reduceSub, Nat.reduceLT, Nat.reduceLeDiff, Nat.reduceBEq, Nat.reduceLeDiff, reduceCtorEq, Int.reduceLT, Int.reduceEq, Int.reduceLE, Int.reduceAdd, Int.reduceSub, Int.reduceToNat, Int.reduceNeg, Int.toNat_natCast, beq_self_eq_true, wrap64, undef, Nat.zero_add, Nat.add_zero, Int.zero_add, Int.add_zero, Int.sub_zero, St.loadN_other, St.cell_other, F.num_Uint.l0, h0, h1, h5, h6, h19, h20]
    refine wcond_dec (fun hlt => ?_) (fun hge => ?_)
    · have hik : i < (beN n k).length := by rw [beN_len]; omega
      have hx := beN_get n k i hik
      obtain ⟨j, hj⟩ : ∃ j, k = i + 1 + j := ⟨k - 1 - i, by omega⟩
      have e1 : (k : Int) - 1 - (i : Int) = (j : Int) := by omega
      have hneg : ¬ (8 * (j : Int) < 0) := by omega
      have e2 : ((n : Nat) : Int).fdiv (2 ^ (min (8 * (j : Int)).toNat 64)) = ((n / 256 ^ j : Nat) : Int) := by
        rw [fdivN n _ (256 ^ j)]
        rw [show min (8 * (j : Int)).toNat 64 = 8 * j by omega, Nat.pow_mul]
      have e3 : IntKind.u8.wrap ((n / 256 ^ j : Nat) : Int) = ((n / 256 ^ j % 256 : Nat) : Int) := by rw [IntKind.wrap_u8']; omega
      rw [show k - 1 - i = j by omega] at hx
      simp (disch := omega) only [go_sem, ↓reduceIte, Nat.reduceEqDiff, Nat.reduceAdd, Nat.reduceMul, Nat.reduceSub, Nat.reduceLT, Nat.reduceLeDiff, Nat.reduceBEq, Nat.reduceLeDiff, reduceCtorEq, Int.reduceLT, Int.reduceEq, Int.reduceLE, Int.reduceAdd, Int.reduceSub, Int.reduceToNat, Int.reduceNeg, Int.toNat_natCast, beq_self_eq_true, wrap64, undef, Nat.zero_add, Nat.add_zero, Int.zero_add, Int.add_zero, Int.sub_zero, St.loadN_other, St.cell_other, h0, h1, h5, h6, h19, h20, e1, hneg, wrapu64, e2, e3]
      refine wfresh_of fun u hu => ?_
      simp (disch := omega) only [go_sem, ↓reduceIte, Nat.reduceEqDiff, Nat.reduceAdd, Nat.reduceMul, Nat.reduceSub, Nat.reduceLT, Nat.reduceLeDiff, Nat.reduceBEq, Nat.reduceLeDiff, reduceCtorEq, Int.reduceLT, Int.reduceEq, Int.reduceLE, Int.reduceAdd, Int.reduceSub, Int.reduceToNat, Int.reduceNeg, Int.toNat_natCast, beq_self_eq_true, wrap64, undef, Nat.zero_add, Nat.add_zero, Int.zero_add, Int.add_zero, Int.sub_zero, St.loadN_other, St.cell_other, h0, h1, h5, h6, h19, h20]
      have he2 := (St.Ext.refl S1).put hu (.cells true 1 [.int .u8 ((n / 256 ^ j % 256 : Nat) : Int)])
      have hn2 := he2.n
      refine wE_app_in ((he2.obj b hbn).trans hob) rfl (m := 1) (news := [.int .u8 ((n / 256 ^ j % 256 : Nat) : Int)]) ?_ (by omega) rfl (by decide) (by simp; omega) (by simp; omega) ?_
      · simp only [ev_tmp, Fr.put_apply, St.loadX, St.loadSl]
        simp (disch := omega) only [go_sem, ↓reduceIte, Nat.reduceEqDiff, Nat.reduceAdd, Nat.reduceMul, Nat.reduceSub, Nat.reduceLT, Nat.reduceLeDiff, Nat.reduceBEq, Nat.reduceLeDiff, reduceCtorEq, Int.reduceLT, Int.reduceEq, Int.reduceLE, Int.reduceAdd, Int.reduceSub, Int.reduceToNat, Int.reduceNeg, Int.toNat_natCast, beq_self_eq_true, wrap64, undef, Nat.zero_add, Nat.add_zero, Int.zero_add, Int.add_zero, Int.sub_zero, St.loadN_other, St.cell_other]
      have hwr := wrote_mid (u8s (bs ++ (beN n k).take i)) [.int .u8 ((n / 256 ^ j % 256 : Nat) : Int)] (u8s (List.replicate (9 - i) 0))
      have hl1 : (u8s (bs ++ (beN n k).take i)).length = (bs.length + i) * 1 := by simp [beN_len]; omega
      rw [hl1] at hwr
      rw [hwr]
      have he3 : S.Ext (S1.put u (.cells true 1 [.int .u8 ((n / 256 ^ j % 256 : Nat) : Int)])) := he.trans he2
      simp (disch := omega) only [go_sem, ↓reduceIte, Nat.reduceEqDiff, Nat.reduceAdd, Nat.reduceMul, Nat.reduceSub, Nat.reduceLT, Nat.reduceLeDiff, Nat.reduceBEq, Nat.reduceLeDiff, reduceCtorEq, Int.reduceLT, Int.reduceEq, Int.reduceLE, Int.reduceAdd, Int.reduceSub, Int.reduceToNat, Int.reduceNeg, Int.toNat_natCast, beq_self_eq_true, wrap64, undef, Nat.zero_add, Nat.add_zero, Int.zero_add, Int.add_zero, Int.sub_zero, St.loadN_other, St.cell_other, h0, h1, h5, h6, h19, h20]
      refine ⟨k - (i + 1), by omega, i + 1, rfl, by omega, by congr 1, rfl, ⟨Nat.le_trans he3.n (by simp only [St.put_n]; omega), fun q hq => ?_⟩, by omega, ?_⟩
      · rw [St.put_other _ _ _ (by omega)]
        exact he3.obj q hq
      · have hz : (u8s (List.replicate (9 - i) 0)).drop 1 = u8s (List.replicate (9 - (i + 1)) 0) := by
          simp only [u8s, List.map_replicate, List.drop_replicate]
          congr 1
        rw [St.put_same, take_snoc (List.getElem?_eq_getElem hik), hx]
        show some (AObj.cells true (bs.length + 9) (_ ++ (u8s (List.replicate (9 - i) 0)).drop 1)) = _
        rw [hz]
        simp
    · simp (disch := omega) only [go_sem, ↓reduceIte, Nat.reduceEqDiff, Nat.reduceAdd, Nat.reduceMul, Nat.reduceSub, Nat.reduceLT, Nat.reduceLeDiff, Nat.reduceBEq, Nat.reduceLeDiff, reduceCtorEq, Int.reduceLT, Int.reduceEq, Int.reduceLE, Int.reduceAdd, Int.reduceSub, Int.reduceToNat, Int.reduceNeg, Int.toNat_natCast, beq_self_eq_true, wrap64, undef, Nat.zero_add, Nat.add_zero, Int.zero_add, Int.add_zero, Int.sub_zero, St.loadN_other, St.cell_other, h0, h5, h6]
      have hik : i = k := by omega
      subst hik
      rw [List.take_of_length_le (by rw [beN_len]; omega)] at hob
      exact ⟨rfl, he, hbn, hob⟩
  rintro fr S1 ⟨h0, h5, h6, he, hbn, hob⟩
  have hk0 : 0 < (beN n k).length := by rw [beN_len]; omega
  have hx := beN_get n k 0 hk0
  rw [Nat.sub_zero] at hx
  obtain ⟨x, r, hxr⟩ : ∃ x r, beN n k = x :: r := by
    cases h : beN n k with
    | nil => simp [h] at hk0
    | cons x r => exact ⟨x, r, rfl⟩
  have hx0 : x = ((n / 256 ^ (k - 1) % 256 : Nat) : Int) := by rw [← hx]; simp [hxr]
  have hrl : r.length + 1 = k := by have := beN_len n k; rw [hxr] at this; simpa using this
  generalize hq : n / 256 ^ (k - 1) % 256 = q at hx0
  have hq256 : q < 256 := by omega
  have hmodle : q ≤ n / 256 ^ (k - 1) := by rw [← hq]; exact Nat.mod_le _ _
  have hor := orHead_ok ⟨k, by omega⟩ ⟨q, hq256⟩ hk.1 (fun h => by have := hfirst.1 h; simp only; omega) (fun h => by have := hfirst.2 h; simp only; omega)
  simp only at hor
  rw [hxr] at hob
  have lx : S1.cell ⟨b, bs.length, none⟩ = some (.int .u8 (q : Int)) := by
    rw [St.cell_def, hob]
    simp [hx0]
  have c1 : (0 : Int) ≤ (bs.length : Int) ∧ (bs.length : Int) < ((bs.length + k : Nat) : Int) := by omega
  simp (disch := omega) only [go_sem, ↓reduceIte, Nat.reduceEqDiff, Nat.reduceAdd, Nat.reduceMul, Nat.reduceSub, Nat.reduceLT, Nat.reduceLeDiff, Nat.reduceBEq, Nat.reduceLeDiff, reduceCtorEq, Int.reduceLT, Int.reduceEq, Int.reduceLE, Int.reduceAdd, Int.reduceSub, Int.reduceToNat, Int.reduceNeg, Int.toNat_natCast, beq_self_eq_true, wrap64, undef, Nat.zero_add, Nat.add_zero, Int.zero_add, Int.add_zero, Int.sub_zero, St.loadN_other, St.cell_other, h0, h5, h6, c1, Nat.mul_one, lx]
  refine wJ_of (F.num_head_J hk.1 hk.2) ?_; rintro _ _ ⟨rfl, rfl⟩
  simp (disch := omega) only [go_sem, ↓reduceIte, Nat.reduceEqDiff, Nat.reduceAdd, Nat.reduceMul, Nat.reduceSub, Nat.reduceLT, Nat.reduceLeDiff, Nat.reduceBEq, Nat.reduceLeDiff, reduceCtorEq, Int.reduceLT, Int.reduceEq, Int.reduceLE, Int.reduceAdd, Int.reduceSub, Int.reduceToNat, Int.reduceNeg, Int.toNat_natCast, beq_self_eq_true, wrap64, undef, Nat.zero_add, Nat.add_zero, Int.zero_add, Int.add_zero, Int.sub_zero, St.loadN_other, St.cell_other, h0, h5, h6, c1, Nat.mul_one, lx, hor]
  refine wst_of hob rfl rfl (by simp) (by omega) ?_
  have hwr : wrote (u8s (bs ++ x :: r) ++ u8s (List.replicate (9 - k) 0)) bs.length [.int .u8 ((q + headN k : Nat) : Int)] = u8s (bs ++ encN n) ++ u8s (List.replicate (9 - k) 0) := by
    have hen : encN n = ((q + headN k : Nat) : Int) :: r := by
      rw [henc, hxr, List.modify_zero_cons, hx0]
      rfl
    rw [hen]
    have := wrote_mid (u8s bs) [.int .u8 ((q + headN k : Nat) : Int)] (u8s (x :: r) ++ u8s (List.replicate (9 - k) 0))
    simp only [u8s, List.length_map] at this
    simp only [u8s, List.map_append, List.append_assoc]
    rw [this]
    simp
  simp only [cells_int]
  rw [hwr]
  simp (disch := omega) only [go_sem, ↓reduceIte, Nat.reduceEqDiff, Nat.reduceAdd, Nat.reduceMul, Nat.reduceSub, Nat.reduceLT, Nat.reduceLeDiff, Nat.reduceBEq, Nat.reduceLeDiff, reduceCtorEq, Int.reduceLT, Int.reduceEq, Int.reduceLE, Int.reduceAdd, Int.reduceSub, Int.reduceToNat, Int.reduceNeg, Int.toNat_natCast, beq_self_eq_true, wrap64, undef, Nat.zero_add, Nat.add_zero, Int.zero_add, Int.add_zero, Int.sub_zero, St.loadN_other, St.cell_other, h0, h5, h6]
  have hlen : (encN n).length = k := by rw [henc, List.length_modify, beN_len]
  refine ⟨_, fun c0 w hr => Rel.cut hr (St.put_same _ _ _) (bs.length + k), ?_, ?_⟩
  · rw [St.put_put, show bs.length + k = (bs ++ encN n).length by simp [hlen]]
    refine OwnT.mk byteE hb (St.lt_put_self _ _ _) (by simp [hlen]; omega) ?_
    rw [St.put_same, byteE_flat]
    congr 2
    · simp [byteE]
    · rw [List.take_left']
      simp
  · rw [St.put_put]
    exact ⟨Nat.le_trans he.n (by rw [St.put_n]; omega), fun q hq => by rw [St.put_other _ _ _ (by omega)]; exact he.obj q hq⟩
end Go.Osj
