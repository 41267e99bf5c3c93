/- Contracts of layer 1: a number, taken. -/
import Derived.Test.YtnofakkcipcphaaT
set_option linter.unusedSimpArgs false
namespace Go.Osj
def leadK (b : Nat) : Nat := if b < 128 then 1 else if b < 192 then 2 else if b < 224 then 3 else if b < 240 then 4 else if b < 248 then 5 else if b < 252 then 6 else if b < 254 then 7 else if b < 255 then 8 else 9
theorem leadK_range (b : Nat) : 1 ≤ leadK b ∧ leadK b ≤ 9 := by
  unfold leadK
  repeat' split
  all_goals omega
theorem leadK_good {b L : Nat} (hb : b < 256) (h : GoodL (255 - b) L) (hL : L ≤ 8) : 8 - L + 1 = leadK b := by
  have : L = 0 ∨ L = 1 ∨ L = 2 ∨ L = 3 ∨ L = 4 ∨ L = 5 ∨ L = 6 ∨ L = 7 ∨ L = 8 := by omega
  unfold GoodL at h
  rcases this with rfl | rfl | rfl | rfl | rfl | rfl | rfl | rfl | rfl <;> simp at h <;> unfold leadK <;> repeat' split
  all_goals omega
theorem leadK_of {b k : Nat} (h1 : 1 ≤ k) (h9 : k ≤ 9) (hb : b < 256) (hlo : headN k ≤ b) (hhi : k ≤ 8 → b < headN (k + 1)) : leadK b = k := by
  have : k = 1 ∨ k = 2 ∨ k = 3 ∨ k = 4 ∨ k = 5 ∨ k = 6 ∨ k = 7 ∨ k = 8 ∨ k = 9 := by omega
  rcases this with rfl | rfl | rfl | rfl | rfl | rfl | rfl | rfl | rfl <;> simp [headN] at hlo hhi <;> unfold leadK <;> repeat' split
  all_goals omega
theorem lead_first : ∀ b : Fin 256, headN (leadK b.val) ≤ b.val ∧ b.val - headN (leadK b.val) < 2 ^ (8 - leadK b.val) ∧ bits .andNot .u8 (b.val : Int) (headN (leadK b.val) : Int) = ((b.val - headN (leadK b.val) : Nat) : Int) ∧ bits .xor .u8 255 (b.val : Int) = ((255 - b.val : Nat) : Int) := by decide +kernel
def valN (v : Nat) (xs : List Int) : Nat := xs.foldl (fun v c => v * 256 + c.toNat) v
theorem valN_snoc (v : Nat) (xs : List Int) (c : Int) : valN v (xs ++ [c]) = valN v xs * 256 + c.toNat := by simp [valN]
def isB (bs : List Int) : Prop := ∀ b ∈ bs, 0 ≤ b ∧ b < 256
theorem valN_lt {xs : List Int} (hx : isB xs) {v p : Nat} (hv : v < 2 ^ p) : valN v xs < 2 ^ (8 * xs.length + p) := by
  induction xs generalizing v p with
  | nil => simpa [valN] using hv
  | cons x xs ih =>
    have h1 := hx x (by simp)
    have h2 : v * 256 + x.toNat < 2 ^ (p + 8) := by rw [Nat.pow_add]; omega
    have := ih (fun b hb => hx b (by simp [hb])) h2
    have e : valN v (x :: xs) = valN (v * 256 + x.toNat) xs := rfl
    rw [e, List.length_cons]
    rw [show 8 * (xs.length + 1) + p = 8 * xs.length + (p + 8) by omega]
    exact this
/-- a number, taken: it, what is left, the error -/
def rdU (bs : List Int) (e : Int) : Nat × List Int × Int :=
  if e ≠ 0 then (0, bs, e) else
  match bs with
  | [] => (0, [], 10)
  | b :: r => if (b :: r).length < leadK b.toNat then (0, [], 10) else
    if sizeN (valN (b.toNat - headN (leadK b.toNat)) (r.take (leadK b.toNat - 1))) = leadK b.toNat then (valN (b.toNat - headN (leadK b.toNat)) (r.take (leadK b.toNat - 1)), (b :: r).drop (leadK b.toNat), 0) else (0, [], 11)
theorem shl8_or {v c : Nat} (hv : v < 72057594037927936) (hc : c < 256) : bits .or .u64 (IntKind.u64.wrap ((v : Int) * 2 ^ min 8 64)) (c : Int) = ((v * 256 + c : Nat) : Int) := by
  have e1 : ((2 : Int) ^ min 8 64) = 256 := by decide
  rw [e1, wrapu64 (by omega) (by omega), show ((v : Int) * 256) = ((v * 256 : Nat) : Int) by omega, bits_or_u64_nat _ _ (by omega) (by omega)]
  congr 1
  rw [Nat.mul_comm v 256]
  exact (Nat.two_pow_add_eq_or_of_lt (i := 8) (b := c) (by omega) v).symm
@[go_sem] theorem evR_xor {S : St} {fr : Fr} {x : Operand} : evR S fr (.un .xor x) = (match ev fr x with | .int k n => some (.int k (bits .xor k (if k.signed then -1 else k.max) n)) | _ => none) := by
  cases h : ev fr x <;> simp [evR, h]

theorem F.num_Reader_Uint_J {S : St} {q B : Nat} {bs : List Int} {e : Int} (h : RdT S q B bs e) (hb : isB bs) (he : e ≠ 0 → bs = []) (hL : bs.length < 1000000000) :
    J PR F.num_Reader_Uint [ptrV q] S fun v S' => v = .int .u64 (rdU bs e).1 ∧ RdT S' q B (rdU bs e).2.1 (rdU bs e).2.2 ∧ St.But (ptrV q) S S' := by
  have hr := h
  obtain ⟨v, ho, hq, hs, hv⟩ := h
  obtain ⟨base, cap, rfl⟩ := hs.len byteE
  have c0 : S.cell ⟨q, 0, none⟩ = some (.slice base bs.length cap) := by rw [St.cell_def, ho]; rfl
  have c1 : S.cell ⟨q, 1, none⟩ = some (.int .i64 e) := by rw [St.cell_def, ho]; rfl
  refine J_by PR.mixed F.num_Reader_Uint.ok (by simp) ?_
  cases bs with
  | nil =>
    simp (disch := omega) only [go_sem, ↓reduceIte, Nat.reduceEqDiff, Nat.reduceAdd, Nat.reduceMul, Nat.reduceSub, Nat.reduceLT, Nat.reduceLeDiff, Nat.reduceBEq, Nat.reduceLeDiff, reduceCtorEq, Int.reduceLT, Int.reduceEq, Int.reduceLE, Int.reduceAdd, Int.reduceSub, Int.reduceToNat, Int.reduceNeg, Int.toNat_natCast, beq_self_eq_true, wrap64, undef, Nat.zero_add, Nat.add_zero, Int.zero_add, Int.add_zero, Int.sub_zero, St.loadN_other, St.cell_other, eqN, Option.isNone_none, c0, c1, List.length_nil]
    refine wJ_of (F.num_Reader_Fail_J (x := 10) hr (by decide)) ?_; rintro _ S1 ⟨rfl, hr1, hb1⟩
    simp (disch := omega) only [go_sem, ↓reduceIte, Nat.reduceEqDiff, Nat.reduceAdd, Nat.reduceMul, Nat.reduceSub, Nat.reduceLT, Nat.reduceLeDiff, Nat.reduceBEq, Nat.reduceLeDiff, reduceCtorEq, Int.reduceLT, Int.reduceEq, Int.reduceLE, Int.reduceAdd, Int.reduceSub, Int.reduceToNat, Int.reduceNeg, Int.toNat_natCast, beq_self_eq_true, wrap64, undef, Nat.zero_add, Nat.add_zero, Int.zero_add, Int.add_zero, Int.sub_zero, St.loadN_other, St.cell_other]
    by_cases h0 : e = 0
    · subst h0
      simp only [rdU, ne_eq, not_true_eq_false, if_false, if_true] at hr1 ⊢
      exact ⟨by trivial, hr1, hb1⟩
    · simp only [rdU, ne_eq, h0, not_false_eq_true, if_true, if_false] at hr1 ⊢
      exact ⟨by trivial, hr1, hb1⟩
  | cons b r =>
    have h0 : e = 0 := by
      by_cases h0 : e = 0
      · exact h0
      · exact absurd (he h0) (by simp)
    subst h0
    obtain ⟨hb0, hb1⟩ := hb b (by simp)
    obtain ⟨bb, off, rfl, hbb, hx0⟩ := SlT.byte hs (i := 0) (by simp)
    simp only [Nat.add_zero, List.getElem_cons_zero] at hx0
    have hn0 : ¬ (((r.length + 1 : Nat) : Int) = 0) := by omega
    have c2 : (0 : Int) ≤ 0 ∧ (0 : Int) < ((r.length + 1 : Nat) : Int) := by omega
    obtain ⟨m, rfl⟩ : ∃ m : Nat, b = m := ⟨b.toNat, by omega⟩
    obtain ⟨lf1, lf2, lf3, lf4⟩ := lead_first ⟨m, by omega⟩
    simp only at lf1 lf2 lf3 lf4
    have hlr := leadK_range m
    rw [List.length_cons] at c0 hL
    simp (disch := omega) only [go_sem, ↓reduceIte, Nat.reduceEqDiff, Nat.reduceAdd, Nat.reduceMul, Nat.reduceSub, Nat.reduceLT, Nat.reduceLeDiff, Nat.reduceBEq, Nat.reduceLeDiff, reduceCtorEq, Int.reduceLT, Int.reduceEq, Int.reduceLE, Int.reduceAdd, Int.reduceSub, Int.reduceToNat, Int.reduceNeg, Int.toNat_natCast, beq_self_eq_true, wrap64, undef, Nat.zero_add, Nat.add_zero, Int.zero_add, Int.add_zero, Int.sub_zero, St.loadN_other, St.cell_other, eqN, Option.isNone_none, c0, c1, hn0, c2, Nat.zero_mul, hx0, IntKind.signed, IntKind.max, IntKind.bits, Int.reducePow, lf4]
    refine wJ_of (F.bits_LeadingZeros8_J (n := 255 - m) (by omega)) ?_; rintro _ _ ⟨⟨L, rfl, hg, hL8⟩, rfl⟩
    have hk := leadK_good (b := m) (by omega) hg hL8
    have e1 : (8 : Int) - (L : Int) + 1 = ((leadK m : Nat) : Int) := by omega
    have hrd : rdU ((m : Int) :: r) 0 = if r.length + 1 < leadK m then (0, [], 10) else
        if sizeN (valN (m - headN (leadK m)) (r.take (leadK m - 1))) = leadK m then (valN (m - headN (leadK m)) (r.take (leadK m - 1)), ((m : Int) :: r).drop (leadK m), 0) else (0, [], 11) := by simp [rdU]
    generalize leadK m = k at *
    simp (disch := omega) only [go_sem, ↓reduceIte, Nat.reduceEqDiff, Nat.reduceAdd, Nat.reduceMul, Nat.reduceSub, Nat.reduceLT, Nat.reduceLeDiff, Nat.reduceBEq, Nat.reduceLeDiff, reduceCtorEq, Int.reduceLT, Int.reduceEq, Int.reduceLE, Int.reduceAdd, Int.reduceSub, Int.reduceToNat, Int.reduceNeg, Int.toNat_natCast, beq_self_eq_true, wrap64, undef, Nat.zero_add, Nat.add_zero, Int.zero_add, Int.add_zero, Int.sub_zero, St.loadN_other, St.cell_other, e1, wrapu64]
    refine wJ_of (F.num_Reader_take_J (n := k) hr (by simpa using hL)) ?_
    rintro v1 S1 ⟨hbt, ⟨-, hkl, hs1, -, hr1⟩ | ⟨hnt, rfl, hr1⟩⟩
    rotate_left
    · simp (disch := omega) only [go_sem, ↓reduceIte, Nat.reduceEqDiff, Nat.reduceAdd, Nat.reduceMul, Nat.reduceSub, Nat.reduceLT, Nat.reduceLeDiff, Nat.reduceBEq, Nat.reduceLeDiff, reduceCtorEq, Int.reduceLT, Int.reduceEq, Int.reduceLE, Int.reduceAdd, Int.reduceSub, Int.reduceToNat, Int.reduceNeg, Int.toNat_natCast, beq_self_eq_true, wrap64, undef, Nat.zero_add, Nat.add_zero, Int.zero_add, Int.add_zero, Int.sub_zero, St.loadN_other, St.cell_other]
      rw [hrd, if_pos (by simp at hnt; omega)]
      exact ⟨rfl, hr1, hbt⟩
    have hkl' : ¬ r.length + 1 < k := by simp at hkl; omega
    rw [if_neg hkl'] at hrd
    have htk : ((m : Int) :: r).take k = (m : Int) :: r.take (k - 1) := by rw [show k = (k - 1) + 1 by omega, List.take_succ_cons]; rfl
    rw [htk] at hs1
    have htl : (r.take (k - 1)).length = k - 1 := by simp; omega
    obtain ⟨b1, c3, hv1⟩ := hs1.len byteE
    rw [List.length_cons, htl, show k - 1 + 1 = k by omega] at hv1
    subst hv1
    have hk0 : ¬ ((k : Int) = 0) := by omega
    have hs1' : SlT byteE S1 (.slice b1 ((m : Int) :: r.take (k - 1)).length c3) ((m : Int) :: r.take (k - 1)) := by rw [List.length_cons, htl, show k - 1 + 1 = k by omega]; exact hs1
    obtain ⟨bb1, off1, rfl, hbb1, hx1⟩ := SlT.byte hs1' (i := 0) (by simp)
    simp only [Nat.add_zero, List.getElem_cons_zero] at hx1
    obtain ⟨u, hu, hus⟩ := hs1.from byteE (l := 1) (q := .i64) (i := 1) rfl (by simp)
    replace hu : slV 1 _ _ _ _ = _ := hu
    rw [List.drop_succ_cons, List.drop_zero] at hus
    have c4 : (0 : Int) ≤ 0 ∧ (0 : Int) < (k : Int) := by omega
    simp (disch := omega) only [go_sem, ↓reduceIte, Nat.reduceEqDiff, Nat.reduceAdd, Nat.reduceMul, Nat.reduceSub, Nat.reduceLT, Nat.reduceLeDiff, Nat.reduceBEq, Nat.reduceLeDiff, reduceCtorEq, Int.reduceLT, Int.reduceEq, Int.reduceLE, Int.reduceAdd, Int.reduceSub, Int.reduceToNat, Int.reduceNeg, Int.toNat_natCast, beq_self_eq_true, wrap64, undef, Nat.zero_add, Nat.add_zero, Int.zero_add, Int.add_zero, Int.sub_zero, St.loadN_other, St.cell_other, hk0, c4, Nat.zero_mul, hx1]
    refine wJ_of (F.num_head_J hlr.1 hlr.2) ?_; rintro _ _ ⟨rfl, rfl⟩
    have e5 : IntKind.u64.wrap ((m - headN k : Nat) : Int) = ((m - headN k : Nat) : Int) := wrapu64 (by omega) (by omega)
    simp (disch := omega) only [go_sem, ↓reduceIte, Nat.reduceEqDiff, Nat.reduceAdd, Nat.reduceMul, Nat.reduceSub, Nat.reduceLT, Nat.reduceLeDiff, Nat.reduceBEq, Nat.reduceLeDiff, reduceCtorEq, Int.reduceLT, Int.reduceEq, Int.reduceLE, Int.reduceAdd, Int.reduceSub, Int.reduceToNat, Int.reduceNeg, Int.toNat_natCast, beq_self_eq_true, wrap64, undef, Nat.zero_add, Nat.add_zero, Int.zero_add, Int.add_zero, Int.sub_zero, St.loadN_other, St.cell_other, hk0, c4, Nat.zero_mul, hx1, lf3, e5, hu]
    have hbr : isB (r.take (k - 1)) := fun x hx => hb x (List.mem_cons_of_mem _ (List.mem_of_mem_take hx))
    generalize r.take (k - 1) = t at *
    obtain ⟨b2, c5, hv2⟩ := hus.len byteE
    rw [htl] at hv2
    subst hv2
    simp (disch := omega) only [go_sem, ↓reduceIte, Nat.reduceEqDiff, Nat.reduceAdd, Nat.reduceMul, Nat.reduceSub, Nat.reduceLT, Nat.reduceLeDiff, Nat.reduceBEq, Nat.reduceLeDiff, reduceCtorEq, Int.reduceLT, Int.reduceEq, Int.reduceLE, Int.reduceAdd, Int.reduceSub, Int.reduceToNat, Int.reduceNeg, Int.toNat_natCast, beq_self_eq_true, wrap64, undef, Nat.zero_add, Nat.add_zero, Int.zero_add, Int.add_zero, Int.sub_zero, St.loadN_other, St.cell_other]
    refine wC_loop (fun n fr S' => ∃ i : Nat, n = (k - 1) - i ∧ i ≤ k - 1 ∧ S1 = S' ∧ fr 0 = ptrV q ∧ fr 3 = .int .i64 k ∧ fr 5 = .int .u64 (valN (m - headN k) (t.take i) : Nat) ∧ fr 44 = .slice b2 (k - 1) c5 ∧ fr 45 = .int .i64 ((k - 1 : Nat) : Int) ∧ fr 46 = .int .i64 (i : Nat)) (k - 1)
      ⟨0, by simp (disch := omega) only [go_sem, ↓reduceIte, Nat.reduceEqDiff, Nat.reduceAdd, Nat.reduceMul, Nat.reduceSub, Nat.reduceLT, Nat.reduceLeDiff, Nat.reduceBEq, Nat.reduceLeDiff, reduceCtorEq, Int.reduceLT, Int.reduceEq, Int.reduceLE, Int.reduceAdd, Int.reduceSub, Int.reduceToNat, Int.reduceNeg, Int.toNat_natCast, beq_self_eq_true, wrap64, undef, Nat.zero_add, Nat.add_zero, Int.zero_add, Int.add_zero, Int.sub_zero, St.loadN_other, St.cell_other]; exact ⟨by simp, by simp, rfl⟩⟩ ?_
    rintro n fr S2 ⟨i, rfl, hi, rfl, h0, h3, h5, h44, h45, h46⟩
    simp (disch := omega) only [go_sem, ↓reduceIte, Nat.reduceEqDiff, Nat.reduceAdd, Nat.reduceMul, Nat.reduceSub, Nat.reduceLT, Nat.reduceLeDiff, Nat.reduceBEq, Nat.reduceLeDiff, reduceCtorEq, Int.reduceLT, Int.reduceEq, Int.reduceLE, Int.reduceAdd, Int.reduceSub, Int.reduceToNat, Int.reduceNeg, Int.toNat_natCast, beq_self_eq_true, wrap64, undef, Nat.zero_add, Nat.add_zero, Int.zero_add, Int.add_zero, Int.sub_zero, St.loadN_other, St.cell_other, F.num_Reader_Uint.l0, h0, h3, h5, h44, h45, h46]
    refine wcond_dec (fun hlt => ?_) (fun hge => ?_)
    · have hit : i < t.length := by omega
      rw [← htl] at hus
      obtain ⟨b6, off6, hb6, hbb6, hx6⟩ := SlT.byte hus hit
      subst hb6
      have c6 : (0 : Int) ≤ (i : Int) ∧ (i : Int) < ((k - 1 : Nat) : Int) := by omega
      obtain ⟨g1, g2⟩ := hbr t[i] (List.getElem_mem _)
      have hvl : valN (m - headN k) (t.take i) < 2 ^ 56 := by
        have h1 := valN_lt (xs := t.take i) (fun x hx => hbr x (List.mem_of_mem_take hx)) lf2
        refine Nat.lt_of_lt_of_le h1 (Nat.pow_le_pow_right (by decide) ?_)
        simp only [List.length_take]
        omega
      obtain ⟨c, hc⟩ : ∃ c : Nat, t[i] = c := ⟨t[i].toNat, by omega⟩
      have e6 := shl8_or (v := valN (m - headN k) (t.take i)) (c := c) (by simpa using hvl) (by omega)
      rw [hc] at hx6
      simp (disch := omega) only [go_sem, ↓reduceIte, Nat.reduceEqDiff, Nat.reduceAdd, Nat.reduceMul, Nat.reduceSub, Nat.reduceLT, Nat.reduceLeDiff, Nat.reduceBEq, Nat.reduceLeDiff, reduceCtorEq, Int.reduceLT, Int.reduceEq, Int.reduceLE, Int.reduceAdd, Int.reduceSub, Int.reduceToNat, Int.reduceNeg, Int.toNat_natCast, beq_self_eq_true, wrap64, undef, Nat.zero_add, Nat.add_zero, Int.zero_add, Int.add_zero, Int.sub_zero, St.loadN_other, St.cell_other, h0, h3, h5, h44, h45, h46, c6, Nat.mul_one, hx6, wrapu64, e6]
      refine ⟨k - 1 - (i + 1), by omega, i + 1, rfl, by omega, ?_, rfl⟩
      rw [take_snoc (List.getElem?_eq_getElem hit), valN_snoc, hc]
      rfl
    · have hik : i = k - 1 := by omega
      rw [List.take_of_length_le (by omega)] at h5
      simp (disch := omega) only [go_sem, ↓reduceIte, Nat.reduceEqDiff, Nat.reduceAdd, Nat.reduceMul, Nat.reduceSub, Nat.reduceLT, Nat.reduceLeDiff, Nat.reduceBEq, Nat.reduceLeDiff, reduceCtorEq, Int.reduceLT, Int.reduceEq, Int.reduceLE, Int.reduceAdd, Int.reduceSub, Int.reduceToNat, Int.reduceNeg, Int.toNat_natCast, beq_self_eq_true, wrap64, undef, Nat.zero_add, Nat.add_zero, Int.zero_add, Int.add_zero, Int.sub_zero, St.loadN_other, St.cell_other, h0, h3, h5]
      have hvl : valN (m - headN k) t < 18446744073709551616 := by
        have h1 := valN_lt hbr lf2
        have h2 : 2 ^ (8 * t.length + (8 - k)) ≤ 2 ^ 64 := Nat.pow_le_pow_right (by decide) (by omega)
        exact Nat.lt_of_lt_of_le h1 h2
      refine wJ_of (F.num_size_J hvl) ?_; rintro _ _ ⟨rfl, rfl⟩
      by_cases hsz : sizeN (valN (m - headN k) t) = k
      · simp (disch := omega) only [go_sem, ↓reduceIte, Nat.reduceEqDiff, Nat.reduceAdd, Nat.reduceMul, Nat.reduceSub, Nat.reduceLT, Nat.reduceLeDiff, Nat.reduceBEq, Nat.reduceLeDiff, reduceCtorEq, Int.reduceLT, Int.reduceEq, Int.reduceLE, Int.reduceAdd, Int.reduceSub, Int.reduceToNat, Int.reduceNeg, Int.toNat_natCast, beq_self_eq_true, wrap64, undef, Nat.zero_add, Nat.add_zero, Int.zero_add, Int.add_zero, Int.sub_zero, St.loadN_other, St.cell_other, h0, h3, h5, hsz]
        rw [if_pos hsz] at hrd
        rw [hrd]
        exact ⟨rfl, hr1, hbt⟩
      · have hsz' : ¬ ((sizeN (valN (m - headN k) t) : Int) = (k : Int)) := by omega
        rw [if_neg hsz] at hrd
        rw [hrd]
        simp (disch := omega) only [go_sem, ↓reduceIte, Nat.reduceEqDiff, Nat.reduceAdd, Nat.reduceMul, Nat.reduceSub, Nat.reduceLT, Nat.reduceLeDiff, Nat.reduceBEq, Nat.reduceLeDiff, reduceCtorEq, Int.reduceLT, Int.reduceEq, Int.reduceLE, Int.reduceAdd, Int.reduceSub, Int.reduceToNat, Int.reduceNeg, Int.toNat_natCast, beq_self_eq_true, wrap64, undef, Nat.zero_add, Nat.add_zero, Int.zero_add, Int.add_zero, Int.sub_zero, St.loadN_other, St.cell_other, h0, h3, h5, hsz']
        refine wJ_of (F.num_Reader_Fail_J (x := 11) hr1 (by decide)) ?_; rintro _ S3 ⟨rfl, hr3, hb3⟩
        simp (disch := omega) only [go_sem, ↓reduceIte, Nat.reduceEqDiff, Nat.reduceAdd, Nat.reduceMul, Nat.reduceSub, Nat.reduceLT, Nat.reduceLeDiff, Nat.reduceBEq, Nat.reduceLeDiff, reduceCtorEq, Int.reduceLT, Int.reduceEq, Int.reduceLE, Int.reduceAdd, Int.reduceSub, Int.reduceToNat, Int.reduceNeg, Int.toNat_natCast, beq_self_eq_true, wrap64, undef, Nat.zero_add, Nat.add_zero, Int.zero_add, Int.add_zero, Int.sub_zero, St.loadN_other, St.cell_other]
        exact ⟨by simpa using hr3, hbt.trans hb3⟩
end Go.Osj
