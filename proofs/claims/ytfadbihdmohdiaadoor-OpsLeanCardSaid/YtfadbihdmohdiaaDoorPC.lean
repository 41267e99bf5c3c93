/- Contracts carried over from the layers below. -/
import Derived.Test.YtfadbihdmohdiaaDoorPB
import Derived.Test.YtfadbihdmohdiaaDoorPA
import Derived.Test.YtfadbihdmohdiaaDoorC1
import Derived.Test.YtfadbihdmohdiaaDoorC2
set_option linter.unusedVariables false
/- Contracts of layer 1: a number, taken. -/
set_option linter.unusedSimpArgs false
namespace Go.Osj
def leadK (b : Nat) : Nat := if b < 128 then 1 else if b < 192 then 2 else if b < 224 then 3 else if b < 240 then 4 else if b < 248 then 5 else if b < 252 then 6 else if b < 254 then 7 else if b < 255 then 8 else 9
theorem leadK_range (b : Nat) : 1 ≤ leadK b ∧ leadK b ≤ 9 := by
  unfold leadK
  repeat' split
  all_goals omega
theorem leadK_good {b L : Nat} (hb : b < 256) (h : GoodL (255 - b) L) (hL : L ≤ 8) : 8 - L + 1 = leadK b := by
  have : L = 0 ∨ L = 1 ∨ L = 2 ∨ L = 3 ∨ L = 4 ∨ L = 5 ∨ L = 6 ∨ L = 7 ∨ L = 8 := by omega
  unfold GoodL at h
  rcases this with rfl | rfl | rfl | rfl | rfl | rfl | rfl | rfl | rfl <;> simp at h <;> unfold leadK <;> repeat' split
  all_goals omega
theorem leadK_of {b k : Nat} (h1 : 1 ≤ k) (h9 : k ≤ 9) (hb : b < 256) (hlo : headN k ≤ b) (hhi : k ≤ 8 → b < headN (k + 1)) : leadK b = k := by
  have : k = 1 ∨ k = 2 ∨ k = 3 ∨ k = 4 ∨ k = 5 ∨ k = 6 ∨ k = 7 ∨ k = 8 ∨ k = 9 := by omega
  rcases this with rfl | rfl | rfl | rfl | rfl | rfl | rfl | rfl | rfl <;> simp [headN] at hlo hhi <;> unfold leadK <;> repeat' split
  all_goals omega
theorem lead_first : ∀ b : Fin 256, headN (leadK b.val) ≤ b.val ∧ b.val - headN (leadK b.val) < 2 ^ (8 - leadK b.val) ∧ bits .andNot .u8 (b.val : Int) (headN (leadK b.val) : Int) = ((b.val - headN (leadK b.val) : Nat) : Int) ∧ bits .xor .u8 255 (b.val : Int) = ((255 - b.val : Nat) : Int) := by decide +kernel
def valN (v : Nat) (xs : List Int) : Nat := xs.foldl (fun v c => v * 256 + c.toNat) v
theorem valN_snoc (v : Nat) (xs : List Int) (c : Int) : valN v (xs ++ [c]) = valN v xs * 256 + c.toNat := by simp [valN]
def isB (bs : List Int) : Prop := ∀ b ∈ bs, 0 ≤ b ∧ b < 256
theorem valN_lt {xs : List Int} (hx : isB xs) {v p : Nat} (hv : v < 2 ^ p) : valN v xs < 2 ^ (8 * xs.length + p) := by
  induction xs generalizing v p with
  | nil => simpa [valN] using hv
  | cons x xs ih =>
    have h1 := hx x (by simp)
    have h2 : v * 256 + x.toNat < 2 ^ (p + 8) := by rw [Nat.pow_add]; omega
    have := ih (fun b hb => hx b (by simp [hb])) h2
    have e : valN v (x :: xs) = valN (v * 256 + x.toNat) xs := rfl
    rw [e, List.length_cons]
    rw [show 8 * (xs.length + 1) + p = 8 * xs.length + (p + 8) by omega]
    exact this
/-- a number, taken: it, what is left, the error -/
def rdU (bs : List Int) (e : Int) : Nat × List Int × Int :=
  if e ≠ 0 then (0, bs, e) else
  match bs with
  | [] => (0, [], 10)
  | b :: r => if (b :: r).length < leadK b.toNat then (0, [], 10) else
    if sizeN (valN (b.toNat - headN (leadK b.toNat)) (r.take (leadK b.toNat - 1))) = leadK b.toNat then (valN (b.toNat - headN (leadK b.toNat)) (r.take (leadK b.toNat - 1)), (b :: r).drop (leadK b.toNat), 0) else (0, [], 11)
theorem shl8_or {v c : Nat} (hv : v < 72057594037927936) (hc : c < 256) : bits .or .u64 (IntKind.u64.wrap ((v : Int) * 2 ^ min 8 64)) (c : Int) = ((v * 256 + c : Nat) : Int) := by
  have e1 : ((2 : Int) ^ min 8 64) = 256 := by decide
  rw [e1, wrapu64 (by omega) (by omega), show ((v : Int) * 256) = ((v * 256 : Nat) : Int) by omega, bits_or_u64_nat _ _ (by omega) (by omega)]
  congr 1
  rw [Nat.mul_comm v 256]
  exact (Nat.two_pow_add_eq_or_of_lt (i := 8) (b := c) (by omega) v).symm
@[go_sem] theorem evR_xor {S : St} {fr : Fr} {x : Operand} : evR S fr (.un .xor x) = (match ev fr x with | .int k n => some (.int k (bits .xor k (if k.signed then -1 else k.max) n)) | _ => none) := by
  cases h : ev fr x <;> simp [evR, h]

theorem F.num_Reader_Uint_J {S : St} {q B : Nat} {bs : List Int} {e : Int} (h : RdT S q B bs e) (hb : isB bs) (he : e ≠ 0 → bs = []) (hL : bs.length < 1000000000) :
    J PR F.num_Reader_Uint [ptrV q] S fun v S' => v = .int .u64 (rdU bs e).1 ∧ RdT S' q B (rdU bs e).2.1 (rdU bs e).2.2 ∧ St.But (ptrV q) S S' := by
  have hr := h
  obtain ⟨v, ho, hq, hs, hv⟩ := h
  obtain ⟨base, cap, rfl⟩ := hs.len byteE
  have c0 : S.cell ⟨q, 0, none⟩ = some (.slice base bs.length cap) := by rw [St.cell_def, ho]; rfl
  have c1 : S.cell ⟨q, 1, none⟩ = some (.int .i64 e) := by rw [St.cell_def, ho]; rfl
  refine J_by PR.mixed F.num_Reader_Uint.ok (by simp) ?_
  cases bs with
  | nil =>
    simp (disch := omega) only [go_sem, ↓reduceIte, Nat.reduceEqDiff, Nat.reduceAdd, Nat.reduceMul, Nat.reduceSub, Nat.reduceLT, Nat.reduceLeDiff, Nat.reduceBEq, reduceCtorEq, Int.reduceLT, Int.reduceEq, Int.reduceLE, Int.reduceAdd, Int.reduceSub, Int.reduceToNat, Int.reduceNeg, eqN, Option.isNone_none, c0, c1, List.length_nil]
    refine wJ_of (F.num_Reader_Fail_J (x := 10) hr (by decide)) ?_; rintro _ S1 ⟨rfl, hr1, hb1⟩
    simp (disch := omega) only [go_sem, ↓reduceIte, Nat.reduceEqDiff, Nat.reduceAdd, Nat.reduceMul, Nat.reduceSub, Nat.reduceLT, Nat.reduceLeDiff, Nat.reduceBEq, reduceCtorEq, Int.reduceLT, Int.reduceEq, Int.reduceLE, Int.reduceAdd, Int.reduceSub, Int.reduceToNat, Int.reduceNeg]
    by_cases h0 : e = 0
    · subst h0
      simp only [rdU, ne_eq, not_true_eq_false, if_false, if_true] at hr1 ⊢
      exact ⟨by trivial, hr1, hb1⟩
    · simp only [rdU, ne_eq, h0, not_false_eq_true, if_true, if_false] at hr1 ⊢
      exact ⟨by trivial, hr1, hb1⟩
  | cons b r =>
    have h0 : e = 0 := by
      by_cases h0 : e = 0
      · exact h0
      · exact absurd (he h0) (by simp)
    subst h0
    obtain ⟨hb0, hb1⟩ := hb b (by simp)
    obtain ⟨bb, off, rfl, hbb, hx0⟩ := SlT.byte hs (i := 0) (by simp)
    simp only [Nat.add_zero, List.getElem_cons_zero] at hx0
    have hn0 : ¬ (((r.length + 1 : Nat) : Int) = 0) := by omega
    have c2 : (0 : Int) ≤ 0 ∧ (0 : Int) < ((r.length + 1 : Nat) : Int) := by omega
    obtain ⟨m, rfl⟩ : ∃ m : Nat, b = m := ⟨b.toNat, by omega⟩
    obtain ⟨lf1, lf2, lf3, lf4⟩ := lead_first ⟨m, by omega⟩
    simp only at lf1 lf2 lf3 lf4
    have hlr := leadK_range m
    rw [List.length_cons] at c0 hL
    simp (disch := omega) only [go_sem, ↓reduceIte, Nat.reduceEqDiff, Nat.reduceAdd, Nat.reduceMul, Nat.reduceSub, Nat.reduceLT, Nat.reduceLeDiff, Nat.reduceBEq, reduceCtorEq, Int.reduceLT, Int.reduceEq, Int.reduceLE, Int.reduceAdd, Int.reduceSub, Int.reduceToNat, Int.reduceNeg, eqN, Option.isNone_none, c0, c1, hn0, c2, Nat.zero_mul, hx0, IntKind.signed, IntKind.max, IntKind.bits, Int.reducePow, lf4]
    refine wJ_of (F.bits_LeadingZeros8_J (n := 255 - m) (by omega)) ?_; rintro _ _ ⟨⟨L, rfl, hg, hL8⟩, rfl⟩
    have hk := leadK_good (b := m) (by omega) hg hL8
    have e1 : (8 : Int) - (L : Int) + 1 = ((leadK m : Nat) : Int) := by omega
    have hrd : rdU ((m : Int) :: r) 0 = if r.length + 1 < leadK m then (0, [], 10) else
        if sizeN (valN (m - headN (leadK m)) (r.take (leadK m - 1))) = leadK m then (valN (m - headN (leadK m)) (r.take (leadK m - 1)), ((m : Int) :: r).drop (leadK m), 0) else (0, [], 11) := by simp [rdU]
    generalize leadK m = k at *
    simp (disch := omega) only [go_sem, ↓reduceIte, Nat.reduceEqDiff, Nat.reduceAdd, Nat.reduceMul, Nat.reduceSub, Nat.reduceLT, Nat.reduceLeDiff, Nat.reduceBEq, reduceCtorEq, Int.reduceLT, Int.reduceEq, Int.reduceLE, Int.reduceAdd, Int.reduceSub, Int.reduceToNat, Int.reduceNeg, e1, wrapu64]
    refine wJ_of (F.num_Reader_take_J (n := k) hr (by simpa using hL)) ?_
    rintro v1 S1 ⟨hbt, ⟨-, hkl, hs1, -, hr1⟩ | ⟨hnt, rfl, hr1⟩⟩
    rotate_left
    · simp (disch := omega) only [go_sem, ↓reduceIte, Nat.reduceEqDiff, Nat.reduceAdd, Nat.reduceMul, Nat.reduceSub, Nat.reduceLT, Nat.reduceLeDiff, Nat.reduceBEq, reduceCtorEq, Int.reduceLT, Int.reduceEq, Int.reduceLE, Int.reduceAdd, Int.reduceSub, Int.reduceToNat, Int.reduceNeg]
      rw [hrd, if_pos (by simp at hnt; omega)]
      exact ⟨rfl, hr1, hbt⟩
    have hkl' : ¬ r.length + 1 < k := by simp at hkl; omega
    rw [if_neg hkl'] at hrd
    have htk : ((m : Int) :: r).take k = (m : Int) :: r.take (k - 1) := by rw [show k = (k - 1) + 1 by omega, List.take_succ_cons]; rfl
    rw [htk] at hs1
    have htl : (r.take (k - 1)).length = k - 1 := by simp; omega
    obtain ⟨b1, c3, hv1⟩ := hs1.len byteE
    rw [List.length_cons, htl, show k - 1 + 1 = k by omega] at hv1
    subst hv1
    have hk0 : ¬ ((k : Int) = 0) := by omega
    have hs1' : SlT byteE S1 (.slice b1 ((m : Int) :: r.take (k - 1)).length c3) ((m : Int) :: r.take (k - 1)) := by rw [List.length_cons, htl, show k - 1 + 1 = k by omega]; exact hs1
    obtain ⟨bb1, off1, rfl, hbb1, hx1⟩ := SlT.byte hs1' (i := 0) (by simp)
    simp only [Nat.add_zero, List.getElem_cons_zero] at hx1
    obtain ⟨u, hu, hus⟩ := hs1.from byteE (l := 1) (q := .i64) (i := 1) rfl (by simp)
    replace hu : slV 1 _ _ _ _ = _ := hu
    rw [List.drop_succ_cons, List.drop_zero] at hus
    have c4 : (0 : Int) ≤ 0 ∧ (0 : Int) < (k : Int) := by omega
    simp (disch := omega) only [go_sem, ↓reduceIte, Nat.reduceEqDiff, Nat.reduceAdd, Nat.reduceMul, Nat.reduceSub, Nat.reduceLT, Nat.reduceLeDiff, Nat.reduceBEq, reduceCtorEq, Int.reduceLT, Int.reduceEq, Int.reduceLE, Int.reduceAdd, Int.reduceSub, Int.reduceToNat, Int.reduceNeg, hk0, c4, Nat.zero_mul, hx1]
    refine wJ_of (F.num_head_J hlr.1 hlr.2) ?_; rintro _ _ ⟨rfl, rfl⟩
    have e5 : IntKind.u64.wrap ((m - headN k : Nat) : Int) = ((m - headN k : Nat) : Int) := wrapu64 (by omega) (by omega)
    simp (disch := omega) only [go_sem, ↓reduceIte, Nat.reduceEqDiff, Nat.reduceAdd, Nat.reduceMul, Nat.reduceSub, Nat.reduceLT, Nat.reduceLeDiff, Nat.reduceBEq, reduceCtorEq, Int.reduceLT, Int.reduceEq, Int.reduceLE, Int.reduceAdd, Int.reduceSub, Int.reduceToNat, Int.reduceNeg, hk0, c4, Nat.zero_mul, hx1, lf3, e5, hu]
    have hbr : isB (r.take (k - 1)) := fun x hx => hb x (List.mem_cons_of_mem _ (List.mem_of_mem_take hx))
    generalize r.take (k - 1) = t at *
    obtain ⟨b2, c5, hv2⟩ := hus.len byteE
    rw [htl] at hv2
    subst hv2
    simp (disch := omega) only [go_sem, ↓reduceIte, Nat.reduceEqDiff, Nat.reduceAdd, Nat.reduceMul, Nat.reduceSub, Nat.reduceLT, Nat.reduceLeDiff, Nat.reduceBEq, reduceCtorEq, Int.reduceLT, Int.reduceEq, Int.reduceLE, Int.reduceAdd, Int.reduceSub, Int.reduceToNat, Int.reduceNeg]
    refine wC_loop (fun n fr S' => ∃ i : Nat, n = (k - 1) - i ∧ i ≤ k - 1 ∧ S1 = S' ∧ fr 0 = ptrV q ∧ fr 3 = .int .i64 k ∧ fr 5 = .int .u64 (valN (m - headN k) (t.take i) : Nat) ∧ fr 44 = .slice b2 (k - 1) c5 ∧ fr 45 = .int .i64 ((k - 1 : Nat) : Int) ∧ fr 46 = .int .i64 (i : Nat)) (k - 1)
      ⟨0, by simp (disch := omega) only [go_sem, ↓reduceIte, Nat.reduceEqDiff, Nat.reduceAdd, Nat.reduceMul, Nat.reduceSub, Nat.reduceLT, Nat.reduceLeDiff, Nat.reduceBEq, reduceCtorEq, Int.reduceLT, Int.reduceEq, Int.reduceLE, Int.reduceAdd, Int.reduceSub, Int.reduceToNat, Int.reduceNeg]; exact ⟨by simp, by simp, rfl⟩⟩ ?_
    rintro n fr S2 ⟨i, rfl, hi, rfl, h0, h3, h5, h44, h45, h46⟩
    simp (disch := omega) only [go_sem, ↓reduceIte, Nat.reduceEqDiff, Nat.reduceAdd, Nat.reduceMul, Nat.reduceSub, Nat.reduceLT, Nat.reduceLeDiff, Nat.reduceBEq, reduceCtorEq, Int.reduceLT, Int.reduceEq, Int.reduceLE, Int.reduceAdd, Int.reduceSub, Int.reduceToNat, Int.reduceNeg, F.num_Reader_Uint.l0, h0, h3, h5, h44, h45, h46]
    refine wcond_dec (fun hlt => ?_) (fun hge => ?_)
    · have hit : i < t.length := by omega
      rw [← htl] at hus
      obtain ⟨b6, off6, hb6, hbb6, hx6⟩ := SlT.byte hus hit
      subst hb6
      have c6 : (0 : Int) ≤ (i : Int) ∧ (i : Int) < ((k - 1 : Nat) : Int) := by omega
      obtain ⟨g1, g2⟩ := hbr t[i] (List.getElem_mem _)
      have hvl : valN (m - headN k) (t.take i) < 2 ^ 56 := by
        have h1 := valN_lt (xs := t.take i) (fun x hx => hbr x (List.mem_of_mem_take hx)) lf2
        refine Nat.lt_of_lt_of_le h1 (Nat.pow_le_pow_right (by decide) ?_)
        simp only [List.length_take]
        omega
      obtain ⟨c, hc⟩ : ∃ c : Nat, t[i] = c := ⟨t[i].toNat, by omega⟩
      have e6 := shl8_or (v := valN (m - headN k) (t.take i)) (c := c) (by simpa using hvl) (by omega)
      rw [hc] at hx6
      simp (disch := omega) only [go_sem, ↓reduceIte, Nat.reduceEqDiff, Nat.reduceAdd, Nat.reduceMul, Nat.reduceSub, Nat.reduceLT, Nat.reduceLeDiff, Nat.reduceBEq, reduceCtorEq, Int.reduceLT, Int.reduceEq, Int.reduceLE, Int.reduceAdd, Int.reduceSub, Int.reduceToNat, Int.reduceNeg, h0, h3, h5, h44, h45, h46, c6, Nat.mul_one, hx6, wrapu64, e6]
      refine ⟨k - 1 - (i + 1), by omega, i + 1, rfl, by omega, ?_, rfl⟩
      rw [take_snoc (List.getElem?_eq_getElem hit), valN_snoc, hc]
      rfl
    · have hik : i = k - 1 := by omega
      rw [List.take_of_length_le (by omega)] at h5
      simp (disch := omega) only [go_sem, ↓reduceIte, Nat.reduceEqDiff, Nat.reduceAdd, Nat.reduceMul, Nat.reduceSub, Nat.reduceLT, Nat.reduceLeDiff, Nat.reduceBEq, reduceCtorEq, Int.reduceLT, Int.reduceEq, Int.reduceLE, Int.reduceAdd, Int.reduceSub, Int.reduceToNat, Int.reduceNeg, h0, h3, h5]
      have hvl : valN (m - headN k) t < 18446744073709551616 := by
        have h1 := valN_lt hbr lf2
        have h2 : 2 ^ (8 * t.length + (8 - k)) ≤ 2 ^ 64 := Nat.pow_le_pow_right (by decide) (by omega)
        exact Nat.lt_of_lt_of_le h1 h2
      refine wJ_of (F.num_size_J hvl) ?_; rintro _ _ ⟨rfl, rfl⟩
      by_cases hsz : sizeN (valN (m - headN k) t) = k
      · simp (disch := omega) only [go_sem, ↓reduceIte, Nat.reduceEqDiff, Nat.reduceAdd, Nat.reduceMul, Nat.reduceSub, Nat.reduceLT, Nat.reduceLeDiff, Nat.reduceBEq, reduceCtorEq, Int.reduceLT, Int.reduceEq, Int.reduceLE, Int.reduceAdd, Int.reduceSub, Int.reduceToNat, Int.reduceNeg, h0, h3, h5, hsz]
        rw [if_pos hsz] at hrd
        rw [hrd]
        exact ⟨rfl, hr1, hbt⟩
      · have hsz' : ¬ ((sizeN (valN (m - headN k) t) : Int) = (k : Int)) := by omega
        rw [if_neg hsz] at hrd
        rw [hrd]
        simp (disch := omega) only [go_sem, ↓reduceIte, Nat.reduceEqDiff, Nat.reduceAdd, Nat.reduceMul, Nat.reduceSub, Nat.reduceLT, Nat.reduceLeDiff, Nat.reduceBEq, reduceCtorEq, Int.reduceLT, Int.reduceEq, Int.reduceLE, Int.reduceAdd, Int.reduceSub, Int.reduceToNat, Int.reduceNeg, h0, h3, h5, hsz']
        refine wJ_of (F.num_Reader_Fail_J (x := 11) hr1 (by decide)) ?_; rintro _ S3 ⟨rfl, hr3, hb3⟩
        simp (disch := omega) only [go_sem, ↓reduceIte, Nat.reduceEqDiff, Nat.reduceAdd, Nat.reduceMul, Nat.reduceSub, Nat.reduceLT, Nat.reduceLeDiff, Nat.reduceBEq, reduceCtorEq, Int.reduceLT, Int.reduceEq, Int.reduceLE, Int.reduceAdd, Int.reduceSub, Int.reduceToNat, Int.reduceNeg]
        exact ⟨by simpa using hr3, hbt.trans hb3⟩
end Go.Osj

/- Contracts of layer 1: the reference's reader. -/
set_option linter.unusedSimpArgs false
namespace Go.Osj
def bitK (k : Nat) : Nat := 256 / 2 ^ k
theorem bit_step : ∀ k : Fin 9, 1 ≤ k.val → headN (k.val + 1) = headN k.val + bitK k.val ∧ bitK k.val / 2 = bitK (k.val + 1) ∧ 0 < bitK k.val ∧ bitK k.val ≤ 128 := by decide
theorem F.osierref01_R_Uint_J {S : St} {q B : Nat} {bs : List Int} {e : Int} (h : RdT S q B bs e) (hb : isB bs) (hL : bs.length < 1000000000) :
    J PR F.osierref01_R_Uint [ptrV q] S fun v S' => v = .int .u64 (rdU bs e).1 ∧ RdT S' q B (rdU bs e).2.1 (rdU bs e).2.2 ∧ St.But (ptrV q) S S' := by
  have hr := h
  obtain ⟨v, ho, hq, hs, hv⟩ := h
  obtain ⟨base, cap, rfl⟩ := hs.len byteE
  have c0 : S.cell ⟨q, 0, none⟩ = some (.slice base bs.length cap) := by rw [St.cell_def, ho]; rfl
  have c1 : S.cell ⟨q, 1, none⟩ = some (.int .i64 e) := by rw [St.cell_def, ho]; rfl
  refine J_by PR.mixed F.osierref01_R_Uint.ok (by simp) ?_
  by_cases h0 : e = 0
  rotate_left
  · simp (disch := omega) only [go_sem, ↓reduceIte, Nat.reduceEqDiff, Nat.reduceAdd, Nat.reduceMul, Nat.reduceSub, Nat.reduceLT, Nat.reduceLeDiff, Nat.reduceBEq, reduceCtorEq, Int.reduceLT, Int.reduceEq, Int.reduceLE, Int.reduceAdd, Int.reduceSub, Int.reduceToNat, Int.reduceNeg, eqN, Option.isNone_none, c0, c1, h0]
    simp only [rdU, ne_eq, h0, not_false_eq_true, if_true]
    exact ⟨by trivial, hr, but_refl ..⟩
  subst h0
  cases bs with
  | nil =>
    simp (disch := omega) only [go_sem, ↓reduceIte, Nat.reduceEqDiff, Nat.reduceAdd, Nat.reduceMul, Nat.reduceSub, Nat.reduceLT, Nat.reduceLeDiff, Nat.reduceBEq, reduceCtorEq, Int.reduceLT, Int.reduceEq, Int.reduceLE, Int.reduceAdd, Int.reduceSub, Int.reduceToNat, Int.reduceNeg, eqN, Option.isNone_none, c0, c1, List.length_nil]
    refine wJ_of (F.osierref01_R_Fail_J (x := 10) hr (by decide)) ?_; rintro _ S1 ⟨rfl, hr1, hb1⟩
    simp (disch := omega) only [go_sem, ↓reduceIte, Nat.reduceEqDiff, Nat.reduceAdd, Nat.reduceMul, Nat.reduceSub, Nat.reduceLT, Nat.reduceLeDiff, Nat.reduceBEq, reduceCtorEq, Int.reduceLT, Int.reduceEq, Int.reduceLE, Int.reduceAdd, Int.reduceSub, Int.reduceToNat, Int.reduceNeg]
    simp only [rdU, ne_eq, not_true_eq_false, if_false, if_true] at hr1 ⊢
    exact ⟨by trivial, hr1, hb1⟩
  | cons b r =>
    obtain ⟨hb0, hb1⟩ := hb b (by simp)
    obtain ⟨bb, off, rfl, hbb, hx0⟩ := SlT.byte hs (i := 0) (by simp)
    simp only [Nat.add_zero, List.getElem_cons_zero] at hx0
    have hn0 : ¬ (((r.length + 1 : Nat) : Int) = 0) := by omega
    have c2 : (0 : Int) ≤ 0 ∧ (0 : Int) < ((r.length + 1 : Nat) : Int) := by omega
    obtain ⟨m, rfl⟩ : ∃ m : Nat, b = m := ⟨b.toNat, by omega⟩
    obtain ⟨lf1, lf2, -, -⟩ := lead_first ⟨m, by omega⟩
    simp only at lf1 lf2
    have hlr := leadK_range m
    rw [List.length_cons] at c0 hL
    simp (disch := omega) only [go_sem, ↓reduceIte, Nat.reduceEqDiff, Nat.reduceAdd, Nat.reduceMul, Nat.reduceSub, Nat.reduceLT, Nat.reduceLeDiff, Nat.reduceBEq, reduceCtorEq, Int.reduceLT, Int.reduceEq, Int.reduceLE, Int.reduceAdd, Int.reduceSub, Int.reduceToNat, Int.reduceNeg, eqN, Option.isNone_none, c0, c1, hn0, c2, Nat.zero_mul, hx0]
    refine wC_at 0 (fun fr S' => S = S' ∧ fr 0 = ptrV q ∧ fr 3 = .int .i64 (leadK m : Nat) ∧ fr 4 = .int .i64 ((m - headN (leadK m) : Nat) : Int)) ?_ ?_
    · refine wC_loop (fun n fr S' => ∃ k : Nat, n = 9 - k ∧ 1 ≤ k ∧ k ≤ 9 ∧ S = S' ∧ fr 0 = ptrV q ∧ fr 3 = .int .i64 (k : Nat) ∧ fr 4 = .int .i64 ((m - headN k : Nat) : Int) ∧ fr 5 = .int .i64 (bitK k : Nat) ∧ headN k ≤ m) 8 ⟨1, by simp (disch := omega) only [go_sem, ↓reduceIte, Nat.reduceEqDiff, Nat.reduceAdd, Nat.reduceMul, Nat.reduceSub, Nat.reduceLT, Nat.reduceLeDiff, Nat.reduceBEq, reduceCtorEq, Int.reduceLT, Int.reduceEq, Int.reduceLE, Int.reduceAdd, Int.reduceSub, Int.reduceToNat, Int.reduceNeg]; simp [headN, bitK]⟩ ?_
      rintro n fr S' ⟨k, rfl, h1, h9, rfl, h0, h3, h4, h5, hle⟩
      simp (disch := omega) only [go_sem, ↓reduceIte, Nat.reduceEqDiff, Nat.reduceAdd, Nat.reduceMul, Nat.reduceSub, Nat.reduceLT, Nat.reduceLeDiff, Nat.reduceBEq, reduceCtorEq, Int.reduceLT, Int.reduceEq, Int.reduceLE, Int.reduceAdd, Int.reduceSub, Int.reduceToNat, Int.reduceNeg, F.osierref01_R_Uint.l0, h0, h3, h4, h5]
      by_cases hk9 : k = 9
      · subst hk9
        have e0 : ((bitK 9 : Nat) : Int) = 0 := by decide
        simp (disch := omega) only [go_sem, ↓reduceIte, Nat.reduceEqDiff, Nat.reduceAdd, Nat.reduceMul, Nat.reduceSub, Nat.reduceLT, Nat.reduceLeDiff, Nat.reduceBEq, reduceCtorEq, Int.reduceLT, Int.reduceEq, Int.reduceLE, Int.reduceAdd, Int.reduceSub, Int.reduceToNat, Int.reduceNeg, h0, h3, h4, h5, e0, Int.lt_irrefl]
        rw [leadK_of (k := 9) (by omega) (by omega) (by omega) hle (by omega)]
        exact ⟨rfl, rfl⟩
      · obtain ⟨g1, g2, g3, g4⟩ := bit_step ⟨k, by omega⟩ h1
        simp only at g1 g2 g3 g4
        have e0 : (0 : Int) < ((bitK k : Nat) : Int) := by omega
        simp (disch := omega) only [go_sem, ↓reduceIte, Nat.reduceEqDiff, Nat.reduceAdd, Nat.reduceMul, Nat.reduceSub, Nat.reduceLT, Nat.reduceLeDiff, Nat.reduceBEq, reduceCtorEq, Int.reduceLT, Int.reduceEq, Int.reduceLE, Int.reduceAdd, Int.reduceSub, Int.reduceToNat, Int.reduceNeg, h0, h3, h4, h5, e0]
        refine wcond_dec (fun hc => ?_) (fun hc => ?_)
        · have e1 : ((bitK k : Nat) : Int).tdiv 2 = ((bitK (k + 1) : Nat) : Int) := by rw [← g2]; exact tdivN _ 2
          have e2 : ((m - headN k : Nat) : Int) - ((bitK k : Nat) : Int) = ((m - headN (k + 1) : Nat) : Int) := by omega
          have e3 : IntKind.i64.wrap ((bitK (k + 1) : Nat) : Int) = ((bitK (k + 1) : Nat) : Int) := wrap64 (by omega) (by omega)
          simp (disch := omega) only [go_sem, ↓reduceIte, Nat.reduceEqDiff, Nat.reduceAdd, Nat.reduceMul, Nat.reduceSub, Nat.reduceLT, Nat.reduceLeDiff, Nat.reduceBEq, reduceCtorEq, Int.reduceLT, Int.reduceEq, Int.reduceLE, Int.reduceAdd, Int.reduceSub, Int.reduceToNat, Int.reduceNeg, h0, h3, h4, h5, e1, e2, e3]
          exact ⟨9 - (k + 1), by omega, k + 1, rfl, by omega, by omega, rfl, rfl, rfl, by omega⟩
        · simp (disch := omega) only [go_sem, ↓reduceIte, Nat.reduceEqDiff, Nat.reduceAdd, Nat.reduceMul, Nat.reduceSub, Nat.reduceLT, Nat.reduceLeDiff, Nat.reduceBEq, reduceCtorEq, Int.reduceLT, Int.reduceEq, Int.reduceLE, Int.reduceAdd, Int.reduceSub, Int.reduceToNat, Int.reduceNeg, h0, h3, h4, h5]
          rw [leadK_of (k := k) (by omega) (by omega) (by omega) hle (by omega)]
          exact ⟨rfl, rfl⟩
    rintro fr S' ⟨rfl, h0, h3, h4⟩
    have hrd : rdU ((m : Int) :: r) 0 = if r.length + 1 < leadK m then (0, [], 10) else
        if sizeN (valN (m - headN (leadK m)) (r.take (leadK m - 1))) = leadK m then (valN (m - headN (leadK m)) (r.take (leadK m - 1)), ((m : Int) :: r).drop (leadK m), 0) else (0, [], 11) := by simp [rdU]
    generalize leadK m = k at *
    simp (disch := omega) only [go_sem, ↓reduceIte, Nat.reduceEqDiff, Nat.reduceAdd, Nat.reduceMul, Nat.reduceSub, Nat.reduceLT, Nat.reduceLeDiff, Nat.reduceBEq, reduceCtorEq, Int.reduceLT, Int.reduceEq, Int.reduceLE, Int.reduceAdd, Int.reduceSub, Int.reduceToNat, Int.reduceNeg, h0, h3, h4, c0, c1]
    refine wcond_dec (fun hkl => ?_) (fun hkl => ?_)
    · simp (disch := omega) only [go_sem, ↓reduceIte, Nat.reduceEqDiff, Nat.reduceAdd, Nat.reduceMul, Nat.reduceSub, Nat.reduceLT, Nat.reduceLeDiff, Nat.reduceBEq, reduceCtorEq, Int.reduceLT, Int.reduceEq, Int.reduceLE, Int.reduceAdd, Int.reduceSub, Int.reduceToNat, Int.reduceNeg, h0]
      refine wJ_of (F.osierref01_R_Fail_J (x := 10) hr (by decide)) ?_; rintro _ S1 ⟨rfl, hr1, hb1⟩
      simp (disch := omega) only [go_sem, ↓reduceIte, Nat.reduceEqDiff, Nat.reduceAdd, Nat.reduceMul, Nat.reduceSub, Nat.reduceLT, Nat.reduceLeDiff, Nat.reduceBEq, reduceCtorEq, Int.reduceLT, Int.reduceEq, Int.reduceLE, Int.reduceAdd, Int.reduceSub, Int.reduceToNat, Int.reduceNeg]
      rw [hrd, if_pos (by omega)]
      exact ⟨rfl, by simpa using hr1, hb1⟩
    have hkl' : ¬ r.length + 1 < k := by omega
    rw [if_neg hkl'] at hrd
    have hbr : isB (r.take (k - 1)) := fun x hx => hb x (List.mem_cons_of_mem _ (List.mem_of_mem_take hx))
    have htl : (r.take (k - 1)).length = k - 1 := by simp; omega
    have hget : ∀ i, i < k - 1 → ∃ c : Nat, (r.take (k - 1))[i]? = some (c : Int) ∧ c < 256 ∧ S.cell ⟨bb, off + (i + 1), none⟩ = some (.int .u8 (c : Int)) := by
      intro i hi
      obtain ⟨b', off', hbb', -, hx⟩ := SlT.byte hs (i := i + 1) (by simp; omega)
      simp only [Option.some.injEq, Addr.mk.injEq, and_true] at hbb'
      obtain ⟨rfl, rfl⟩ := hbb'
      have hir : i < r.length := by omega
      obtain ⟨g1, g2⟩ := hb r[i] (by simp)
      refine ⟨r[i].toNat, ?_, by omega, ?_⟩
      · rw [List.getElem?_take, if_pos hi, List.getElem?_eq_getElem hir]
        congr 1
        omega
      · rw [hx]
        simp only [List.getElem_cons_succ]
        congr 2
        omega
    obtain ⟨u, hu, hus⟩ := hs.from byteE (l := k) (q := .i64) (i := k) rfl (by simp; omega)
    replace hu : slV 1 (.slice (some ⟨bb, off, none⟩) (r.length + 1) cap) (some (.int .i64 (k : Nat))) none none = some u := hu
    generalize r.take (k - 1) = t at *
    have hvlt : ∀ i, i ≤ k - 1 → valN (m - headN k) (t.take i) < 2 ^ (8 * i + (8 - k)) := by
      intro i hi
      have h1 := valN_lt (xs := t.take i) (fun x hx => hbr x (List.mem_of_mem_take hx)) lf2
      rwa [List.length_take, Nat.min_eq_left (by omega)] at h1
    simp (disch := omega) only [go_sem, ↓reduceIte, Nat.reduceEqDiff, Nat.reduceAdd, Nat.reduceMul, Nat.reduceSub, Nat.reduceLT, Nat.reduceLeDiff, Nat.reduceBEq, reduceCtorEq, Int.reduceLT, Int.reduceEq, Int.reduceLE, Int.reduceAdd, Int.reduceSub, Int.reduceToNat, Int.reduceNeg, h0, h3, h4, wrapu64]
    refine wC_loop (fun n fr S' => ∃ i : Nat, n = (k - 1) - i ∧ i ≤ k - 1 ∧ S = S' ∧ fr 0 = ptrV q ∧ fr 3 = .int .i64 k ∧ fr 6 = .int .u64 (valN (m - headN k) (t.take i) : Nat) ∧ fr 7 = .int .i64 ((i + 1 : Nat) : Int)) (k - 1)
      ⟨0, by simp (disch := omega) only [go_sem, ↓reduceIte, Nat.reduceEqDiff, Nat.reduceAdd, Nat.reduceMul, Nat.reduceSub, Nat.reduceLT, Nat.reduceLeDiff, Nat.reduceBEq, reduceCtorEq, Int.reduceLT, Int.reduceEq, Int.reduceLE, Int.reduceAdd, Int.reduceSub, Int.reduceToNat, Int.reduceNeg, h0, h3, h4]; exact ⟨by omega, by omega, rfl⟩⟩ ?_
    rintro n fr S2 ⟨i, rfl, hi, rfl, h0, h3, h6, h7⟩
    simp (disch := omega) only [go_sem, ↓reduceIte, Nat.reduceEqDiff, Nat.reduceAdd, Nat.reduceMul, Nat.reduceSub, Nat.reduceLT, Nat.reduceLeDiff, Nat.reduceBEq, reduceCtorEq, Int.reduceLT, Int.reduceEq, Int.reduceLE, Int.reduceAdd, Int.reduceSub, Int.reduceToNat, Int.reduceNeg, F.osierref01_R_Uint.l1, h0, h3, h6, h7]
    refine wcond_dec (fun hlt => ?_) (fun hge => ?_)
    · obtain ⟨c, hc1, hc2, hc3⟩ := hget i (by omega)
      have c6 : (0 : Int) ≤ ((i + 1 : Nat) : Int) ∧ ((i + 1 : Nat) : Int) < ((r.length + 1 : Nat) : Int) := by omega
      have hv1 := hvlt (i + 1) (by omega)
      rw [take_snoc hc1, valN_snoc, Int.toNat_natCast] at hv1
      have h2 : 2 ^ (8 * (i + 1) + (8 - k)) ≤ 2 ^ 64 := Nat.pow_le_pow_right (by decide) (by omega)
      have hv2 : valN (m - headN k) (t.take i) * 256 + c < 18446744073709551616 := Nat.lt_of_lt_of_le hv1 h2
      simp (disch := omega) only [go_sem, ↓reduceIte, Nat.reduceEqDiff, Nat.reduceAdd, Nat.reduceMul, Nat.reduceSub, Nat.reduceLT, Nat.reduceLeDiff, Nat.reduceBEq, reduceCtorEq, Int.reduceLT, Int.reduceEq, Int.reduceLE, Int.reduceAdd, Int.reduceSub, Int.reduceToNat, Int.reduceNeg, h0, h3, h6, h7, c0, c6, Nat.mul_one, hc3, wrapu64]
      refine ⟨k - 1 - (i + 1), by omega, i + 1, rfl, by omega, ?_, rfl⟩
      rw [take_snoc hc1, valN_snoc, Int.toNat_natCast]
      rfl
    · have hik : i = k - 1 := by omega
      have hvl := hvlt i hi
      rw [List.take_of_length_le (by omega)] at h6 hvl
      have h2 : 2 ^ (8 * i + (8 - k)) ≤ 2 ^ 64 := Nat.pow_le_pow_right (by decide) (by omega)
      simp (disch := omega) only [go_sem, ↓reduceIte, Nat.reduceEqDiff, Nat.reduceAdd, Nat.reduceMul, Nat.reduceSub, Nat.reduceLT, Nat.reduceLeDiff, Nat.reduceBEq, reduceCtorEq, Int.reduceLT, Int.reduceEq, Int.reduceLE, Int.reduceAdd, Int.reduceSub, Int.reduceToNat, Int.reduceNeg, h0, h3, h6]
      refine wJ_of (F.osierref01_Size_J (Nat.lt_of_lt_of_le hvl h2)) ?_; rintro _ _ ⟨rfl, rfl⟩
      by_cases hsz : sizeN (valN (m - headN k) t) = k
      · rw [if_pos hsz] at hrd
        simp (disch := omega) only [go_sem, ↓reduceIte, Nat.reduceEqDiff, Nat.reduceAdd, Nat.reduceMul, Nat.reduceSub, Nat.reduceLT, Nat.reduceLeDiff, Nat.reduceBEq, reduceCtorEq, Int.reduceLT, Int.reduceEq, Int.reduceLE, Int.reduceAdd, Int.reduceSub, Int.reduceToNat, Int.reduceNeg, h0, h3, h6, hsz, c0, hu]
        have hc2 := slV_cells hu
        refine wst_of ho (by rw [hc2]; rfl) (by rw [hc2]; have := hus.len byteE; obtain ⟨b, c, rfl⟩ := this; rfl) (by simp) (by simp) ?_
        rw [hc2]
        simp (disch := omega) only [go_sem, ↓reduceIte, Nat.reduceEqDiff, Nat.reduceAdd, Nat.reduceMul, Nat.reduceSub, Nat.reduceLT, Nat.reduceLeDiff, Nat.reduceBEq, reduceCtorEq, Int.reduceLT, Int.reduceEq, Int.reduceLE, Int.reduceAdd, Int.reduceSub, Int.reduceToNat, Int.reduceNeg, h6]
        rw [hrd]
        refine ⟨rfl, RdT.set hus fun h => ?_, but_put ..⟩
        rw [slV_blk hu]
        exact hv (by simp)
      · have hsz' : ¬ ((sizeN (valN (m - headN k) t) : Int) = (k : Int)) := by omega
        rw [if_neg hsz] at hrd
        simp (disch := omega) only [go_sem, ↓reduceIte, Nat.reduceEqDiff, Nat.reduceAdd, Nat.reduceMul, Nat.reduceSub, Nat.reduceLT, Nat.reduceLeDiff, Nat.reduceBEq, reduceCtorEq, Int.reduceLT, Int.reduceEq, Int.reduceLE, Int.reduceAdd, Int.reduceSub, Int.reduceToNat, Int.reduceNeg, h0, h3, h6, hsz']
        refine wJ_of (F.osierref01_R_Fail_J (x := 11) hr (by decide)) ?_; rintro _ S3 ⟨rfl, hr3, hb3⟩
        simp (disch := omega) only [go_sem, ↓reduceIte, Nat.reduceEqDiff, Nat.reduceAdd, Nat.reduceMul, Nat.reduceSub, Nat.reduceLT, Nat.reduceLeDiff, Nat.reduceBEq, reduceCtorEq, Int.reduceLT, Int.reduceEq, Int.reduceLE, Int.reduceAdd, Int.reduceSub, Int.reduceToNat, Int.reduceNeg]
        rw [hrd]
        exact ⟨rfl, by simpa using hr3, hb3⟩
end Go.Osj

/- Contracts of layer 3, more: Concat, Union, Meet. -/
set_option linter.unusedSimpArgs false
namespace Go.Osj
end Go.Osj

/- The laws DotsJoins and DotsLaws. -/
set_option linter.unusedSimpArgs false
namespace Go.Osj
/-! ### places -/
theorem placesN_facts (xs : List Dot) : ∀ n, n ≤ xs.length → ((placesN xs n).map Prod.fst).Nodup ∧ (∀ d, d ∈ (placesN xs n).map Prod.fst ↔ d ∈ xs.take n) ∧
    (∀ d k, alook d (placesN xs n) = some k → k < n ∧ xs[k]? = some d) ∧ ∀ i d, i < n → xs[i]? = some d → ∃ k, alook d (placesN xs n) = some k ∧ k ≤ i
  | 0, _ => ⟨by simp [placesN], by simp [placesN], by simp [placesN, alook], by simp⟩
  | n + 1, hn => by
    obtain ⟨h1, h2, h3, h4⟩ := placesN_facts xs n (by omega)
    have hx : xs[n]? = some xs[n] := by simp
    rw [take_snoc hx]
    simp only [placesN, hx]
    cases hq : alook xs[n] (placesN xs n) with
    | some j =>
      simp only [Option.isSome_some, if_true]
      refine ⟨h1, fun d => ?_, fun d k hk => ?_, fun i d hi hd => ?_⟩
      · rw [h2, List.mem_append, List.mem_singleton]
        constructor
        · exact .inl
        · rintro (h | h)
          · exact h
          · subst h
            rw [← h2]
            exact alook_isSome.1 (by rw [hq]; rfl)
      · obtain ⟨g1, g2⟩ := h3 d k hk
        exact ⟨by omega, g2⟩
      · by_cases hin : i < n
        · exact h4 i d hin hd
        · have : i = n := by omega
          subst this
          rw [hx] at hd
          injection hd with hd
          subst hd
          exact ⟨j, hq, by have := (h3 _ _ hq).1; omega⟩
    | none =>
      simp only [Option.isSome_none, Bool.false_eq_true, if_false]
      obtain ⟨g1, g2⟩ := aset_keys (k := xs[n]) (v := n) h1
      refine ⟨g1, fun d => ?_, fun d k hk => ?_, fun i d hi hd => ?_⟩
      · rw [g2, h2, List.mem_append, List.mem_singleton]
        exact Or.comm
      · rw [alook_aset] at hk
        split at hk
        · rename_i he
          injection hk with hk
          subst hk he
          exact ⟨by omega, hx⟩
        · obtain ⟨g1, g2⟩ := h3 d k hk
          exact ⟨by omega, g2⟩
      · rw [alook_aset]
        by_cases hdn : d = xs[n]
        · rw [if_pos hdn]
          refine ⟨n, rfl, ?_⟩
          by_cases hin : i < n
          · obtain ⟨k, hk, -⟩ := h4 i d hin hd
            rw [hdn, hq] at hk
            cases hk
          · omega
        · rw [if_neg hdn]
          by_cases hin : i < n
          · exact h4 i d hin hd
          · have : i = n := by omega
            subst this
            rw [hx] at hd
            injection hd with hd
            exact absurd hd.symm hdn
theorem placesN_len (xs : List Dot) : (placesN xs xs.length).length = (risen xs).length := by
  obtain ⟨h1, h2, -, -⟩ := placesN_facts xs xs.length (Nat.le_refl _)
  rw [List.take_length] at h2
  have hn : (risen xs).Nodup := (risen_ris xs).1.imp fun {a b} h e => by subst e; exact lessP_irrefl a h
  have hp : ((placesN xs xs.length).map Prod.fst).Perm (risen xs) := (List.perm_ext_iff_of_nodup h1 hn).2 fun d => by rw [h2, (risen_ris xs).2]
  simpa using hp.length_eq
theorem chosen_true (xs ys : List Dot) : chosen xs ys true = risen (xs.filter fun d => decide (d ∈ ys)) := by
  unfold chosen
  congr 1
  refine List.filter_congr fun d _ => ?_
  simp
theorem chosen_false (xs ys : List Dot) : chosen xs ys false = risen (xs.filter fun d => decide (d ∉ ys)) := by
  unfold chosen
  congr 1
  refine List.filter_congr fun d _ => ?_
  by_cases h : d ∈ ys <;> simp [h]

/-- a slice that may be written, of so many dots -/
def WrT (B : Nat) (S : St) (v : Value) (n : Nat) : Prop := n = 0 ∨ ∃ b c cs, v = .slice (some ⟨b, 0, none⟩) n c ∧ B ≤ b ∧ S.obj b = some (.cells true (c * 2) cs) ∧ cs.length = n * 2 ∧ n ≤ c
theorem OwnT.wr {B : Nat} {S : St} {v : Value} {xs : List Dot} (h : OwnT dotE B S v xs) : WrT B S v xs.length := by
  rcases h with ⟨rfl, rfl⟩ | ⟨b, c, rfl, h1, h2, h3, h4⟩
  · exact .inl rfl
  · exact .inr ⟨b, c, _, rfl, h1, h4, dotE.flat_length xs, h3⟩

end Go.Osj

/- Contracts of layers 1 and 3: a signed number, a dot, taken; the law DotsBytes. -/
set_option linter.unusedSimpArgs false
namespace Go.Osj
theorem rdU_good {bs : List Int} {e : Int} (hb : isB bs) (he : e ≠ 0 → bs = []) : isB (rdU bs e).2.1 ∧ ((rdU bs e).2.2 ≠ 0 → (rdU bs e).2.1 = []) ∧ (rdU bs e).1 < 18446744073709551616 ∧ (rdU bs e).2.1.length ≤ bs.length := by
  by_cases h0 : e = 0
  · subst h0
    cases bs with
    | nil => simp [rdU, isB]
    | cons b r =>
      obtain ⟨hb0, hb1⟩ := hb b (by simp)
      have hlr := leadK_range b.toNat
      obtain ⟨-, lf2, -, -⟩ := lead_first ⟨b.toNat, by omega⟩
      simp only at lf2
      simp only [rdU, ne_eq, not_true_eq_false, if_false]
      split
      · simp [isB]
      · split
        · refine ⟨fun x hx => hb x (List.mem_of_mem_drop hx), by simp, ?_, by simp⟩
          have h1 := valN_lt (xs := r.take (leadK b.toNat - 1)) (fun x hx => hb x (List.mem_cons_of_mem _ (List.mem_of_mem_take hx))) lf2
          have h2 : 2 ^ (8 * (r.take (leadK b.toNat - 1)).length + (8 - leadK b.toNat)) ≤ 2 ^ 64 := Nat.pow_le_pow_right (by decide) (by simp only [List.length_take]; omega)
          exact Nat.lt_of_lt_of_le h1 h2
        · simp [isB]
  · have := he h0
    subst this
    simp [rdU, h0, isB]
/-- a number with a sign, taken -/
def rdI (bs : List Int) (e : Int) : Int × List Int × Int := (unzz (rdU bs e).1, (rdU bs e).2)
theorem unzz_bits {n : Nat} (hn : n < 18446744073709551616) : bits .xor .i64 (IntKind.i64.wrap ((n : Int).fdiv (2 ^ min 1 64))) (IntKind.i64.wrap (0 - IntKind.i64.wrap (bits .and .u64 (n : Int) 1))) = unzz n := by
  have e1 := fdivN n (min 1 64) 2 (by decide)
  have e2 : bits .and .u64 (n : Int) 1 = ((n % 2 : Nat) : Int) := by
    have := bits_and_u64_nat n 1 hn (by decide)
    rw [Nat.and_one_is_mod] at this
    exact this
  rw [e1, e2, wrap64 (by omega) (by omega), wrap64 (n := ((n % 2 : Nat) : Int)) (by omega) (by omega)]
  unfold unzz
  by_cases h : n % 2 = 0
  · rw [if_pos h, h, show IntKind.i64.wrap (0 - ((0 : Nat) : Int)) = 0 from rfl, xor_i64_zero (by omega) (by omega)]
  · have h1 : n % 2 = 1 := by omega
    rw [if_neg h, h1, show IntKind.i64.wrap (0 - ((1 : Nat) : Int)) = -1 from rfl, xor_i64_neg1 (by omega) (by omega)]
theorem F.num_Reader_Int_J {S : St} {q B : Nat} {bs : List Int} {e : Int} (h : RdT S q B bs e) (hb : isB bs) (he : e ≠ 0 → bs = []) (hL : bs.length < 1000000000) :
    J PR F.num_Reader_Int [ptrV q] S fun v S' => v = .int .i64 (rdI bs e).1 ∧ RdT S' q B (rdI bs e).2.1 (rdI bs e).2.2 ∧ St.But (ptrV q) S S' := by
  refine J_by PR.mixed F.num_Reader_Int.ok (by simp) ?_
  simp (disch := omega) only [go_sem, ↓reduceIte, Nat.reduceEqDiff, Nat.reduceAdd, Nat.reduceMul, Nat.reduceSub, Nat.reduceLT, Nat.reduceLeDiff, Nat.reduceBEq, reduceCtorEq, Int.reduceLT, Int.reduceEq, Int.reduceLE, Int.reduceAdd, Int.reduceSub, Int.reduceToNat, Int.reduceNeg]
  refine wJ_of (F.num_Reader_Uint_J h hb he hL) ?_; rintro _ S1 ⟨rfl, hr, hbt⟩
  have hg := (rdU_good hb he).2.2.1
  have hz := unzz_bits hg
  simp (disch := omega) only [go_sem, ↓reduceIte, Nat.reduceEqDiff, Nat.reduceAdd, Nat.reduceMul, Nat.reduceSub, Nat.reduceLT, Nat.reduceLeDiff, Nat.reduceBEq, reduceCtorEq, Int.reduceLT, Int.reduceEq, Int.reduceLE, Int.reduceAdd, Int.reduceSub, Int.reduceToNat, Int.reduceNeg, hz]
  exact ⟨rfl, hr, hbt⟩
theorem F.osierref01_R_Int_J {S : St} {q B : Nat} {bs : List Int} {e : Int} (h : RdT S q B bs e) (hb : isB bs) (he : e ≠ 0 → bs = []) (hL : bs.length < 1000000000) :
    J PR F.osierref01_R_Int [ptrV q] S fun v S' => v = .int .i64 (rdI bs e).1 ∧ RdT S' q B (rdI bs e).2.1 (rdI bs e).2.2 ∧ St.But (ptrV q) S S' := by
  refine J_by PR.mixed F.osierref01_R_Int.ok (by simp) ?_
  simp (disch := omega) only [go_sem, ↓reduceIte, Nat.reduceEqDiff, Nat.reduceAdd, Nat.reduceMul, Nat.reduceSub, Nat.reduceLT, Nat.reduceLeDiff, Nat.reduceBEq, reduceCtorEq, Int.reduceLT, Int.reduceEq, Int.reduceLE, Int.reduceAdd, Int.reduceSub, Int.reduceToNat, Int.reduceNeg]
  refine wJ_of (F.osierref01_R_Uint_J h hb hL) ?_; rintro _ S1 ⟨rfl, hr, hbt⟩
  have hg := (rdU_good hb he).2.2.1
  unfold rdI unzz
  generalize (rdU bs e).1 = n at *
  have e1 : ((n : Nat) : Int).tmod 2 = ((n % 2 : Nat) : Int) := tmodN n 2
  have e2 : ((n : Nat) : Int).tdiv 2 = ((n / 2 : Nat) : Int) := tdivN n 2
  simp (disch := omega) only [go_sem, ↓reduceIte, Nat.reduceEqDiff, Nat.reduceAdd, Nat.reduceMul, Nat.reduceSub, Nat.reduceLT, Nat.reduceLeDiff, Nat.reduceBEq, reduceCtorEq, Int.reduceLT, Int.reduceEq, Int.reduceLE, Int.reduceAdd, Int.reduceSub, Int.reduceToNat, Int.reduceNeg, e1, e2]
  refine wcond_dec (fun h => ?_) (fun h => ?_)
  · simp (disch := omega) only [go_sem, ↓reduceIte, Nat.reduceEqDiff, Nat.reduceAdd, Nat.reduceMul, Nat.reduceSub, Nat.reduceLT, Nat.reduceLeDiff, Nat.reduceBEq, reduceCtorEq, Int.reduceLT, Int.reduceEq, Int.reduceLE, Int.reduceAdd, Int.reduceSub, Int.reduceToNat, Int.reduceNeg, e2, wrapu64]
    rw [if_pos (by omega)]
    exact ⟨rfl, hr, hbt⟩
  · simp (disch := omega) only [go_sem, ↓reduceIte, Nat.reduceEqDiff, Nat.reduceAdd, Nat.reduceMul, Nat.reduceSub, Nat.reduceLT, Nat.reduceLeDiff, Nat.reduceBEq, reduceCtorEq, Int.reduceLT, Int.reduceEq, Int.reduceLE, Int.reduceAdd, Int.reduceSub, Int.reduceToNat, Int.reduceNeg, e2, wrapu64]
    rw [if_neg (by omega)]
    refine ⟨?_, hr, hbt⟩
    congr 1
    omega
theorem rdI_good {bs : List Int} {e : Int} (hb : isB bs) (he : e ≠ 0 → bs = []) : isB (rdI bs e).2.1 ∧ ((rdI bs e).2.2 ≠ 0 → (rdI bs e).2.1 = []) ∧ (rdI bs e).2.1.length ≤ bs.length :=
  let h := rdU_good hb he; ⟨h.1, h.2.1, h.2.2.2⟩
/-- a dot, taken -/
def rdD (bs : List Int) (e : Int) : Dot × List Int × Int := (if (rdI (rdI bs e).2.1 (rdI bs e).2.2).2.2 ≠ 0 then (0, 0) else ((rdI bs e).1, (rdI (rdI bs e).2.1 (rdI bs e).2.2).1), (rdI (rdI bs e).2.1 (rdI bs e).2.2).2)
theorem rdD_good {bs : List Int} {e : Int} (hb : isB bs) (he : e ≠ 0 → bs = []) : isB (rdD bs e).2.1 ∧ ((rdD bs e).2.2 ≠ 0 → (rdD bs e).2.1 = []) ∧ (rdD bs e).2.1.length ≤ bs.length := by
  obtain ⟨h1, h2, h3⟩ := rdI_good hb he
  obtain ⟨g1, g2, g3⟩ := rdI_good h1 h2
  exact ⟨g1, g2, Nat.le_trans g3 h3⟩
theorem F.dots_Take_J {S : St} {q B : Nat} {bs : List Int} {e : Int} (h : RdT S q B bs e) (hBn : B ≤ S.n) (hb : isB bs) (he : e ≠ 0 → bs = []) (hL : bs.length < 1000000000) :
    J PR F.dots_Take [ptrV q] S fun v S' => v = dotV (rdD bs e).1 ∧ RdT S' q B (rdD bs e).2.1 (rdD bs e).2.2 ∧ St.But (ptrV q) S S' := by
  have hq := h.lt
  obtain ⟨h1, h2, h3⟩ := rdI_good hb he
  refine J_by PR.mixed F.dots_Take.ok (by simp) ?_
  simp (disch := omega) only [go_sem, ↓reduceIte, Nat.reduceEqDiff, Nat.reduceAdd, Nat.reduceMul, Nat.reduceSub, Nat.reduceLT, Nat.reduceLeDiff, Nat.reduceBEq, reduceCtorEq, Int.reduceLT, Int.reduceEq, Int.reduceLE, Int.reduceAdd, Int.reduceSub, Int.reduceToNat, Int.reduceNeg]
  refine wfresh_of fun x hx => ?_
  simp (disch := omega) only [go_sem, ↓reduceIte, Nat.reduceEqDiff, Nat.reduceAdd, Nat.reduceMul, Nat.reduceSub, Nat.reduceLT, Nat.reduceLeDiff, Nat.reduceBEq, reduceCtorEq, Int.reduceLT, Int.reduceEq, Int.reduceLE, Int.reduceAdd, Int.reduceSub, Int.reduceToNat, Int.reduceNeg]
  have he1 := (St.Ext.refl S).put hx (.cells true 2 [.int .i64 0, .int .i64 0])
  have hxn := St.lt_put_self S x (.cells true 2 [.int .i64 0, .int .i64 0])
  refine wJ_of (F.num_Reader_Int_J (h.but he1) hb he hL) ?_; rintro _ S2 ⟨rfl, hr2, hb2⟩
  have hx2 : S2.obj x = some (.cells true 2 [.int .i64 0, .int .i64 0]) := (hb2.obj x hxn (by simp [blkOf]; omega)).trans (St.put_same _ _ _)
  simp (disch := omega) only [go_sem, ↓reduceIte, Nat.reduceEqDiff, Nat.reduceAdd, Nat.reduceMul, Nat.reduceSub, Nat.reduceLT, Nat.reduceLeDiff, Nat.reduceBEq, reduceCtorEq, Int.reduceLT, Int.reduceEq, Int.reduceLE, Int.reduceAdd, Int.reduceSub, Int.reduceToNat, Int.reduceNeg]
  refine wJ_of (F.num_Reader_Int_J hr2 h1 h2 (by omega)) ?_; rintro _ S3 ⟨rfl, hr3, hb3⟩
  have hn2 := hb2.n
  have hn3 := hb3.n
  have hn1 := he1.n
  have hx3 : S3.obj x = some (.cells true 2 [.int .i64 0, .int .i64 0]) := (hb3.obj x (by omega) (by simp [blkOf]; omega)).trans hx2
  simp (disch := omega) only [go_sem, ↓reduceIte, Nat.reduceEqDiff, Nat.reduceAdd, Nat.reduceMul, Nat.reduceSub, Nat.reduceLT, Nat.reduceLeDiff, Nat.reduceBEq, reduceCtorEq, Int.reduceLT, Int.reduceEq, Int.reduceLE, Int.reduceAdd, Int.reduceSub, Int.reduceToNat, Int.reduceNeg]
  refine wfresh_of fun y hy => ?_
  simp (disch := omega) only [go_sem, ↓reduceIte, Nat.reduceEqDiff, Nat.reduceAdd, Nat.reduceMul, Nat.reduceSub, Nat.reduceLT, Nat.reduceLeDiff, Nat.reduceBEq, reduceCtorEq, Int.reduceLT, Int.reduceEq, Int.reduceLE, Int.reduceAdd, Int.reduceSub, Int.reduceToNat, Int.reduceNeg]
  have he4 := (St.Ext.refl S3).put hy (.cells true 2 [.int .i64 (rdI bs e).1, .int .i64 (rdI (rdI bs e).2.1 (rdI bs e).2.2).1])
  have hx4 : (S3.put y (.cells true 2 [.int .i64 (rdI bs e).1, .int .i64 (rdI (rdI bs e).2.1 (rdI bs e).2.2).1])).obj x = some (.cells true 2 [.int .i64 0, .int .i64 0]) := (he4.obj x (by omega)).trans hx3
  have hr4 := hr3.but he4
  have hb4 : St.But (ptrV q) S (S3.put y (.cells true 2 [.int .i64 (rdI bs e).1, .int .i64 (rdI (rdI bs e).2.1 (rdI bs e).2.2).1])) := ((he1.toBut.trans hb2).trans hb3).trans he4.toBut
  refine wJ_of (F.num_Reader_Err_J hr4) ?_; rintro _ _ ⟨rfl, rfl⟩
  have ly : (S3.put y (.cells true 2 [.int .i64 (rdI bs e).1, .int .i64 (rdI (rdI bs e).2.1 (rdI bs e).2.2).1])).loadN ⟨y, 0, none⟩ 2 = some [.int .i64 (rdI bs e).1, .int .i64 (rdI (rdI bs e).2.1 (rdI bs e).2.2).1] := by simp (disch := omega) only [go_sem, ↓reduceIte, Nat.reduceEqDiff, Nat.reduceAdd, Nat.reduceMul, Nat.reduceSub, Nat.reduceLT, Nat.reduceLeDiff, Nat.reduceBEq, reduceCtorEq, Int.reduceLT, Int.reduceEq, Int.reduceLE, Int.reduceAdd, Int.reduceSub, Int.reduceToNat, Int.reduceNeg]
  have hfin : ∀ cs, RdT ((S3.put y (.cells true 2 [.int .i64 (rdI bs e).1, .int .i64 (rdI (rdI bs e).2.1 (rdI bs e).2.2).1])).put x (.cells true 2 cs)) q B (rdD bs e).2.1 (rdD bs e).2.2 ∧ St.But (ptrV q) S ((S3.put y (.cells true 2 [.int .i64 (rdI bs e).1, .int .i64 (rdI (rdI bs e).2.1 (rdI bs e).2.2).1])).put x (.cells true 2 cs)) := by
    intro cs
    refine ⟨hr4.keep (by simp only [St.put_n]; omega) (St.put_other _ _ _ (by omega)) fun i hi _ => St.put_other _ _ _ (by omega), ⟨Nat.le_trans hb4.n (by simp only [St.put_n]; omega), fun i hi hne => ?_⟩⟩
    rw [St.put_other _ _ _ (by omega)]
    exact hb4.obj i hi hne
  have hrd : (rdD bs e).1 = if (rdI (rdI bs e).2.1 (rdI bs e).2.2).2.2 ≠ 0 then (0, 0) else ((rdI bs e).1, (rdI (rdI bs e).2.1 (rdI bs e).2.2).1) := rfl
  generalize S3.put y (.cells true 2 [.int .i64 (rdI bs e).1, .int .i64 (rdI (rdI bs e).2.1 (rdI bs e).2.2).1]) = S4 at *
  simp (disch := omega) only [go_sem, ↓reduceIte, Nat.reduceEqDiff, Nat.reduceAdd, Nat.reduceMul, Nat.reduceSub, Nat.reduceLT, Nat.reduceLeDiff, Nat.reduceBEq, reduceCtorEq, Int.reduceLT, Int.reduceEq, Int.reduceLE, Int.reduceAdd, Int.reduceSub, Int.reduceToNat, Int.reduceNeg]
  refine wcond_ndec (fun hz => ?_) (fun hz => ?_)
  · simp (disch := omega) only [go_sem, ↓reduceIte, Nat.reduceEqDiff, Nat.reduceAdd, Nat.reduceMul, Nat.reduceSub, Nat.reduceLT, Nat.reduceLeDiff, Nat.reduceBEq, reduceCtorEq, Int.reduceLT, Int.reduceEq, Int.reduceLE, Int.reduceAdd, Int.reduceSub, Int.reduceToNat, Int.reduceNeg]
    refine wst_of hx4 rfl rfl (by simp) (by simp) ?_
    simp (disch := omega) only [go_sem, ↓reduceIte, Nat.reduceEqDiff, Nat.reduceAdd, Nat.reduceMul, Nat.reduceSub, Nat.reduceLT, Nat.reduceLeDiff, Nat.reduceBEq, reduceCtorEq, Int.reduceLT, Int.reduceEq, Int.reduceLE, Int.reduceAdd, Int.reduceSub, Int.reduceToNat, Int.reduceNeg]
    rw [hrd, if_pos hz]
    exact ⟨rfl, hfin _⟩
  · simp (disch := omega) only [go_sem, ↓reduceIte, Nat.reduceEqDiff, Nat.reduceAdd, Nat.reduceMul, Nat.reduceSub, Nat.reduceLT, Nat.reduceLeDiff, Nat.reduceBEq, reduceCtorEq, Int.reduceLT, Int.reduceEq, Int.reduceLE, Int.reduceAdd, Int.reduceSub, Int.reduceToNat, Int.reduceNeg, ly]
    refine wst_of hx4 rfl rfl (by simp) (by simp) ?_
    simp (disch := omega) only [go_sem, ↓reduceIte, Nat.reduceEqDiff, Nat.reduceAdd, Nat.reduceMul, Nat.reduceSub, Nat.reduceLT, Nat.reduceLeDiff, Nat.reduceBEq, reduceCtorEq, Int.reduceLT, Int.reduceEq, Int.reduceLE, Int.reduceAdd, Int.reduceSub, Int.reduceToNat, Int.reduceNeg]
    rw [hrd, if_neg (by simpa using hz)]
    exact ⟨rfl, hfin _⟩
theorem F.osierref03_Take_J {S : St} {q B : Nat} {bs : List Int} {e : Int} (h : RdT S q B bs e) (hBn : B ≤ S.n) (hb : isB bs) (he : e ≠ 0 → bs = []) (hL : bs.length < 1000000000) :
    J PR F.osierref03_Take [ptrV q] S fun v S' => v = dotV (rdD bs e).1 ∧ RdT S' q B (rdD bs e).2.1 (rdD bs e).2.2 ∧ St.But (ptrV q) S S' := by
  have hq := h.lt
  obtain ⟨h1, h2, h3⟩ := rdI_good hb he
  refine J_by PR.mixed F.osierref03_Take.ok (by simp) ?_
  simp (disch := omega) only [go_sem, ↓reduceIte, Nat.reduceEqDiff, Nat.reduceAdd, Nat.reduceMul, Nat.reduceSub, Nat.reduceLT, Nat.reduceLeDiff, Nat.reduceBEq, reduceCtorEq, Int.reduceLT, Int.reduceEq, Int.reduceLE, Int.reduceAdd, Int.reduceSub, Int.reduceToNat, Int.reduceNeg]
  refine wfresh_of fun x hx => ?_
  simp (disch := omega) only [go_sem, ↓reduceIte, Nat.reduceEqDiff, Nat.reduceAdd, Nat.reduceMul, Nat.reduceSub, Nat.reduceLT, Nat.reduceLeDiff, Nat.reduceBEq, reduceCtorEq, Int.reduceLT, Int.reduceEq, Int.reduceLE, Int.reduceAdd, Int.reduceSub, Int.reduceToNat, Int.reduceNeg]
  have he1 := (St.Ext.refl S).put hx (.cells true 2 [.int .i64 0, .int .i64 0])
  have hxn := St.lt_put_self S x (.cells true 2 [.int .i64 0, .int .i64 0])
  refine wJ_of (F.osierref01_R_Int_J (h.but he1) hb he hL) ?_; rintro _ S2 ⟨rfl, hr2, hb2⟩
  have hx2 : S2.obj x = some (.cells true 2 [.int .i64 0, .int .i64 0]) := (hb2.obj x hxn (by simp [blkOf]; omega)).trans (St.put_same _ _ _)
  simp (disch := omega) only [go_sem, ↓reduceIte, Nat.reduceEqDiff, Nat.reduceAdd, Nat.reduceMul, Nat.reduceSub, Nat.reduceLT, Nat.reduceLeDiff, Nat.reduceBEq, reduceCtorEq, Int.reduceLT, Int.reduceEq, Int.reduceLE, Int.reduceAdd, Int.reduceSub, Int.reduceToNat, Int.reduceNeg]
  refine wJ_of (F.osierref01_R_Int_J hr2 h1 h2 (by omega)) ?_; rintro _ S3 ⟨rfl, hr3, hb3⟩
  have hn2 := hb2.n
  have hn3 := hb3.n
  have hn1 := he1.n
  have hx4 : S3.obj x = some (.cells true 2 [.int .i64 0, .int .i64 0]) := (hb3.obj x (by omega) (by simp [blkOf]; omega)).trans hx2
  have hb4 : St.But (ptrV q) S S3 := (he1.toBut.trans hb2).trans hb3
  have hfin : ∀ cs, RdT (S3.put x (.cells true 2 cs)) q B (rdD bs e).2.1 (rdD bs e).2.2 ∧ St.But (ptrV q) S (S3.put x (.cells true 2 cs)) := by
    intro cs
    refine ⟨hr3.keep (by simp only [St.put_n]; omega) (St.put_other _ _ _ (by omega)) fun i hi _ => St.put_other _ _ _ (by omega), ⟨Nat.le_trans hb4.n (by simp only [St.put_n]; omega), fun i hi hne => ?_⟩⟩
    rw [St.put_other _ _ _ (by omega)]
    exact hb4.obj i hi hne
  have hrd : (rdD bs e).1 = if (rdI (rdI bs e).2.1 (rdI bs e).2.2).2.2 ≠ 0 then (0, 0) else ((rdI bs e).1, (rdI (rdI bs e).2.1 (rdI bs e).2.2).1) := rfl
  have c1 := hr3.cell1
  simp (disch := omega) only [go_sem, ↓reduceIte, Nat.reduceEqDiff, Nat.reduceAdd, Nat.reduceMul, Nat.reduceSub, Nat.reduceLT, Nat.reduceLeDiff, Nat.reduceBEq, reduceCtorEq, Int.reduceLT, Int.reduceEq, Int.reduceLE, Int.reduceAdd, Int.reduceSub, Int.reduceToNat, Int.reduceNeg, c1]
  refine wcond_ndec (fun hz => ?_) (fun hz => ?_)
  · simp (disch := omega) only [go_sem, ↓reduceIte, Nat.reduceEqDiff, Nat.reduceAdd, Nat.reduceMul, Nat.reduceSub, Nat.reduceLT, Nat.reduceLeDiff, Nat.reduceBEq, reduceCtorEq, Int.reduceLT, Int.reduceEq, Int.reduceLE, Int.reduceAdd, Int.reduceSub, Int.reduceToNat, Int.reduceNeg]
    refine wst_of hx4 rfl rfl (by simp) (by simp) ?_
    simp (disch := omega) only [go_sem, ↓reduceIte, Nat.reduceEqDiff, Nat.reduceAdd, Nat.reduceMul, Nat.reduceSub, Nat.reduceLT, Nat.reduceLeDiff, Nat.reduceBEq, reduceCtorEq, Int.reduceLT, Int.reduceEq, Int.reduceLE, Int.reduceAdd, Int.reduceSub, Int.reduceToNat, Int.reduceNeg]
    rw [hrd, if_pos hz]
    exact ⟨rfl, hfin _⟩
  · simp (disch := omega) only [go_sem, ↓reduceIte, Nat.reduceEqDiff, Nat.reduceAdd, Nat.reduceMul, Nat.reduceSub, Nat.reduceLT, Nat.reduceLeDiff, Nat.reduceBEq, reduceCtorEq, Int.reduceLT, Int.reduceEq, Int.reduceLE, Int.reduceAdd, Int.reduceSub, Int.reduceToNat, Int.reduceNeg]
    refine wst_of hx4 rfl rfl (by simp) (by simp) ?_
    simp (disch := omega) only [go_sem, ↓reduceIte, Nat.reduceEqDiff, Nat.reduceAdd, Nat.reduceMul, Nat.reduceSub, Nat.reduceLT, Nat.reduceLeDiff, Nat.reduceBEq, reduceCtorEq, Int.reduceLT, Int.reduceEq, Int.reduceLE, Int.reduceAdd, Int.reduceSub, Int.reduceToNat, Int.reduceNeg]
    rw [hrd, if_neg (by simpa using hz)]
    exact ⟨rfl, hfin _⟩
end Go.Osj

/- The law DotsBytes. -/
set_option linter.unusedSimpArgs false
namespace Go.Osj
def bytesOf (xs : List Int) : ByteArray := ⟨(xs.map fun b => UInt8.ofNat b.toNat).toArray⟩
theorem bytesOf_append (xs ys : List Int) : bytesOf (xs ++ ys) = bytesOf xs ++ bytesOf ys := by
  apply ByteArray.ext
  simp [bytesOf]
theorem bytesOf_size (xs : List Int) : (bytesOf xs).size = xs.length := by
  show ((xs.map fun b => UInt8.ofNat b.toNat).toArray).size = _
  simp
theorem bytesV_u8s (xs : List Int) : bytesV (u8s xs) = some (xs.map fun b => UInt8.ofNat b.toNat) := by
  induction xs with
  | nil => rfl
  | cons x xs ih => simp only [List.map_cons, bytesV]; rw [ih]; rfl
theorem SlT.text {S : St} {v : Value} {xs : List Int} (h : SlT byteE S v xs) : bsV S v = some (.string (bytesOf xs)) := by
  obtain ⟨base, cap, rfl, -, -, h⟩ := h
  cases base with
  | none =>
    have : xs = [] := by
      by_cases hx : xs = []
      · exact hx
      · obtain ⟨b, off, hb, -⟩ := h hx
        cases hb
    subst this
    rfl
  | some a =>
    by_cases hx : xs = []
    · subst hx
      rfl
    · obtain ⟨b, off, hb, -, hl⟩ := h hx
      injection hb with hb
      subst hb
      have hl0 : ¬ xs.length = 0 := fun h => hx (List.eq_nil_of_length_eq_zero h)
      simp only [bsV]
      rw [if_neg hl0]
      have hl' : S.loadN ⟨b, off, none⟩ xs.length = some (u8s xs) := by rw [← byteE_flat]; simpa [byteE] using hl
      rw [hl', Option.bind_some, bytesV_u8s]
      rfl
theorem valN_be (n : Nat) : ∀ k, valN 0 (beN n k) = n % 256 ^ k := by
  intro k
  induction k generalizing n with
  | zero => simp [beN, valN, Nat.mod_one]
  | succ k ih =>
    rw [beN, valN_snoc, ih, Int.toNat_natCast, Nat.pow_succ', Nat.mod_mul]
    omega
theorem rdU_enc {n : Nat} (hn : n < 18446744073709551616) (r : List Int) : rdU (encN n ++ r) 0 = (n, r, 0) := by
  have hk := sizeN_range n
  have hfirst := be_first hn (rfl : sizeN n = sizeN n)
  have hhi := sizeN_hi (n := n)
  have hv := valN_be n (sizeN n)
  have hlen := beN_len n (sizeN n)
  have hget := beN_get n (sizeN n) 0
  have henc : encN n = (beN n (sizeN n)).modify 0 fun b => b + headN (sizeN n) := rfl
  have hsz : sizeN n = sizeN n := rfl
  rw [henc]
  generalize hkk : sizeN n = k at *
  cases hb : beN n k with
  | nil => rw [hb] at hlen; simp at hlen; omega
  | cons x t =>
    rw [hb] at hv hlen
    have hx := hget (by rw [hb]; simp)
    simp only [hb, List.getElem_cons_zero, Nat.sub_zero] at hx
    obtain ⟨q, hq⟩ : ∃ q, q = n / 256 ^ (k - 1) % 256 := ⟨_, rfl⟩
    rw [← hq] at hx
    subst hx
    have hq256 : q < 256 := by omega
    have hmod : q ≤ n / 256 ^ (k - 1) := by rw [hq]; exact Nat.mod_le _ _
    have hpow : n < 256 ^ k := by
      by_cases h8 : k ≤ 8
      · exact Nat.lt_of_lt_of_le (hhi h8) (by rw [show (256 : Nat) = 2 ^ 8 from rfl, ← Nat.pow_mul]; exact Nat.pow_le_pow_right (by decide) (by omega))
      · have : k = 9 := by omega
        subst this
        exact Nat.lt_of_lt_of_le hn (by decide)
    rw [Nat.mod_eq_of_lt hpow] at hv
    have hv2 : valN q t = n := by
      have : valN 0 ((q : Int) :: t) = valN q t := by simp [valN]
      rw [← this]; exact hv
    have htl : t.length = k - 1 := by simp at hlen; omega
    have hfit : q + headN k < 256 := by
      by_cases h8 : k ≤ 8
      · exact head_fits hk.1 h8 (Nat.lt_of_le_of_lt hmod (hfirst.1 h8))
      · have := hfirst.2 (by omega)
        have := head_le k
        omega
    have hlead : leadK (q + headN k) = k := by
      refine leadK_of hk.1 hk.2 hfit (by omega) fun h8 => ?_
      have h1 := hfirst.1 h8
      have : k = 1 ∨ k = 2 ∨ k = 3 ∨ k = 4 ∨ k = 5 ∨ k = 6 ∨ k = 7 ∨ k = 8 := by omega
      rcases this with rfl | rfl | rfl | rfl | rfl | rfl | rfl | rfl <;> simp [headN] at h1 ⊢ <;> omega
    have e1 : ((q : Int) + ((headN k : Nat) : Int)).toNat = q + headN k := by omega
    rw [List.modify_zero_cons, List.cons_append]
    simp only [rdU, ne_eq, not_true_eq_false, if_false, e1, hlead, Nat.add_sub_cancel]
    have e2 : (t ++ r).take (k - 1) = t := by rw [← htl]; exact List.take_left
    rw [e2, hv2, hkk, if_neg (by simp; omega), if_pos rfl]
    congr 2
    rw [show k = (k - 1) + 1 by omega, List.drop_succ_cons, ← htl]
    exact List.drop_left
theorem rdI_enc {a : Int} (ha : inI a) (r : List Int) : rdI (encI a ++ r) 0 = (a, r, 0) := by
  unfold rdI encI
  rw [rdU_enc (zzN_lt ha), unzz_zz]
theorem rdD_enc {d : Dot} (h1 : inI d.1) (h2 : inI d.2) (r : List Int) : rdD (encI d.1 ++ (encI d.2 ++ r)) 0 = (d, r, 0) := by
  unfold rdD
  rw [rdI_enc h1]
  simp only
  rw [rdI_enc h2]
  simp
theorem isB_enc {n : Nat} (hn : n < 18446744073709551616) : isB (encN n) := by
  have hk := sizeN_range n
  have hfirst := be_first hn (rfl : sizeN n = sizeN n)
  have henc : encN n = (beN n (sizeN n)).modify 0 fun b => b + headN (sizeN n) := rfl
  rw [henc]
  generalize sizeN n = k at *
  intro b hb
  obtain ⟨i, hi, rfl⟩ := List.mem_iff_getElem.1 hb
  rw [List.getElem_modify, beN_get]
  split
  · rename_i h0
    subst h0
    rw [Nat.sub_zero]
    have hmod : n / 256 ^ (k - 1) % 256 ≤ n / 256 ^ (k - 1) := Nat.mod_le _ _
    by_cases h8 : k ≤ 8
    · have := head_fits hk.1 h8 (Nat.lt_of_le_of_lt hmod (hfirst.1 h8))
      omega
    · have h9 := hfirst.2 (by omega)
      rw [h9]
      have := head_le k
      simp
      omega
  · omega
theorem isB_append {xs ys : List Int} (hx : isB xs) (hy : isB ys) : isB (xs ++ ys) := fun b hb => by
  rcases List.mem_append.1 hb with h | h
  · exact hx b h
  · exact hy b h
theorem F.num_Reader_End_J {S : St} {q B : Nat} {bs : List Int} {e : Int} (h : RdT S q B bs e) : J PR F.num_Reader_End [ptrV q] S fun v S' => v = .int .i64 (if bs = [] then e else if e = 0 then 11 else e) ∧ St.But (ptrV q) S S' := by
  refine J_by PR.mixed F.num_Reader_End.ok (by simp) ?_
  simp (disch := omega) only [go_sem, ↓reduceIte, Nat.reduceEqDiff, Nat.reduceAdd, Nat.reduceMul, Nat.reduceSub, Nat.reduceLT, Nat.reduceLeDiff, Nat.reduceBEq, reduceCtorEq, Int.reduceLT, Int.reduceEq, Int.reduceLE, Int.reduceAdd, Int.reduceSub, Int.reduceToNat, Int.reduceNeg]
  refine wJ_of (F.num_Reader_Left_J h) ?_; rintro _ _ ⟨rfl, rfl⟩
  cases bs with
  | nil =>
    simp (disch := omega) only [go_sem, ↓reduceIte, Nat.reduceEqDiff, Nat.reduceAdd, Nat.reduceMul, Nat.reduceSub, Nat.reduceLT, Nat.reduceLeDiff, Nat.reduceBEq, reduceCtorEq, Int.reduceLT, Int.reduceEq, Int.reduceLE, Int.reduceAdd, Int.reduceSub, Int.reduceToNat, Int.reduceNeg, List.length_nil, Int.lt_irrefl]
    refine wJ_of (F.num_Reader_Err_J h) ?_; rintro _ _ ⟨rfl, rfl⟩
    simp (disch := omega) only [go_sem, ↓reduceIte, Nat.reduceEqDiff, Nat.reduceAdd, Nat.reduceMul, Nat.reduceSub, Nat.reduceLT, Nat.reduceLeDiff, Nat.reduceBEq, reduceCtorEq, Int.reduceLT, Int.reduceEq, Int.reduceLE, Int.reduceAdd, Int.reduceSub, Int.reduceToNat, Int.reduceNeg]
    exact but_refl ..
  | cons b r =>
    have hp : (0 : Int) < ((r.length + 1 : Nat) : Int) := by omega
    simp (disch := omega) only [go_sem, ↓reduceIte, Nat.reduceEqDiff, Nat.reduceAdd, Nat.reduceMul, Nat.reduceSub, Nat.reduceLT, Nat.reduceLeDiff, Nat.reduceBEq, reduceCtorEq, Int.reduceLT, Int.reduceEq, Int.reduceLE, Int.reduceAdd, Int.reduceSub, Int.reduceToNat, Int.reduceNeg, hp]
    refine wJ_of (F.num_Reader_Fail_J (x := 11) h (by decide)) ?_; rintro _ S1 ⟨rfl, hr, hb⟩
    simp (disch := omega) only [go_sem, ↓reduceIte, Nat.reduceEqDiff, Nat.reduceAdd, Nat.reduceMul, Nat.reduceSub, Nat.reduceLT, Nat.reduceLeDiff, Nat.reduceBEq, reduceCtorEq, Int.reduceLT, Int.reduceEq, Int.reduceLE, Int.reduceAdd, Int.reduceSub, Int.reduceToNat, Int.reduceNeg]
    refine wJ_of (F.num_Reader_Err_J hr) ?_; rintro _ _ ⟨rfl, rfl⟩
    simp (disch := omega) only [go_sem, ↓reduceIte, Nat.reduceEqDiff, Nat.reduceAdd, Nat.reduceMul, Nat.reduceSub, Nat.reduceLT, Nat.reduceLeDiff, Nat.reduceBEq, reduceCtorEq, Int.reduceLT, Int.reduceEq, Int.reduceLE, Int.reduceAdd, Int.reduceSub, Int.reduceToNat, Int.reduceNeg]
    exact hb
end Go.Osj

/- The law VectorBytes. -/
set_option linter.unusedSimpArgs false
namespace Go.Osj
def encD (d : Dot) : List Int := encI d.1 ++ encI d.2
def encDs (xs : List Dot) : List Int := xs.flatMap encD
def encV (xs : List Dot) : List Int := encN xs.length ++ encDs xs
theorem encDs_snoc (xs : List Dot) (d : Dot) : encDs (xs ++ [d]) = encDs xs ++ encD d := by simp [encDs]
theorem encN_pos (n : Nat) : 1 ≤ (encN n).length := by rw [encN_len]; exact (sizeN_range n).1
theorem encD_len (d : Dot) : 2 ≤ (encD d).length ∧ (encD d).length ≤ 18 := by
  have h1 := encI_len d.1
  have h2 := encI_len d.2
  have h3 := encN_pos (zzN d.1)
  have h4 := encN_pos (zzN d.2)
  unfold encD
  rw [List.length_append]
  unfold encI at *
  omega
theorem encDs_len (xs : List Dot) : 2 * xs.length ≤ (encDs xs).length ∧ (encDs xs).length ≤ 18 * xs.length := by
  induction xs with
  | nil => simp [encDs]
  | cons d xs ih =>
    have := encD_len d
    have e : encDs (d :: xs) = encD d ++ encDs xs := rfl
    rw [e, List.length_append, List.length_cons]
    omega
theorem may_inI {d : Dot} (h : mayP d) : inI d.1 ∧ inI d.2 := by unfold mayP at h; unfold inI; omega
theorem isB_encD {d : Dot} (h : mayP d) : isB (encD d) := isB_append (isB_enc (zzN_lt (may_inI h).1)) (isB_enc (zzN_lt (may_inI h).2))
theorem isB_encDs {xs : List Dot} (h : ∀ d ∈ xs, mayP d) : isB (encDs xs) := by
  intro b hb
  obtain ⟨d, hd, hb⟩ := List.mem_flatMap.1 hb
  exact isB_encD (h d hd) b hb

theorem F.vector_Put_J {S : St} {l k : Value} {bs : List Int} {xs : List Dot} (hl : SlT byteE S l bs) (hk : SlT dotE S k xs) (hx : ∀ d ∈ xs, mayP d) (hL : bs.length < 100000) (hL2 : xs.length < 100000) :
    J PR F.vector_Put [l, k] S fun v S' => OwnT byteE S.n S' v (bs ++ encV xs) ∧ S.Ext S' := by
  obtain ⟨base, cap, rfl⟩ := hk.len dotE
  refine J_by PR.mixed F.vector_Put.ok (by simp) ?_
  simp (disch := omega) only [go_sem, ↓reduceIte, Nat.reduceEqDiff, Nat.reduceAdd, Nat.reduceMul, Nat.reduceSub, Nat.reduceLT, Nat.reduceLeDiff, Nat.reduceBEq, reduceCtorEq, Int.reduceLT, Int.reduceEq, Int.reduceLE, Int.reduceAdd, Int.reduceSub, Int.reduceToNat, Int.reduceNeg, wrapu64]
  refine wJ_of (F.num_Uint_J hl (by omega) (by omega)) ?_; rintro v1 S1 ⟨ho1, he1⟩
  have hn9 : (encN xs.length).length ≤ 9 := by rw [encN_len]; exact (sizeN_range _).2
  simp (disch := omega) only [go_sem, ↓reduceIte, Nat.reduceEqDiff, Nat.reduceAdd, Nat.reduceMul, Nat.reduceSub, Nat.reduceLT, Nat.reduceLeDiff, Nat.reduceBEq, reduceCtorEq, Int.reduceLT, Int.reduceEq, Int.reduceLE, Int.reduceAdd, Int.reduceSub, Int.reduceToNat, Int.reduceNeg]
  refine wC_loop (fun n fr S' => ∃ (i : Nat) (v : Value), n = xs.length - i ∧ i ≤ xs.length ∧ fr 0 = v ∧ fr 12 = .slice base xs.length cap ∧ fr 13 = .int .i64 xs.length ∧ fr 14 = .int .i64 (i : Nat) ∧ S.Ext S' ∧ OwnT byteE S.n S' v (bs ++ (encN xs.length ++ encDs (xs.take i)))) xs.length
    ⟨0, v1, by simp (disch := omega) only [go_sem, ↓reduceIte, Nat.reduceEqDiff, Nat.reduceAdd, Nat.reduceMul, Nat.reduceSub, Nat.reduceLT, Nat.reduceLeDiff, Nat.reduceBEq, reduceCtorEq, Int.reduceLT, Int.reduceEq, Int.reduceLE, Int.reduceAdd, Int.reduceSub, Int.reduceToNat, Int.reduceNeg]; exact ⟨by simp, by simp, he1, by simpa [encDs] using ho1⟩⟩ ?_
  rintro n fr S2 ⟨i, v, rfl, hi, h0, h12, h13, h14, he, ho⟩
  simp (disch := omega) only [go_sem, ↓reduceIte, Nat.reduceEqDiff, Nat.reduceAdd, Nat.reduceMul, Nat.reduceSub, Nat.reduceLT, Nat.reduceLeDiff, Nat.reduceBEq, reduceCtorEq, Int.reduceLT, Int.reduceEq, Int.reduceLE, Int.reduceAdd, Int.reduceSub, Int.reduceToNat, Int.reduceNeg, F.vector_Put.l0, h0, h12, h13, h14]
  refine wcond_dec (fun hlt => ?_) (fun hge => ?_)
  · have hlx : i < xs.length := by omega
    obtain ⟨b, off, rfl, hb, hx0⟩ := (hk.ext dotE he).dot hlx
    have c1 : (0 : Int) ≤ (i : Int) ∧ (i : Int) < (xs.length : Int) := by omega
    simp (disch := omega) only [go_sem, ↓reduceIte, Nat.reduceEqDiff, Nat.reduceAdd, Nat.reduceMul, Nat.reduceSub, Nat.reduceLT, Nat.reduceLeDiff, Nat.reduceBEq, reduceCtorEq, Int.reduceLT, Int.reduceEq, Int.reduceLE, Int.reduceAdd, Int.reduceSub, Int.reduceToNat, Int.reduceNeg, h0, h12, h13, h14, c1, hx0]
    refine wfresh_of fun w hw => ?_
    simp (disch := omega) only [go_sem, ↓reduceIte, Nat.reduceEqDiff, Nat.reduceAdd, Nat.reduceMul, Nat.reduceSub, Nat.reduceLT, Nat.reduceLeDiff, Nat.reduceBEq, reduceCtorEq, Int.reduceLT, Int.reduceEq, Int.reduceLE, Int.reduceAdd, Int.reduceSub, Int.reduceToNat, Int.reduceNeg, h0, h12, h13, h14]
    have he3 := he.put hw (.cells true 2 [.int .i64 xs[i].1, .int .i64 xs[i].2])
    have hm := may_inI (hx xs[i] (List.getElem_mem _))
    have hlen := (encDs_len (xs.take i)).2
    simp only [List.length_take] at hlen
    refine wJ_of (F.dots_Put_J (ho.ext byteE ((St.Ext.refl S2).put hw _) |>.sl byteE) hm.1 hm.2 (by simp only [List.length_append]; omega)) ?_; rintro v3 S3 ⟨ho3, he4⟩
    simp (disch := omega) only [go_sem, ↓reduceIte, Nat.reduceEqDiff, Nat.reduceAdd, Nat.reduceMul, Nat.reduceSub, Nat.reduceLT, Nat.reduceLeDiff, Nat.reduceBEq, reduceCtorEq, Int.reduceLT, Int.reduceEq, Int.reduceLE, Int.reduceAdd, Int.reduceSub, Int.reduceToNat, Int.reduceNeg, h12, h13, h14]
    refine ⟨xs.length - (i + 1), by omega, i + 1, _, rfl, by omega, rfl, rfl, he3.trans he4, ?_⟩
    rw [take_snoc (List.getElem?_eq_getElem hlx), encDs_snoc]
    have := ho3.mono byteE (B' := S.n) he3.n
    simpa [encD] using this
  · simp (disch := omega) only [go_sem, ↓reduceIte, Nat.reduceEqDiff, Nat.reduceAdd, Nat.reduceMul, Nat.reduceSub, Nat.reduceLT, Nat.reduceLeDiff, Nat.reduceBEq, reduceCtorEq, Int.reduceLT, Int.reduceEq, Int.reduceLE, Int.reduceAdd, Int.reduceSub, Int.reduceToNat, Int.reduceNeg, h0]
    rw [List.take_of_length_le (by omega)] at ho
    exact ⟨ho, he⟩
theorem F.osierref04_Put_J {S : St} {k : Value} {xs : List Dot} (hk : SlT dotE S k xs) (hx : ∀ d ∈ xs, mayP d) (hL2 : xs.length < 100000) :
    J PR F.osierref04_Put [k] S fun v S' => OwnT byteE S.n S' v (encV xs) ∧ S.Ext S' := by
  obtain ⟨base, cap, rfl⟩ := hk.len dotE
  refine J_by PR.mixed F.osierref04_Put.ok (by simp) ?_
  simp (disch := omega) only [go_sem, ↓reduceIte, Nat.reduceEqDiff, Nat.reduceAdd, Nat.reduceMul, Nat.reduceSub, Nat.reduceLT, Nat.reduceLeDiff, Nat.reduceBEq, reduceCtorEq, Int.reduceLT, Int.reduceEq, Int.reduceLE, Int.reduceAdd, Int.reduceSub, Int.reduceToNat, Int.reduceNeg, wrapu64]
  refine wJ_of (F.osierref01_Uint_J (by omega)) ?_; rintro v1 S1 ⟨ho1, he1⟩
  have hn9 : (encN xs.length).length ≤ 9 := by rw [encN_len]; exact (sizeN_range _).2
  simp (disch := omega) only [go_sem, ↓reduceIte, Nat.reduceEqDiff, Nat.reduceAdd, Nat.reduceMul, Nat.reduceSub, Nat.reduceLT, Nat.reduceLeDiff, Nat.reduceBEq, reduceCtorEq, Int.reduceLT, Int.reduceEq, Int.reduceLE, Int.reduceAdd, Int.reduceSub, Int.reduceToNat, Int.reduceNeg]
  refine wC_loop (fun n fr S' => ∃ (i : Nat) (v : Value), n = xs.length - i ∧ i ≤ xs.length ∧ fr 0 = .slice base xs.length cap ∧ fr 3 = v ∧ fr 4 = .int .i64 (i : Nat) ∧ S.Ext S' ∧ OwnT byteE S.n S' v (encN xs.length ++ encDs (xs.take i))) xs.length
    ⟨0, v1, by simp (disch := omega) only [go_sem, ↓reduceIte, Nat.reduceEqDiff, Nat.reduceAdd, Nat.reduceMul, Nat.reduceSub, Nat.reduceLT, Nat.reduceLeDiff, Nat.reduceBEq, reduceCtorEq, Int.reduceLT, Int.reduceEq, Int.reduceLE, Int.reduceAdd, Int.reduceSub, Int.reduceToNat, Int.reduceNeg]; exact ⟨by simp, by simp, he1, by simpa [encDs] using ho1⟩⟩ ?_
  rintro n fr S2 ⟨i, v, rfl, hi, h0, h3, h4, he, ho⟩
  simp (disch := omega) only [go_sem, ↓reduceIte, Nat.reduceEqDiff, Nat.reduceAdd, Nat.reduceMul, Nat.reduceSub, Nat.reduceLT, Nat.reduceLeDiff, Nat.reduceBEq, reduceCtorEq, Int.reduceLT, Int.reduceEq, Int.reduceLE, Int.reduceAdd, Int.reduceSub, Int.reduceToNat, Int.reduceNeg, F.osierref04_Put.l0, h0, h3, h4]
  refine wcond_dec (fun hlt => ?_) (fun hge => ?_)
  · have hlx : i < xs.length := by omega
    obtain ⟨b, off, rfl, hb, hx0⟩ := (hk.ext dotE he).dot hlx
    have c1 : (0 : Int) ≤ (i : Int) ∧ (i : Int) < (xs.length : Int) := by omega
    simp (disch := omega) only [go_sem, ↓reduceIte, Nat.reduceEqDiff, Nat.reduceAdd, Nat.reduceMul, Nat.reduceSub, Nat.reduceLT, Nat.reduceLeDiff, Nat.reduceBEq, reduceCtorEq, Int.reduceLT, Int.reduceEq, Int.reduceLE, Int.reduceAdd, Int.reduceSub, Int.reduceToNat, Int.reduceNeg, h0, h3, h4, c1, hx0]
    have hm := may_inI (hx xs[i] (List.getElem_mem _))
    have hlen := (encDs_len (xs.take i)).2
    simp only [List.length_take] at hlen
    have hdl := (encD_len xs[i]).2
    refine wJ_of (F.osierref03_Put_J hm.1 hm.2) ?_; rintro v3 S3 ⟨ho3, he4⟩
    simp (disch := omega) only [go_sem, ↓reduceIte, Nat.reduceEqDiff, Nat.reduceAdd, Nat.reduceMul, Nat.reduceSub, Nat.reduceLT, Nat.reduceLeDiff, Nat.reduceBEq, reduceCtorEq, Int.reduceLT, Int.reduceEq, Int.reduceLE, Int.reduceAdd, Int.reduceSub, Int.reduceToNat, Int.reduceNeg, h0, h3, h4]
    refine wE_app byteE (ys := encD xs[i]) (ho.ext byteE he4) (ho3.sl byteE) rfl rfl (he.trans he4).n (by simp only [List.length_append]; omega) (by simp only [List.length_append]; omega) fun v8 S8 ho8 hb8 hv8 => ?_
    simp (disch := omega) only [go_sem, ↓reduceIte, Nat.reduceEqDiff, Nat.reduceAdd, Nat.reduceMul, Nat.reduceSub, Nat.reduceLT, Nat.reduceLeDiff, Nat.reduceBEq, reduceCtorEq, Int.reduceLT, Int.reduceEq, Int.reduceLE, Int.reduceAdd, Int.reduceSub, Int.reduceToNat, Int.reduceNeg, h0, h3, h4]
    refine ⟨xs.length - (i + 1), by omega, i + 1, _, rfl, by omega, rfl, rfl, (he.trans he4).but hb8 (ho.fresh byteE), ?_⟩
    rw [take_snoc (List.getElem?_eq_getElem hlx), encDs_snoc]
    simpa using ho8
  · simp (disch := omega) only [go_sem, ↓reduceIte, Nat.reduceEqDiff, Nat.reduceAdd, Nat.reduceMul, Nat.reduceSub, Nat.reduceLT, Nat.reduceLeDiff, Nat.reduceBEq, reduceCtorEq, Int.reduceLT, Int.reduceEq, Int.reduceLE, Int.reduceAdd, Int.reduceSub, Int.reduceToNat, Int.reduceNeg, h3]
    rw [List.take_of_length_le (by omega)] at ho
    exact ⟨ho, he⟩

/-! ### taken -/
theorem rdU_err {bs : List Int} {e : Int} (h : (rdU bs e).2.2 ≠ 0) : (rdU bs e).1 = 0 := by
  by_cases h0 : e = 0
  · subst h0
    cases bs with
    | nil => simp [rdU]
    | cons b r =>
      simp only [rdU, ne_eq, not_true_eq_false, if_false] at h ⊢
      split
      · rfl
      · rename_i h1
        rw [if_neg h1] at h
        split
        · rename_i h2
          rw [if_pos h2] at h
          simp at h
        · rfl
  · simp [rdU, h0]
/-- a count of things of two bytes at least, taken -/
def rdC (bs : List Int) (e : Int) : Nat × List Int × Int := if (rdU bs e).2.1.length / 2 < (rdU bs e).1 then (0, [], 10) else rdU bs e
theorem rdC_good {bs : List Int} {e : Int} (hb : isB bs) (he : e ≠ 0 → bs = []) : isB (rdC bs e).2.1 ∧ ((rdC bs e).2.2 ≠ 0 → (rdC bs e).2.1 = []) ∧ (rdC bs e).1 ≤ bs.length ∧ (rdC bs e).2.1.length ≤ bs.length := by
  obtain ⟨h1, h2, h3, h4⟩ := rdU_good hb he
  unfold rdC
  split
  · simp [isB]
  · exact ⟨h1, h2, by omega, h4⟩
theorem F.num_Reader_Count_J {S : St} {q B : Nat} {bs : List Int} {e : Int} (h : RdT S q B bs e) (hb : isB bs) (he : e ≠ 0 → bs = []) (hL : bs.length < 1000000000) :
    J PR F.num_Reader_Count [ptrV q, .int .i64 2] S fun v S' => v = .int .i64 (rdC bs e).1 ∧ RdT S' q B (rdC bs e).2.1 (rdC bs e).2.2 ∧ St.But (ptrV q) S S' := by
  refine J_by PR.mixed F.num_Reader_Count.ok (by simp) ?_
  simp (disch := omega) only [go_sem, ↓reduceIte, Nat.reduceEqDiff, Nat.reduceAdd, Nat.reduceMul, Nat.reduceSub, Nat.reduceLT, Nat.reduceLeDiff, Nat.reduceBEq, reduceCtorEq, Int.reduceLT, Int.reduceEq, Int.reduceLE, Int.reduceAdd, Int.reduceSub, Int.reduceToNat, Int.reduceNeg]
  refine wJ_of (F.num_Reader_Uint_J h hb he hL) ?_; rintro _ S1 ⟨rfl, hr, hbt⟩
  obtain ⟨g1, g2, g3, g4⟩ := rdU_good hb he
  have gerr := rdU_err (bs := bs) (e := e)
  simp (disch := omega) only [go_sem, ↓reduceIte, Nat.reduceEqDiff, Nat.reduceAdd, Nat.reduceMul, Nat.reduceSub, Nat.reduceLT, Nat.reduceLeDiff, Nat.reduceBEq, reduceCtorEq, Int.reduceLT, Int.reduceEq, Int.reduceLE, Int.reduceAdd, Int.reduceSub, Int.reduceToNat, Int.reduceNeg]
  refine wJ_of (F.num_Reader_Left_J hr) ?_; rintro _ _ ⟨rfl, rfl⟩
  unfold rdC
  generalize rdU bs e = u at *
  obtain ⟨n, bs2, e2⟩ := u
  simp only at *
  have e1 : ((bs2.length : Nat) : Int).tdiv 2 = ((bs2.length / 2 : Nat) : Int) := tdivN _ 2
  have e3 : IntKind.i64.wrap ((bs2.length / 2 : Nat) : Int) = ((bs2.length / 2 : Nat) : Int) := wrap64 (by omega) (by omega)
  have hmx : max (2 : Int) 1 = 2 := by decide
  simp (disch := omega) only [go_sem, ↓reduceIte, Nat.reduceEqDiff, Nat.reduceAdd, Nat.reduceMul, Nat.reduceSub, Nat.reduceLT, Nat.reduceLeDiff, Nat.reduceBEq, reduceCtorEq, Int.reduceLT, Int.reduceEq, Int.reduceLE, Int.reduceAdd, Int.reduceSub, Int.reduceToNat, Int.reduceNeg, hmx, e1, e3, wrapu64]
  refine wcond_dec (fun hc => ?_) (fun hc => ?_)
  · simp (disch := omega) only [go_sem, ↓reduceIte, Nat.reduceEqDiff, Nat.reduceAdd, Nat.reduceMul, Nat.reduceSub, Nat.reduceLT, Nat.reduceLeDiff, Nat.reduceBEq, reduceCtorEq, Int.reduceLT, Int.reduceEq, Int.reduceLE, Int.reduceAdd, Int.reduceSub, Int.reduceToNat, Int.reduceNeg]
    refine wJ_of (F.num_Reader_Fail_J (x := 10) hr (by decide)) ?_; rintro _ S3 ⟨rfl, hr3, hb3⟩
    simp (disch := omega) only [go_sem, ↓reduceIte, Nat.reduceEqDiff, Nat.reduceAdd, Nat.reduceMul, Nat.reduceSub, Nat.reduceLT, Nat.reduceLeDiff, Nat.reduceBEq, reduceCtorEq, Int.reduceLT, Int.reduceEq, Int.reduceLE, Int.reduceAdd, Int.reduceSub, Int.reduceToNat, Int.reduceNeg]
    have hn : e2 = 0 := by
      by_cases h0 : e2 = 0
      · exact h0
      · have := gerr h0
        omega
    rw [if_pos (by omega)]
    subst hn
    exact ⟨rfl, by simpa using hr3, hbt.trans hb3⟩
  · simp (disch := omega) only [go_sem, ↓reduceIte, Nat.reduceEqDiff, Nat.reduceAdd, Nat.reduceMul, Nat.reduceSub, Nat.reduceLT, Nat.reduceLeDiff, Nat.reduceBEq, reduceCtorEq, Int.reduceLT, Int.reduceEq, Int.reduceLE, Int.reduceAdd, Int.reduceSub, Int.reduceToNat, Int.reduceNeg]
    rw [if_neg (by omega)]
    exact ⟨rfl, hr, hbt⟩
theorem F.osierref01_R_Count_J {S : St} {q B : Nat} {bs : List Int} {e : Int} (h : RdT S q B bs e) (hb : isB bs) (he : e ≠ 0 → bs = []) (hL : bs.length < 1000000000) :
    J PR F.osierref01_R_Count [ptrV q, .int .i64 2] S fun v S' => v = .int .i64 (rdC bs e).1 ∧ RdT S' q B (rdC bs e).2.1 (rdC bs e).2.2 ∧ St.But (ptrV q) S S' := by
  refine J_by PR.mixed F.osierref01_R_Count.ok (by simp) ?_
  simp (disch := omega) only [go_sem, ↓reduceIte, Nat.reduceEqDiff, Nat.reduceAdd, Nat.reduceMul, Nat.reduceSub, Nat.reduceLT, Nat.reduceLeDiff, Nat.reduceBEq, reduceCtorEq, Int.reduceLT, Int.reduceEq, Int.reduceLE, Int.reduceAdd, Int.reduceSub, Int.reduceToNat, Int.reduceNeg]
  refine wJ_of (F.osierref01_R_Uint_J h hb hL) ?_; rintro _ S1 ⟨rfl, hr, hbt⟩
  obtain ⟨g1, g2, g3, g4⟩ := rdU_good hb he
  have gerr := rdU_err (bs := bs) (e := e)
  obtain ⟨v, c0, -, hs, -⟩ := hr.cell0
  obtain ⟨bv, cv, rfl⟩ := hs.len byteE
  unfold rdC
  generalize rdU bs e = u at *
  obtain ⟨n, bs2, e2⟩ := u
  simp only at *
  have e1 : ((bs2.length : Nat) : Int).tdiv 2 = ((bs2.length / 2 : Nat) : Int) := tdivN _ 2
  have e3 : IntKind.i64.wrap ((bs2.length / 2 : Nat) : Int) = ((bs2.length / 2 : Nat) : Int) := wrap64 (by omega) (by omega)
  simp (disch := omega) only [go_sem, ↓reduceIte, Nat.reduceEqDiff, Nat.reduceAdd, Nat.reduceMul, Nat.reduceSub, Nat.reduceLT, Nat.reduceLeDiff, Nat.reduceBEq, reduceCtorEq, Int.reduceLT, Int.reduceEq, Int.reduceLE, Int.reduceAdd, Int.reduceSub, Int.reduceToNat, Int.reduceNeg, c0, e1, e3, wrapu64]
  refine wcond_dec (fun hc => ?_) (fun hc => ?_)
  · simp (disch := omega) only [go_sem, ↓reduceIte, Nat.reduceEqDiff, Nat.reduceAdd, Nat.reduceMul, Nat.reduceSub, Nat.reduceLT, Nat.reduceLeDiff, Nat.reduceBEq, reduceCtorEq, Int.reduceLT, Int.reduceEq, Int.reduceLE, Int.reduceAdd, Int.reduceSub, Int.reduceToNat, Int.reduceNeg]
    refine wJ_of (F.osierref01_R_Fail_J (x := 10) hr (by decide)) ?_; rintro _ S3 ⟨rfl, hr3, hb3⟩
    simp (disch := omega) only [go_sem, ↓reduceIte, Nat.reduceEqDiff, Nat.reduceAdd, Nat.reduceMul, Nat.reduceSub, Nat.reduceLT, Nat.reduceLeDiff, Nat.reduceBEq, reduceCtorEq, Int.reduceLT, Int.reduceEq, Int.reduceLE, Int.reduceAdd, Int.reduceSub, Int.reduceToNat, Int.reduceNeg]
    have hn : e2 = 0 := by
      by_cases h0 : e2 = 0
      · exact h0
      · have := gerr h0
        omega
    rw [if_pos (by omega)]
    subst hn
    exact ⟨rfl, by simpa using hr3, hbt.trans hb3⟩
  · simp (disch := omega) only [go_sem, ↓reduceIte, Nat.reduceEqDiff, Nat.reduceAdd, Nat.reduceMul, Nat.reduceSub, Nat.reduceLT, Nat.reduceLeDiff, Nat.reduceBEq, reduceCtorEq, Int.reduceLT, Int.reduceEq, Int.reduceLE, Int.reduceAdd, Int.reduceSub, Int.reduceToNat, Int.reduceNeg]
    rw [if_neg (by omega)]
    exact ⟨rfl, hr, hbt⟩
/-- so many dots, taken -/
def rdL (bs : List Int) (e : Int) : Nat → List Dot × List Int × Int
  | 0 => ([], bs, e)
  | n + 1 => ((rdL bs e n).1 ++ [(rdD (rdL bs e n).2.1 (rdL bs e n).2.2).1], (rdD (rdL bs e n).2.1 (rdL bs e n).2.2).2)
theorem rdL_good {bs : List Int} {e : Int} (hb : isB bs) (he : e ≠ 0 → bs = []) : ∀ n, isB (rdL bs e n).2.1 ∧ ((rdL bs e n).2.2 ≠ 0 → (rdL bs e n).2.1 = []) ∧ (rdL bs e n).2.1.length ≤ bs.length ∧ (rdL bs e n).1.length = n
  | 0 => ⟨hb, he, Nat.le_refl _, rfl⟩
  | n + 1 => by
    obtain ⟨h1, h2, h3, h4⟩ := rdL_good hb he n
    obtain ⟨g1, g2, g3⟩ := rdD_good h1 h2
    exact ⟨g1, g2, Nat.le_trans g3 h3, by simp [rdL, h4]⟩
/-- a vector, taken -/
def rdV (bs : List Int) (e : Int) : List Dot × List Int × Int :=
  if (rdL (rdC bs e).2.1 (rdC bs e).2.2 (rdC bs e).1).2.2 = 0 then
    if isV (rdL (rdC bs e).2.1 (rdC bs e).2.2 (rdC bs e).1).1 then rdL (rdC bs e).2.1 (rdC bs e).2.2 (rdC bs e).1 else ([], [], 11)
  else ([], (rdL (rdC bs e).2.1 (rdC bs e).2.2 (rdC bs e).1).2)
theorem OwnT.ptr {S S' : St} {q B : Nat} {v : Value} {xs : List Dot} (h : OwnT dotE B S v xs) (hq : q < B) (hb : St.But (ptrV q) S S') : OwnT dotE B S' v xs :=
  h.but dotE hb fun j hj => by have := (h.blk dotE j hj).1; simp [blkOf]; omega
theorem F.vector_Take_J {S : St} {q B : Nat} {bs : List Int} {e : Int} (h : RdT S q B bs e) (hBn : B ≤ S.n) (hb : isB bs) (he : e ≠ 0 → bs = []) (hL : bs.length < 100000) :
    J PR F.vector_Take [ptrV q] S fun v S' => OwnT dotE S.n S' v (rdV bs e).1 ∧ RdT S' q B (rdV bs e).2.1 (rdV bs e).2.2 ∧ St.But (ptrV q) S S' := by
  have hq := h.lt
  obtain ⟨h1, h2, h3, h3'⟩ := rdC_good hb he
  have hlg := rdL_good h1 h2
  refine J_by PR.mixed F.vector_Take.ok (by simp) ?_
  simp (disch := omega) only [go_sem, ↓reduceIte, Nat.reduceEqDiff, Nat.reduceAdd, Nat.reduceMul, Nat.reduceSub, Nat.reduceLT, Nat.reduceLeDiff, Nat.reduceBEq, reduceCtorEq, Int.reduceLT, Int.reduceEq, Int.reduceLE, Int.reduceAdd, Int.reduceSub, Int.reduceToNat, Int.reduceNeg]
  refine wfresh_of fun y hy => ?_
  simp (disch := omega) only [go_sem, ↓reduceIte, Nat.reduceEqDiff, Nat.reduceAdd, Nat.reduceMul, Nat.reduceSub, Nat.reduceLT, Nat.reduceLeDiff, Nat.reduceBEq, reduceCtorEq, Int.reduceLT, Int.reduceEq, Int.reduceLE, Int.reduceAdd, Int.reduceSub, Int.reduceToNat, Int.reduceNeg]
  have he1 := (St.Ext.refl S).put hy (.cells true 0 [])
  have ho1 : OwnT dotE S.n (S.put y (.cells true 0 [])) (.slice (some ⟨y, 0, none⟩) 0 0) [] := OwnT.mk dotE (xs := []) hy (St.lt_put_self _ _ _) (Nat.le_refl 0) (St.put_same _ _ _)
  refine wJ_of (F.num_Reader_Count_J (h.but he1) hb he (by omega)) ?_; rintro _ S1 ⟨rfl, hr1, hb1⟩
  have ho2 := ho1.ptr hq hb1
  have hbt1 := he1.toBut.trans hb1
  simp (disch := omega) only [go_sem, ↓reduceIte, Nat.reduceEqDiff, Nat.reduceAdd, Nat.reduceMul, Nat.reduceSub, Nat.reduceLT, Nat.reduceLeDiff, Nat.reduceBEq, reduceCtorEq, Int.reduceLT, Int.reduceEq, Int.reduceLE, Int.reduceAdd, Int.reduceSub, Int.reduceToNat, Int.reduceNeg]
  refine wC_at 0 (fun fr S' => ∃ v, fr 0 = ptrV q ∧ fr 3 = v ∧ OwnT dotE S.n S' v (rdL (rdC bs e).2.1 (rdC bs e).2.2 (rdC bs e).1).1 ∧ RdT S' q B (rdL (rdC bs e).2.1 (rdC bs e).2.2 (rdC bs e).1).2.1 (rdL (rdC bs e).2.1 (rdC bs e).2.2 (rdC bs e).1).2.2 ∧ St.But (ptrV q) S S') ?_ ?_
  · refine wC_loop (fun n fr S' => ∃ (i : Nat) (v : Value), n = (rdC bs e).1 - i ∧ i ≤ (rdC bs e).1 ∧ fr 0 = ptrV q ∧ fr 3 = v ∧ fr 6 = .int .i64 ((rdC bs e).1 : Nat) ∧ fr 7 = .int .i64 (i : Nat) ∧
      OwnT dotE S.n S' v (rdL (rdC bs e).2.1 (rdC bs e).2.2 i).1 ∧ RdT S' q B (rdL (rdC bs e).2.1 (rdC bs e).2.2 i).2.1 (rdL (rdC bs e).2.1 (rdC bs e).2.2 i).2.2 ∧ St.But (ptrV q) S S') (rdC bs e).1
      ⟨0, .slice (some ⟨y,  0,  none⟩) 0 0, by simp (disch := omega) only [go_sem, ↓reduceIte, Nat.reduceEqDiff, Nat.reduceAdd, Nat.reduceMul, Nat.reduceSub, Nat.reduceLT, Nat.reduceLeDiff, Nat.reduceBEq, reduceCtorEq, Int.reduceLT, Int.reduceEq, Int.reduceLE, Int.reduceAdd, Int.reduceSub, Int.reduceToNat, Int.reduceNeg]; exact ⟨by simp, by simp, ho2, hr1, hbt1⟩⟩ ?_
    rintro n fr S2 ⟨i, v, rfl, hi, g0, g3, g6, g7, ho, hr, hbt⟩
    simp (disch := omega) only [go_sem, ↓reduceIte, Nat.reduceEqDiff, Nat.reduceAdd, Nat.reduceMul, Nat.reduceSub, Nat.reduceLT, Nat.reduceLeDiff, Nat.reduceBEq, reduceCtorEq, Int.reduceLT, Int.reduceEq, Int.reduceLE, Int.reduceAdd, Int.reduceSub, Int.reduceToNat, Int.reduceNeg, F.vector_Take.l0, g0, g3, g6, g7]
    refine wcond_dec (fun hlt => ?_) (fun hge => ?_)
    · obtain ⟨k1, k2, k3, k4⟩ := hlg i
      have hn2 := hbt.n
      simp (disch := omega) only [go_sem, ↓reduceIte, Nat.reduceEqDiff, Nat.reduceAdd, Nat.reduceMul, Nat.reduceSub, Nat.reduceLT, Nat.reduceLeDiff, Nat.reduceBEq, reduceCtorEq, Int.reduceLT, Int.reduceEq, Int.reduceLE, Int.reduceAdd, Int.reduceSub, Int.reduceToNat, Int.reduceNeg, g0, g3, g6, g7]
      refine wJ_of (F.dots_Take_J hr (by omega) k1 k2 (by omega)) ?_; rintro _ S3 ⟨rfl, hr3, hb3⟩
      have ho3 := ho.ptr hq hb3
      have hn3 := hb3.n
      simp (disch := omega) only [go_sem, ↓reduceIte, Nat.reduceEqDiff, Nat.reduceAdd, Nat.reduceMul, Nat.reduceSub, Nat.reduceLT, Nat.reduceLeDiff, Nat.reduceBEq, reduceCtorEq, Int.reduceLT, Int.reduceEq, Int.reduceLE, Int.reduceAdd, Int.reduceSub, Int.reduceToNat, Int.reduceNeg, g0, g3, g6, g7]
      refine wfresh_of fun u hu => ?_
      simp (disch := omega) only [go_sem, ↓reduceIte, Nat.reduceEqDiff, Nat.reduceAdd, Nat.reduceMul, Nat.reduceSub, Nat.reduceLT, Nat.reduceLeDiff, Nat.reduceBEq, reduceCtorEq, Int.reduceLT, Int.reduceEq, Int.reduceLE, Int.reduceAdd, Int.reduceSub, Int.reduceToNat, Int.reduceNeg, g0, g3, g6, g7]
      have he4 := (St.Ext.refl S3).put hu (.cells true 2 [.int .i64 (rdD (rdL (rdC bs e).2.1 (rdC bs e).2.2 i).2.1 (rdL (rdC bs e).2.1 (rdC bs e).2.2 i).2.2).1.1, .int .i64 (rdD (rdL (rdC bs e).2.1 (rdC bs e).2.2 i).2.1 (rdL (rdC bs e).2.1 (rdC bs e).2.2 i).2.2).1.2])
      have hn4 := he4.n
      refine wE_app dotE (ys := [(rdD (rdL (rdC bs e).2.1 (rdC bs e).2.2 i).2.1 (rdL (rdC bs e).2.1 (rdC bs e).2.2 i).2.2).1]) (ho3.ext dotE he4) (SlT.lit dotE (xs := [(rdD (rdL (rdC bs e).2.1 (rdC bs e).2.2 i).2.1 (rdL (rdC bs e).2.1 (rdC bs e).2.2 i).2.2).1])) rfl rfl (by omega) (by rw [k4]; simp; omega) (by rw [k4]; simp; omega) fun v8 S8 ho8 hb8 hv8 => ?_
      have hn8 := hb8.n
      have hbl : ∀ j, blkOf v = some j → S.n ≤ j := ho.fresh dotE
      have hr4 := hr3.but he4
      have hr8 : RdT S8 q B _ _ := hr4.keep hb8.n (hb8.obj q hr4.lt fun h => by have := hbl q h; omega) fun j hj hj2 => hb8.obj j hj2 fun h => by have := hbl j h; omega
      simp (disch := omega) only [go_sem, ↓reduceIte, Nat.reduceEqDiff, Nat.reduceAdd, Nat.reduceMul, Nat.reduceSub, Nat.reduceLT, Nat.reduceLeDiff, Nat.reduceBEq, reduceCtorEq, Int.reduceLT, Int.reduceEq, Int.reduceLE, Int.reduceAdd, Int.reduceSub, Int.reduceToNat, Int.reduceNeg, g0, g3, g6, g7]
      refine ⟨(rdC bs e).1 - (i + 1), by omega, i + 1, _, rfl, by omega, rfl, rfl, ho8, hr8, ⟨by omega, fun j hj hne => ?_⟩⟩
      rw [hb8.obj j (by omega) (fun h => by have := hbl j h; omega), he4.obj j (by omega), hb3.obj j (by omega) hne]
      exact hbt.obj j hj hne
    · simp (disch := omega) only [go_sem, ↓reduceIte, Nat.reduceEqDiff, Nat.reduceAdd, Nat.reduceMul, Nat.reduceSub, Nat.reduceLT, Nat.reduceLeDiff, Nat.reduceBEq, reduceCtorEq, Int.reduceLT, Int.reduceEq, Int.reduceLE, Int.reduceAdd, Int.reduceSub, Int.reduceToNat, Int.reduceNeg, g0, g3]
      have hik : i = (rdC bs e).1 := by omega
      rw [hik] at ho hr
      exact ⟨_, rfl, ho, hr, hbt⟩
  rintro fr S5 ⟨v, g0, g3, ho5, hr5, hb5⟩
  obtain ⟨k1, k2, k3, k4⟩ := hlg (rdC bs e).1
  unfold rdV
  generalize rdL (rdC bs e).2.1 (rdC bs e).2.2 (rdC bs e).1 = u at *
  obtain ⟨ds, bs2, e2⟩ := u
  simp only at *
  obtain ⟨bv, cv, rfl⟩ := (ho5.sl dotE).len dotE
  simp (disch := omega) only [go_sem, ↓reduceIte, Nat.reduceEqDiff, Nat.reduceAdd, Nat.reduceMul, Nat.reduceSub, Nat.reduceLT, Nat.reduceLeDiff, Nat.reduceBEq, reduceCtorEq, Int.reduceLT, Int.reduceEq, Int.reduceLE, Int.reduceAdd, Int.reduceSub, Int.reduceToNat, Int.reduceNeg, g0, g3]
  refine wJ_of (F.num_Reader_Err_J hr5) ?_; rintro _ _ ⟨rfl, rfl⟩
  by_cases h0 : e2 = 0
  · subst h0
    rw [if_pos rfl]
    simp (disch := omega) only [go_sem, ↓reduceIte, Nat.reduceEqDiff, Nat.reduceAdd, Nat.reduceMul, Nat.reduceSub, Nat.reduceLT, Nat.reduceLeDiff, Nat.reduceBEq, reduceCtorEq, Int.reduceLT, Int.reduceEq, Int.reduceLE, Int.reduceAdd, Int.reduceSub, Int.reduceToNat, Int.reduceNeg, g0, g3]
    refine wJ_of (F.vector_May_J (ho5.sl dotE) (by omega)) ?_; rintro _ _ ⟨rfl, rfl⟩
    by_cases hv : isV ds
    · rw [if_pos hv]
      simp (disch := omega) only [go_sem, ↓reduceIte, Nat.reduceEqDiff, Nat.reduceAdd, Nat.reduceMul, Nat.reduceSub, Nat.reduceLT, Nat.reduceLeDiff, Nat.reduceBEq, reduceCtorEq, Int.reduceLT, Int.reduceEq, Int.reduceLE, Int.reduceAdd, Int.reduceSub, Int.reduceToNat, Int.reduceNeg, g0, g3, hv]
      refine wJ_of (F.num_Reader_Err_J hr5) ?_; rintro _ _ ⟨rfl, rfl⟩
      simp (disch := omega) only [go_sem, ↓reduceIte, Nat.reduceEqDiff, Nat.reduceAdd, Nat.reduceMul, Nat.reduceSub, Nat.reduceLT, Nat.reduceLeDiff, Nat.reduceBEq, reduceCtorEq, Int.reduceLT, Int.reduceEq, Int.reduceLE, Int.reduceAdd, Int.reduceSub, Int.reduceToNat, Int.reduceNeg, g0, g3]
      exact ⟨ho5, hr5, hb5⟩
    · rw [if_neg hv]
      simp (disch := omega) only [go_sem, ↓reduceIte, Nat.reduceEqDiff, Nat.reduceAdd, Nat.reduceMul, Nat.reduceSub, Nat.reduceLT, Nat.reduceLeDiff, Nat.reduceBEq, reduceCtorEq, Int.reduceLT, Int.reduceEq, Int.reduceLE, Int.reduceAdd, Int.reduceSub, Int.reduceToNat, Int.reduceNeg, g0, g3, hv]
      refine wJ_of (F.num_Reader_Fail_J (x := 11) hr5 (by decide)) ?_; rintro _ S6 ⟨rfl, hr6, hb6⟩
      simp (disch := omega) only [go_sem, ↓reduceIte, Nat.reduceEqDiff, Nat.reduceAdd, Nat.reduceMul, Nat.reduceSub, Nat.reduceLT, Nat.reduceLeDiff, Nat.reduceBEq, reduceCtorEq, Int.reduceLT, Int.reduceEq, Int.reduceLE, Int.reduceAdd, Int.reduceSub, Int.reduceToNat, Int.reduceNeg, g0, g3]
      refine wJ_of (F.num_Reader_Err_J hr6) ?_; rintro _ _ ⟨rfl, rfl⟩
      simp (disch := omega) only [go_sem, ↓reduceIte, Nat.reduceEqDiff, Nat.reduceAdd, Nat.reduceMul, Nat.reduceSub, Nat.reduceLT, Nat.reduceLeDiff, Nat.reduceBEq, reduceCtorEq, Int.reduceLT, Int.reduceEq, Int.reduceLE, Int.reduceAdd, Int.reduceSub, Int.reduceToNat, Int.reduceNeg, g0, g3]
      exact ⟨OwnT.nil dotE _ _, by simpa using hr6, hb5.trans hb6⟩
  · rw [if_neg h0]
    simp (disch := omega) only [go_sem, ↓reduceIte, Nat.reduceEqDiff, Nat.reduceAdd, Nat.reduceMul, Nat.reduceSub, Nat.reduceLT, Nat.reduceLeDiff, Nat.reduceBEq, reduceCtorEq, Int.reduceLT, Int.reduceEq, Int.reduceLE, Int.reduceAdd, Int.reduceSub, Int.reduceToNat, Int.reduceNeg, g0, g3, h0]
    refine wJ_of (F.num_Reader_Err_J hr5) ?_; rintro _ _ ⟨rfl, rfl⟩
    simp (disch := omega) only [go_sem, ↓reduceIte, Nat.reduceEqDiff, Nat.reduceAdd, Nat.reduceMul, Nat.reduceSub, Nat.reduceLT, Nat.reduceLeDiff, Nat.reduceBEq, reduceCtorEq, Int.reduceLT, Int.reduceEq, Int.reduceLE, Int.reduceAdd, Int.reduceSub, Int.reduceToNat, Int.reduceNeg, g0, g3, h0]
    exact ⟨OwnT.nil dotE _ _, hr5, hb5⟩
theorem F.osierref04_Take_J {S : St} {q B : Nat} {bs : List Int} {e : Int} (h : RdT S q B bs e) (hBn : B ≤ S.n) (hb : isB bs) (he : e ≠ 0 → bs = []) (hL : bs.length < 100000) :
    J PR F.osierref04_Take [ptrV q] S fun v S' => OwnT dotE S.n S' v (rdV bs e).1 ∧ RdT S' q B (rdV bs e).2.1 (rdV bs e).2.2 ∧ St.But (ptrV q) S S' := by
  have hq := h.lt
  obtain ⟨h1, h2, h3, h3'⟩ := rdC_good hb he
  have hlg := rdL_good h1 h2
  refine J_by PR.mixed F.osierref04_Take.ok (by simp) ?_
  simp (disch := omega) only [go_sem, ↓reduceIte, Nat.reduceEqDiff, Nat.reduceAdd, Nat.reduceMul, Nat.reduceSub, Nat.reduceLT, Nat.reduceLeDiff, Nat.reduceBEq, reduceCtorEq, Int.reduceLT, Int.reduceEq, Int.reduceLE, Int.reduceAdd, Int.reduceSub, Int.reduceToNat, Int.reduceNeg]
  refine wJ_of (F.osierref01_R_Count_J h hb he (by omega)) ?_; rintro _ S1 ⟨rfl, hr1, hbt1⟩
  have ho2 : OwnT dotE S.n S1 (.slice none 0 0) [] := OwnT.nil ..
  simp (disch := omega) only [go_sem, ↓reduceIte, Nat.reduceEqDiff, Nat.reduceAdd, Nat.reduceMul, Nat.reduceSub, Nat.reduceLT, Nat.reduceLeDiff, Nat.reduceBEq, reduceCtorEq, Int.reduceLT, Int.reduceEq, Int.reduceLE, Int.reduceAdd, Int.reduceSub, Int.reduceToNat, Int.reduceNeg]
  refine wC_at 0 (fun fr S' => ∃ v, fr 0 = ptrV q ∧ fr 4 = v ∧ OwnT dotE S.n S' v (rdL (rdC bs e).2.1 (rdC bs e).2.2 (rdC bs e).1).1 ∧ RdT S' q B (rdL (rdC bs e).2.1 (rdC bs e).2.2 (rdC bs e).1).2.1 (rdL (rdC bs e).2.1 (rdC bs e).2.2 (rdC bs e).1).2.2 ∧ St.But (ptrV q) S S') ?_ ?_
  · refine wC_loop (fun n fr S' => ∃ (i : Nat) (v : Value), n = (rdC bs e).1 - i ∧ i ≤ (rdC bs e).1 ∧ fr 0 = ptrV q ∧ fr 4 = v ∧ fr 3 = .int .i64 ((rdC bs e).1 : Nat) ∧ fr 5 = .int .i64 (i : Nat) ∧
      OwnT dotE S.n S' v (rdL (rdC bs e).2.1 (rdC bs e).2.2 i).1 ∧ RdT S' q B (rdL (rdC bs e).2.1 (rdC bs e).2.2 i).2.1 (rdL (rdC bs e).2.1 (rdC bs e).2.2 i).2.2 ∧ St.But (ptrV q) S S') (rdC bs e).1
      ⟨0, .slice none 0 0, by simp (disch := omega) only [go_sem, ↓reduceIte, Nat.reduceEqDiff, Nat.reduceAdd, Nat.reduceMul, Nat.reduceSub, Nat.reduceLT, Nat.reduceLeDiff, Nat.reduceBEq, reduceCtorEq, Int.reduceLT, Int.reduceEq, Int.reduceLE, Int.reduceAdd, Int.reduceSub, Int.reduceToNat, Int.reduceNeg]; exact ⟨by simp, by simp, ho2, hr1, hbt1⟩⟩ ?_
    rintro n fr S2 ⟨i, v, rfl, hi, g0, g3, g6, g7, ho, hr, hbt⟩
    simp (disch := omega) only [go_sem, ↓reduceIte, Nat.reduceEqDiff, Nat.reduceAdd, Nat.reduceMul, Nat.reduceSub, Nat.reduceLT, Nat.reduceLeDiff, Nat.reduceBEq, reduceCtorEq, Int.reduceLT, Int.reduceEq, Int.reduceLE, Int.reduceAdd, Int.reduceSub, Int.reduceToNat, Int.reduceNeg, F.osierref04_Take.l0, g0, g3, g6, g7]
    refine wcond_dec (fun hlt => ?_) (fun hge => ?_)
    · obtain ⟨k1, k2, k3, k4⟩ := hlg i
      have hn2 := hbt.n
      simp (disch := omega) only [go_sem, ↓reduceIte, Nat.reduceEqDiff, Nat.reduceAdd, Nat.reduceMul, Nat.reduceSub, Nat.reduceLT, Nat.reduceLeDiff, Nat.reduceBEq, reduceCtorEq, Int.reduceLT, Int.reduceEq, Int.reduceLE, Int.reduceAdd, Int.reduceSub, Int.reduceToNat, Int.reduceNeg, g0, g3, g6, g7]
      refine wJ_of (F.osierref03_Take_J hr (by omega) k1 k2 (by omega)) ?_; rintro _ S3 ⟨rfl, hr3, hb3⟩
      have ho3 := ho.ptr hq hb3
      have hn3 := hb3.n
      simp (disch := omega) only [go_sem, ↓reduceIte, Nat.reduceEqDiff, Nat.reduceAdd, Nat.reduceMul, Nat.reduceSub, Nat.reduceLT, Nat.reduceLeDiff, Nat.reduceBEq, reduceCtorEq, Int.reduceLT, Int.reduceEq, Int.reduceLE, Int.reduceAdd, Int.reduceSub, Int.reduceToNat, Int.reduceNeg, g0, g3, g6, g7]
      refine wfresh_of fun u hu => ?_
      simp (disch := omega) only [go_sem, ↓reduceIte, Nat.reduceEqDiff, Nat.reduceAdd, Nat.reduceMul, Nat.reduceSub, Nat.reduceLT, Nat.reduceLeDiff, Nat.reduceBEq, reduceCtorEq, Int.reduceLT, Int.reduceEq, Int.reduceLE, Int.reduceAdd, Int.reduceSub, Int.reduceToNat, Int.reduceNeg, g0, g3, g6, g7]
      have he4 := (St.Ext.refl S3).put hu (.cells true 2 [.int .i64 (rdD (rdL (rdC bs e).2.1 (rdC bs e).2.2 i).2.1 (rdL (rdC bs e).2.1 (rdC bs e).2.2 i).2.2).1.1, .int .i64 (rdD (rdL (rdC bs e).2.1 (rdC bs e).2.2 i).2.1 (rdL (rdC bs e).2.1 (rdC bs e).2.2 i).2.2).1.2])
      have hn4 := he4.n
      refine wE_app dotE (ys := [(rdD (rdL (rdC bs e).2.1 (rdC bs e).2.2 i).2.1 (rdL (rdC bs e).2.1 (rdC bs e).2.2 i).2.2).1]) (ho3.ext dotE he4) (SlT.lit dotE (xs := [(rdD (rdL (rdC bs e).2.1 (rdC bs e).2.2 i).2.1 (rdL (rdC bs e).2.1 (rdC bs e).2.2 i).2.2).1])) rfl rfl (by omega) (by rw [k4]; simp; omega) (by rw [k4]; simp; omega) fun v8 S8 ho8 hb8 hv8 => ?_
      have hn8 := hb8.n
      have hbl : ∀ j, blkOf v = some j → S.n ≤ j := ho.fresh dotE
      have hr4 := hr3.but he4
      have hr8 : RdT S8 q B _ _ := hr4.keep hb8.n (hb8.obj q hr4.lt fun h => by have := hbl q h; omega) fun j hj hj2 => hb8.obj j hj2 fun h => by have := hbl j h; omega
      simp (disch := omega) only [go_sem, ↓reduceIte, Nat.reduceEqDiff, Nat.reduceAdd, Nat.reduceMul, Nat.reduceSub, Nat.reduceLT, Nat.reduceLeDiff, Nat.reduceBEq, reduceCtorEq, Int.reduceLT, Int.reduceEq, Int.reduceLE, Int.reduceAdd, Int.reduceSub, Int.reduceToNat, Int.reduceNeg, g0, g3, g6, g7]
      refine ⟨(rdC bs e).1 - (i + 1), by omega, i + 1, _, rfl, by omega, rfl, rfl, ho8, hr8, ⟨by omega, fun j hj hne => ?_⟩⟩
      rw [hb8.obj j (by omega) (fun h => by have := hbl j h; omega), he4.obj j (by omega), hb3.obj j (by omega) hne]
      exact hbt.obj j hj hne
    · simp (disch := omega) only [go_sem, ↓reduceIte, Nat.reduceEqDiff, Nat.reduceAdd, Nat.reduceMul, Nat.reduceSub, Nat.reduceLT, Nat.reduceLeDiff, Nat.reduceBEq, reduceCtorEq, Int.reduceLT, Int.reduceEq, Int.reduceLE, Int.reduceAdd, Int.reduceSub, Int.reduceToNat, Int.reduceNeg, g0, g3]
      have hik : i = (rdC bs e).1 := by omega
      rw [hik] at ho hr
      exact ⟨_, rfl, ho, hr, hbt⟩
  rintro fr S5 ⟨v, g0, g3, ho5, hr5, hb5⟩
  obtain ⟨k1, k2, k3, k4⟩ := hlg (rdC bs e).1
  unfold rdV
  generalize rdL (rdC bs e).2.1 (rdC bs e).2.2 (rdC bs e).1 = u at *
  obtain ⟨ds, bs2, e2⟩ := u
  simp only at *
  obtain ⟨bv, cv, rfl⟩ := (ho5.sl dotE).len dotE
  have c5 := hr5.cell1
  by_cases h0 : e2 = 0
  · subst h0
    rw [if_pos rfl]
    simp (disch := omega) only [go_sem, ↓reduceIte, Nat.reduceEqDiff, Nat.reduceAdd, Nat.reduceMul, Nat.reduceSub, Nat.reduceLT, Nat.reduceLeDiff, Nat.reduceBEq, reduceCtorEq, Int.reduceLT, Int.reduceEq, Int.reduceLE, Int.reduceAdd, Int.reduceSub, Int.reduceToNat, Int.reduceNeg, g0, g3, c5]
    refine wJ_of (F.osierref04_May_J (ho5.sl dotE) (by omega)) ?_; rintro _ _ ⟨rfl, rfl⟩
    by_cases hv : isV ds
    · rw [if_pos hv]
      simp (disch := omega) only [go_sem, ↓reduceIte, Nat.reduceEqDiff, Nat.reduceAdd, Nat.reduceMul, Nat.reduceSub, Nat.reduceLT, Nat.reduceLeDiff, Nat.reduceBEq, reduceCtorEq, Int.reduceLT, Int.reduceEq, Int.reduceLE, Int.reduceAdd, Int.reduceSub, Int.reduceToNat, Int.reduceNeg, g0, g3, hv, c5]
      exact ⟨ho5, hr5, hb5⟩
    · rw [if_neg hv]
      simp (disch := omega) only [go_sem, ↓reduceIte, Nat.reduceEqDiff, Nat.reduceAdd, Nat.reduceMul, Nat.reduceSub, Nat.reduceLT, Nat.reduceLeDiff, Nat.reduceBEq, reduceCtorEq, Int.reduceLT, Int.reduceEq, Int.reduceLE, Int.reduceAdd, Int.reduceSub, Int.reduceToNat, Int.reduceNeg, g0, g3, hv, c5]
      refine wJ_of (F.osierref01_R_Fail_J (x := 11) hr5 (by decide)) ?_; rintro _ S6 ⟨rfl, hr6, hb6⟩
      have c6 := hr6.cell1
      simp only [if_true] at c6
      simp (disch := omega) only [go_sem, ↓reduceIte, Nat.reduceEqDiff, Nat.reduceAdd, Nat.reduceMul, Nat.reduceSub, Nat.reduceLT, Nat.reduceLeDiff, Nat.reduceBEq, reduceCtorEq, Int.reduceLT, Int.reduceEq, Int.reduceLE, Int.reduceAdd, Int.reduceSub, Int.reduceToNat, Int.reduceNeg, g0, g3, c6]
      exact ⟨OwnT.nil dotE _ _, by simpa using hr6, hb5.trans hb6⟩
  · rw [if_neg h0]
    simp (disch := omega) only [go_sem, ↓reduceIte, Nat.reduceEqDiff, Nat.reduceAdd, Nat.reduceMul, Nat.reduceSub, Nat.reduceLT, Nat.reduceLeDiff, Nat.reduceBEq, reduceCtorEq, Int.reduceLT, Int.reduceEq, Int.reduceLE, Int.reduceAdd, Int.reduceSub, Int.reduceToNat, Int.reduceNeg, g0, g3, c5, h0]
    exact ⟨OwnT.nil dotE _ _, hr5, hb5⟩
end Go.Osj

/- The law VectorBytes: the row of calls. -/
set_option linter.unusedSimpArgs false
namespace Go.Osj
theorem rdL_enc {xs : List Dot} (hx : ∀ d ∈ xs, mayP d) (r : List Int) : ∀ i, i ≤ xs.length → rdL (encDs xs ++ r) 0 i = (xs.take i, encDs (xs.drop i) ++ r, 0)
  | 0, _ => by simp [rdL]
  | i + 1, h => by
    have hlx : i < xs.length := by omega
    have hm := may_inI (hx xs[i] (List.getElem_mem _))
    have hd : encDs (xs.drop i) ++ r = encI xs[i].1 ++ (encI xs[i].2 ++ (encDs (xs.drop (i + 1)) ++ r)) := by
      rw [List.drop_eq_getElem_cons hlx]
      simp only [encDs, List.flatMap_cons, encD, List.append_assoc]
    rw [rdL, rdL_enc hx r i (by omega)]
    simp only
    rw [hd, rdD_enc hm.1 hm.2, take_snoc (List.getElem?_eq_getElem hlx)]
theorem rdV_enc {V : List Dot} (hV : isV V) (hL : V.length < 100000) (r : List Int) : rdV (encV V ++ r) 0 = (V, r, 0) := by
  have h1 : rdU (encV V ++ r) 0 = (V.length, encDs V ++ r, 0) := by
    unfold encV
    rw [List.append_assoc, rdU_enc (by omega)]
  have h2 : rdC (encV V ++ r) 0 = (V.length, encDs V ++ r, 0) := by
    unfold rdC
    rw [h1]
    simp only
    rw [if_neg (by have := (encDs_len V).1; rw [List.length_append]; omega)]
  unfold rdV
  rw [h2]
  simp only
  rw [rdL_enc hV.2 r _ (Nat.le_refl _)]
  simp only [List.take_length, List.drop_length, if_true]
  rw [if_pos hV]
  simp [encDs]
theorem rdV_good {bs : List Int} {e : Int} (hb : isB bs) (he : e ≠ 0 → bs = []) : isB (rdV bs e).2.1 ∧ ((rdV bs e).2.2 ≠ 0 → (rdV bs e).2.1 = []) ∧ (rdV bs e).2.1.length ≤ bs.length ∧ (rdV bs e).1.length ≤ bs.length := by
  obtain ⟨h1, h2, h3, h3'⟩ := rdC_good hb he
  obtain ⟨k1, k2, k3, k4⟩ := rdL_good h1 h2 (rdC bs e).1
  unfold rdV
  split
  · split
    · exact ⟨k1, k2, by omega, by omega⟩
    · simp [isB]
  · exact ⟨k1, k2, Nat.le_trans k3 h3', by simp⟩
end Go.Osj
