/- The law DotsBytes. -/
import Derived.Test.YtnofakkcipcphaaUB
set_option linter.unusedSimpArgs false
namespace Go.Osj
def bytesOf (xs : List Int) : ByteArray := ⟨(xs.map fun b => UInt8.ofNat b.toNat).toArray⟩
theorem bytesOf_append (xs ys : List Int) : bytesOf (xs ++ ys) = bytesOf xs ++ bytesOf ys := by
  apply ByteArray.ext
  simp [bytesOf]
theorem bytesOf_size (xs : List Int) : (bytesOf xs).size = xs.length := by
  show ((xs.map fun b => UInt8.ofNat b.toNat).toArray).size = _
  simp
theorem bytesV_u8s (xs : List Int) : bytesV (u8s xs) = some (xs.map fun b => UInt8.ofNat b.toNat) := by
  induction xs with
  | nil => rfl
  | cons x xs ih => simp only [List.map_cons, bytesV]; rw [ih]; rfl
theorem SlT.text {S : St} {v : Value} {xs : List Int} (h : SlT byteE S v xs) : bsV S v = some (.string (bytesOf xs)) := by
  obtain ⟨base, cap, rfl, -, -, h⟩ := h
  cases base with
  | none =>
    have : xs = [] := by
      by_cases hx : xs = []
      · exact hx
      · obtain ⟨b, off, hb, -⟩ := h hx
        cases hb
    subst this
    rfl
  | some a =>
    by_cases hx : xs = []
    · subst hx
      rfl
    · obtain ⟨b, off, hb, -, hl⟩ := h hx
      injection hb with hb
      subst hb
      have hl0 : ¬ xs.length = 0 := fun h => hx (List.eq_nil_of_length_eq_zero h)
      simp only [bsV]
      rw [if_neg hl0]
      have hl' : S.loadN ⟨b, off, none⟩ xs.length = some (u8s xs) := by rw [← byteE_flat]; simpa [byteE] using hl
      rw [hl', Option.bind_some, bytesV_u8s]
      rfl
theorem valN_be (n : Nat) : ∀ k, valN 0 (beN n k) = n % 256 ^ k := by
  intro k
  induction k generalizing n with
  | zero => simp [beN, valN, Nat.mod_one]
  | succ k ih =>
    rw [beN, valN_snoc, ih, Int.toNat_natCast, Nat.pow_succ', Nat.mod_mul]
    omega
theorem rdU_enc {n : Nat} (hn : n < 18446744073709551616) (r : List Int) : rdU (encN n ++ r) 0 = (n, r, 0) := by
  have hk := sizeN_range n
  have hfirst := be_first hn (rfl : sizeN n = sizeN n)
  have hhi := sizeN_hi (n := n)
  have hv := valN_be n (sizeN n)
  have hlen := beN_len n (sizeN n)
  have hget := beN_get n (sizeN n) 0
  have henc : encN n = (beN n (sizeN n)).modify 0 fun b => b + headN (sizeN n) := rfl
  have hsz : sizeN n = sizeN n := rfl
  rw [henc]
  generalize hkk : sizeN n = k at *
  cases hb : beN n k with
  | nil => rw [hb] at hlen; simp at hlen; omega
  | cons x t =>
    rw [hb] at hv hlen
    have hx := hget (by rw [hb]; simp)
    simp only [hb, List.getElem_cons_zero, Nat.sub_zero] at hx
    obtain ⟨q, hq⟩ : ∃ q, q = n / 256 ^ (k - 1) % 256 := ⟨_, rfl⟩
    rw [← hq] at hx
    subst hx
    have hq256 : q < 256 := by omega
    have hmod : q ≤ n / 256 ^ (k - 1) := by rw [hq]; exact Nat.mod_le _ _
    have hpow : n < 256 ^ k := by
      by_cases h8 : k ≤ 8
      · exact Nat.lt_of_lt_of_le (hhi h8) (by rw [show (256 : Nat) = 2 ^ 8 from rfl, ← Nat.pow_mul]; exact Nat.pow_le_pow_right (by decide) (by omega))
      · have : k = 9 := by omega
        subst this
        exact Nat.lt_of_lt_of_le hn (by decide)
    rw [Nat.mod_eq_of_lt hpow] at hv
    have hv2 : valN q t = n := by
      have : valN 0 ((q : Int) :: t) = valN q t := by simp [valN]
      rw [← this]; exact hv
    have htl : t.length = k - 1 := by simp at hlen; omega
    have hfit : q + headN k < 256 := by
      by_cases h8 : k ≤ 8
      · exact head_fits hk.1 h8 (Nat.lt_of_le_of_lt hmod (hfirst.1 h8))
      · have := hfirst.2 (by omega)
        have := head_le k
        omega
    have hlead : leadK (q + headN k) = k := by
      refine leadK_of hk.1 hk.2 hfit (by omega) fun h8 => ?_
      have h1 := hfirst.1 h8
      have : k = 1 ∨ k = 2 ∨ k = 3 ∨ k = 4 ∨ k = 5 ∨ k = 6 ∨ k = 7 ∨ k = 8 := by omega
      rcases this with rfl | rfl | rfl | rfl | rfl | rfl | rfl | rfl <;> simp [headN] at h1 ⊢ <;> omega
    have e1 : ((q : Int) + ((headN k : Nat) : Int)).toNat = q + headN k := by omega
    rw [List.modify_zero_cons, List.cons_append]
    simp only [rdU, ne_eq, not_true_eq_false, if_false, e1, hlead, Nat.add_sub_cancel]
    have e2 : (t ++ r).take (k - 1) = t := by rw [← htl]; exact List.take_left
    rw [e2, hv2, hkk, if_neg (by simp; omega), if_pos rfl]
    congr 2
    rw [show k = (k - 1) + 1 by omega, List.drop_succ_cons, ← htl]
    exact List.drop_left
theorem rdI_enc {a : Int} (ha : inI a) (r : List Int) : rdI (encI a ++ r) 0 = (a, r, 0) := by
  unfold rdI encI
  rw [rdU_enc (zzN_lt ha), unzz_zz]
theorem rdD_enc {d : Dot} (h1 : inI d.1) (h2 : inI d.2) (r : List Int) : rdD (encI d.1 ++ (encI d.2 ++ r)) 0 = (d, r, 0) := by
  unfold rdD
  rw [rdI_enc h1]
  simp only
  rw [rdI_enc h2]
  simp
theorem isB_enc {n : Nat} (hn : n < 18446744073709551616) : isB (encN n) := by
  have hk := sizeN_range n
  have hfirst := be_first hn (rfl : sizeN n = sizeN n)
  have henc : encN n = (beN n (sizeN n)).modify 0 fun b => b + headN (sizeN n) := rfl
  rw [henc]
  generalize sizeN n = k at *
  intro b hb
  obtain ⟨i, hi, rfl⟩ := List.mem_iff_getElem.1 hb
  rw [List.getElem_modify, beN_get]
  split
  · rename_i h0
    subst h0
    rw [Nat.sub_zero]
    have hmod : n / 256 ^ (k - 1) % 256 ≤ n / 256 ^ (k - 1) := Nat.mod_le _ _
    by_cases h8 : k ≤ 8
    · have := head_fits hk.1 h8 (Nat.lt_of_le_of_lt hmod (hfirst.1 h8))
      omega
    · have h9 := hfirst.2 (by omega)
      rw [h9]
      have := head_le k
      simp
      omega
  · omega
theorem isB_append {xs ys : List Int} (hx : isB xs) (hy : isB ys) : isB (xs ++ ys) := fun b hb => by
  rcases List.mem_append.1 hb with h | h
  · exact hx b h
  · exact hy b h
theorem F.num_Reader_End_J {S : St} {q B : Nat} {bs : List Int} {e : Int} (h : RdT S q B bs e) : J PR F.num_Reader_End [ptrV q] S fun v S' => v = .int .i64 (if bs = [] then e else if e = 0 then 11 else e) ∧ St.But (ptrV q) S S' := by
  refine J_by PR.mixed F.num_Reader_End.ok (by simp) ?_
  simp (disch := omega) only [go_sem, ↓reduceIte, Nat.reduceEqDiff, Nat.reduceAdd, Nat.reduceMul, Nat.reduceSub, Nat.reduceLT, Nat.reduceLeDiff, Nat.reduceBEq, Nat.reduceLeDiff, reduceCtorEq, Int.reduceLT, Int.reduceEq, Int.reduceLE, Int.reduceAdd, Int.reduceSub, Int.reduceToNat, Int.reduceNeg, Int.toNat_natCast, beq_self_eq_true, wrap64, undef, Nat.zero_add, Nat.add_zero, Int.zero_add, Int.add_zero, Int.sub_zero, St.loadN_other, St.cell_other]
  refine wJ_of (F.num_Reader_Left_J h) ?_; rintro _ _ ⟨rfl, rfl⟩
  cases bs with
  | nil =>
    simp (disch := omega) only [go_sem, ↓reduceIte, Nat.reduceEqDiff, Nat.reduceAdd, Nat.reduceMul, Nat.reduceSub, Nat.reduceLT, Nat.reduceLeDiff, Nat.reduceBEq, Nat.reduceLeDiff, reduceCtorEq, Int.reduceLT, Int.reduceEq, Int.reduceLE, Int.reduceAdd, Int.reduceSub, Int.reduceToNat, Int.reduceNeg, Int.toNat_natCast, beq_self_eq_true, wrap64, undef, Nat.zero_add, Nat.add_zero, Int.zero_add, Int.add_zero, Int.sub_zero, St.loadN_other, St.cell_other, List.length_nil, Int.lt_irrefl]
    refine wJ_of (F.num_Reader_Err_J h) ?_; rintro _ _ ⟨rfl, rfl⟩
    simp (disch := omega) only [go_sem, ↓reduceIte, Nat.reduceEqDiff, Nat.reduceAdd, Nat.reduceMul, Nat.reduceSub, Nat.reduceLT, Nat.reduceLeDiff, Nat.reduceBEq, Nat.reduceLeDiff, reduceCtorEq, Int.reduceLT, Int.reduceEq, Int.reduceLE, Int.reduceAdd, Int.reduceSub, Int.reduceToNat, Int.reduceNeg, Int.toNat_natCast, beq_self_eq_true, wrap64, undef, Nat.zero_add, Nat.add_zero, Int.zero_add, Int.add_zero, Int.sub_zero, St.loadN_other, St.cell_other]
    exact but_refl ..
  | cons b r =>
    have hp : (0 : Int) < ((r.length + 1 : Nat) : Int) := by omega
    simp (disch := omega) only [go_sem, ↓reduceIte, Nat.reduceEqDiff, Nat.reduceAdd, Nat.reduceMul, Nat.reduceSub, Nat.reduceLT, Nat.reduceLeDiff, Nat.reduceBEq, Nat.reduceLeDiff, reduceCtorEq, Int.reduceLT, Int.reduceEq, Int.reduceLE, Int.reduceAdd, Int.reduceSub, Int.reduceToNat, Int.reduceNeg, Int.toNat_natCast, beq_self_eq_true, wrap64, undef, Nat.zero_add, Nat.add_zero, Int.zero_add, Int.add_zero, Int.sub_zero, St.loadN_other, St.cell_other, hp]
    refine wJ_of (F.num_Reader_Fail_J (x := 11) h (by decide)) ?_; rintro _ S1 ⟨rfl, hr, hb⟩
    simp (disch := omega) only [go_sem, ↓reduceIte, Nat.reduceEqDiff, Nat.reduceAdd, Nat.reduceMul, Nat.reduceSub, Nat.reduceLT, Nat.reduceLeDiff, Nat.reduceBEq, Nat.reduceLeDiff, reduceCtorEq, Int.reduceLT, Int.reduceEq, Int.reduceLE, Int.reduceAdd, Int.reduceSub, Int.reduceToNat, Int.reduceNeg, Int.toNat_natCast, beq_self_eq_true, wrap64, undef, Nat.zero_add, Nat.add_zero, Int.zero_add, Int.add_zero, Int.sub_zero, St.loadN_other, St.cell_other]
    refine wJ_of (F.num_Reader_Err_J hr) ?_; rintro _ _ ⟨rfl, rfl⟩
    simp (disch := omega) only [go_sem, ↓reduceIte, Nat.reduceEqDiff, Nat.reduceAdd, Nat.reduceMul, Nat.reduceSub, Nat.reduceLT, Nat.reduceLeDiff, Nat.reduceBEq, Nat.reduceLeDiff, reduceCtorEq, Int.reduceLT, Int.reduceEq, Int.reduceLE, Int.reduceAdd, Int.reduceSub, Int.reduceToNat, Int.reduceNeg, Int.toNat_natCast, beq_self_eq_true, wrap64, undef, Nat.zero_add, Nat.add_zero, Int.zero_add, Int.add_zero, Int.sub_zero, St.loadN_other, St.cell_other]
    exact hb
theorem F.osierlaw03_DotsBytes.J {S : St} {l : Value} {bs : List Int} {d : Dot} (hl : SlT byteE S l bs) (hb : isB bs) (h1 : inI d.1) (h2 : inI d.2) : J PR F.osierlaw03_DotsBytes [l, dotV d] S fun v _ => v = .bool true := by
  obtain ⟨base, cap, rfl⟩ := hl.len byteE
  refine J_by PR.mixed F.osierlaw03_DotsBytes.ok (by simp) ?_
  simp (disch := omega) only [go_sem, ↓reduceIte, Nat.reduceEqDiff, Nat.reduceAdd, Nat.reduceMul, Nat.reduceSub, Nat.reduceLT, Nat.reduceLeDiff, Nat.reduceBEq, Nat.reduceLeDiff, reduceCtorEq, Int.reduceLT, Int.reduceEq, Int.reduceLE, Int.reduceAdd, Int.reduceSub, Int.reduceToNat, Int.reduceNeg, Int.toNat_natCast, beq_self_eq_true, wrap64, undef, Nat.zero_add, Nat.add_zero, Int.zero_add, Int.add_zero, Int.sub_zero, St.loadN_other, St.cell_other]
  refine wfresh_of fun x hx => ?_
  simp (disch := omega) only [go_sem, ↓reduceIte, Nat.reduceEqDiff, Nat.reduceAdd, Nat.reduceMul, Nat.reduceSub, Nat.reduceLT, Nat.reduceLeDiff, Nat.reduceBEq, Nat.reduceLeDiff, reduceCtorEq, Int.reduceLT, Int.reduceEq, Int.reduceLE, Int.reduceAdd, Int.reduceSub, Int.reduceToNat, Int.reduceNeg, Int.toNat_natCast, beq_self_eq_true, wrap64, undef, Nat.zero_add, Nat.add_zero, Int.zero_add, Int.add_zero, Int.sub_zero, St.loadN_other, St.cell_other]
  have he0 := (St.Ext.refl S).put hx (.cells true 2 [.int .i64 d.1, .int .i64 d.2])
  have hxn := St.lt_put_self S x (.cells true 2 [.int .i64 d.1, .int .i64 d.2])
  refine wJ_of F.osierlaw03_awake_P ?_; rintro _ _ ⟨rfl, rfl⟩
  simp (disch := omega) only [go_sem, ↓reduceIte, Nat.reduceEqDiff, Nat.reduceAdd, Nat.reduceMul, Nat.reduceSub, Nat.reduceLT, Nat.reduceLeDiff, Nat.reduceBEq, Nat.reduceLeDiff, reduceCtorEq, Int.reduceLT, Int.reduceEq, Int.reduceLE, Int.reduceAdd, Int.reduceSub, Int.reduceToNat, Int.reduceNeg, Int.toNat_natCast, beq_self_eq_true, wrap64, undef, Nat.zero_add, Nat.add_zero, Int.zero_add, Int.add_zero, Int.sub_zero, St.loadN_other, St.cell_other]
  refine wcond_dec (fun h => ?_) (fun h => ?_)
  · simp (disch := omega) only [go_sem, ↓reduceIte, Nat.reduceEqDiff, Nat.reduceAdd, Nat.reduceMul, Nat.reduceSub, Nat.reduceLT, Nat.reduceLeDiff, Nat.reduceBEq, Nat.reduceLeDiff, reduceCtorEq, Int.reduceLT, Int.reduceEq, Int.reduceLE, Int.reduceAdd, Int.reduceSub, Int.reduceToNat, Int.reduceNeg, Int.toNat_natCast, beq_self_eq_true, wrap64, undef, Nat.zero_add, Nat.add_zero, Int.zero_add, Int.add_zero, Int.sub_zero, St.loadN_other, St.cell_other]
  simp (disch := omega) only [go_sem, ↓reduceIte, Nat.reduceEqDiff, Nat.reduceAdd, Nat.reduceMul, Nat.reduceSub, Nat.reduceLT, Nat.reduceLeDiff, Nat.reduceBEq, Nat.reduceLeDiff, reduceCtorEq, Int.reduceLT, Int.reduceEq, Int.reduceLE, Int.reduceAdd, Int.reduceSub, Int.reduceToNat, Int.reduceNeg, Int.toNat_natCast, beq_self_eq_true, wrap64, undef, Nat.zero_add, Nat.add_zero, Int.zero_add, Int.add_zero, Int.sub_zero, St.loadN_other, St.cell_other]
  refine wJ_of (F.dots_Put_J (hl.ext byteE he0) h1 h2 (by omega)) ?_; rintro vx S1 ⟨hox, he1⟩
  have l1 : S1.loadN ⟨x, 0, none⟩ 2 = some [.int .i64 d.1, .int .i64 d.2] := by rw [he1.loadN hxn]; simp (disch := omega) only [go_sem, ↓reduceIte, Nat.reduceEqDiff, Nat.reduceAdd, Nat.reduceMul, Nat.reduceSub, Nat.reduceLT, Nat.reduceLeDiff, Nat.reduceBEq, Nat.reduceLeDiff, reduceCtorEq, Int.reduceLT, Int.reduceEq, Int.reduceLE, Int.reduceAdd, Int.reduceSub, Int.reduceToNat, Int.reduceNeg, Int.toNat_natCast, beq_self_eq_true, wrap64, undef, Nat.zero_add, Nat.add_zero, Int.zero_add, Int.add_zero, Int.sub_zero, St.loadN_other, St.cell_other]
  have e01 := he0.trans he1
  have s1 := (hox.sl byteE).text
  have s3 := (hl.ext byteE e01).text
  simp (disch := omega) only [go_sem, ↓reduceIte, Nat.reduceEqDiff, Nat.reduceAdd, Nat.reduceMul, Nat.reduceSub, Nat.reduceLT, Nat.reduceLeDiff, Nat.reduceBEq, Nat.reduceLeDiff, reduceCtorEq, Int.reduceLT, Int.reduceEq, Int.reduceLE, Int.reduceAdd, Int.reduceSub, Int.reduceToNat, Int.reduceNeg, Int.toNat_natCast, beq_self_eq_true, wrap64, undef, Nat.zero_add, Nat.add_zero, Int.zero_add, Int.add_zero, Int.sub_zero, St.loadN_other, St.cell_other, l1, s1, s3]
  refine wJ_of (F.osierref03_Put_J h1 h2) ?_; rintro vy S2 ⟨hoy, he2⟩
  have e02 := e01.trans he2
  have t1 := ((hox.sl byteE).ext byteE he2).text
  have t2 := (hoy.sl byteE).text
  have t3 := (hl.ext byteE e02).text
  have el1 := encI_len d.1
  have el2 := encI_len d.2
  have hsz : (bytesOf bs).size + (bytesOf (encI d.1 ++ encI d.2)).size ≤ 9223372036854775807 := by rw [bytesOf_size, bytesOf_size, List.length_append]; omega
  have happ : bytesOf (bs ++ (encI d.1 ++ encI d.2)) = bytesOf bs ++ bytesOf (encI d.1 ++ encI d.2) := bytesOf_append _ _
  have hbe : (bytesOf bs ++ bytesOf (encI d.1 ++ encI d.2) == bytesOf bs ++ bytesOf (encI d.1 ++ encI d.2)) = true := by rw [ba_beq]; simp
  simp (disch := omega) only [go_sem, ↓reduceIte, Nat.reduceEqDiff, Nat.reduceAdd, Nat.reduceMul, Nat.reduceSub, Nat.reduceLT, Nat.reduceLeDiff, Nat.reduceBEq, Nat.reduceLeDiff, reduceCtorEq, Int.reduceLT, Int.reduceEq, Int.reduceLE, Int.reduceAdd, Int.reduceSub, Int.reduceToNat, Int.reduceNeg, Int.toNat_natCast, beq_self_eq_true, wrap64, undef, Nat.zero_add, Nat.add_zero, Int.zero_add, Int.add_zero, Int.sub_zero, St.loadN_other, St.cell_other, t1, t2, t3, binS, hsz, happ, hbe]
  have e2 := he1.trans he2
  have l2 : S2.loadN ⟨x, 0, none⟩ 2 = some [.int .i64 d.1, .int .i64 d.2] := by rw [e2.loadN hxn]; simp (disch := omega) only [go_sem, ↓reduceIte, Nat.reduceEqDiff, Nat.reduceAdd, Nat.reduceMul, Nat.reduceSub, Nat.reduceLT, Nat.reduceLeDiff, Nat.reduceBEq, Nat.reduceLeDiff, reduceCtorEq, Int.reduceLT, Int.reduceEq, Int.reduceLE, Int.reduceAdd, Int.reduceSub, Int.reduceToNat, Int.reduceNeg, Int.toNat_natCast, beq_self_eq_true, wrap64, undef, Nat.zero_add, Nat.add_zero, Int.zero_add, Int.add_zero, Int.sub_zero, St.loadN_other, St.cell_other]
  have hxn2 : x < S2.n := by have := e2.n; omega
  have hl2 := hl.ext byteE e02
  refine wJ_of (F.num_Read_J hl2) ?_; rintro _ S3 ⟨q, rfl, hq, hr, he3⟩
  simp (disch := omega) only [go_sem, ↓reduceIte, Nat.reduceEqDiff, Nat.reduceAdd, Nat.reduceMul, Nat.reduceSub, Nat.reduceLT, Nat.reduceLeDiff, Nat.reduceBEq, Nat.reduceLeDiff, reduceCtorEq, Int.reduceLT, Int.reduceEq, Int.reduceLE, Int.reduceAdd, Int.reduceSub, Int.reduceToNat, Int.reduceNeg, Int.toNat_natCast, beq_self_eq_true, wrap64, undef, Nat.zero_add, Nat.add_zero, Int.zero_add, Int.add_zero, Int.sub_zero, St.loadN_other, St.cell_other]
  refine wfresh_of fun w hw => ?_
  simp (disch := omega) only [go_sem, ↓reduceIte, Nat.reduceEqDiff, Nat.reduceAdd, Nat.reduceMul, Nat.reduceSub, Nat.reduceLT, Nat.reduceLeDiff, Nat.reduceBEq, Nat.reduceLeDiff, reduceCtorEq, Int.reduceLT, Int.reduceEq, Int.reduceLE, Int.reduceAdd, Int.reduceSub, Int.reduceToNat, Int.reduceNeg, Int.toNat_natCast, beq_self_eq_true, wrap64, undef, Nat.zero_add, Nat.add_zero, Int.zero_add, Int.add_zero, Int.sub_zero, St.loadN_other, St.cell_other]
  have he4 := (St.Ext.refl S3).put hw (.cells true 2 [.slice base bs.length cap, .int .i64 0])
  have hwq : q ≠ w := by have := hr.lt; omega
  have hrw : RdT (S3.put w (.cells true 2 [.slice base bs.length cap, .int .i64 0])) w S2.n bs 0 := by
    refine ⟨_, St.put_same _ _ _, St.lt_put_self _ _ _, (hl2.ext byteE he3).ext byteE he4, fun hne => ?_⟩
    obtain ⟨b2, c2, g1, -, -, g4⟩ := hl2
    obtain ⟨b, off, rfl, hlt, -⟩ := g4 hne
    injection g1 with g1 g2 g3
    subst g1
    have := he3.n
    refine ⟨fun hb => ?_, fun j hj => ?_⟩
    · simp [blkOf] at hb
      omega
    · simp [blkOf] at hj
      omega
  have hrq := hr.but he4
  have e34 := he3.trans he4
  have hn2 := e34.n
  have hwn := St.lt_put_self S3 w (.cells true 2 [.slice base bs.length cap, .int .i64 0])
  have hbut : ∀ i, i < S2.n → (S3.put w (.cells true 2 [.slice base bs.length cap, .int .i64 0])).obj i = S2.obj i := fun i hi => e34.obj i hi
  have hqn := hrq.lt
  generalize S3.put w (.cells true 2 [.slice base bs.length cap, .int .i64 0]) = S4 at *
  have hq2 : S2.n ≤ q := hq
  have hw2 : S2.n ≤ w := by have := he3.n; omega
  obtain ⟨bx, cx, hvx⟩ := (hox.sl byteE).len byteE
  refine wC_at 0 (fun fr S' => fr 0 = .slice base bs.length cap ∧ fr 3 = ptrV x ∧ fr 6 = vx ∧ S2.n ≤ S'.n ∧ ∀ i, i < S2.n → S'.obj i = S2.obj i) ?_ ?_
  · refine wC_loop (fun n fr S' => ∃ (i : Nat) (rs : List Int) (er : Int), n = 5 - i ∧ i ≤ 5 ∧ fr 0 = .slice base bs.length cap ∧ fr 3 = ptrV x ∧ fr 6 = vx ∧ fr 7 = ptrV q ∧ fr 8 = ptrV w ∧ fr 9 = .int .i64 (i : Nat) ∧ S2.n ≤ S'.n ∧ (∀ i, i < S2.n → S'.obj i = S2.obj i) ∧ RdT S' q S2.n rs er ∧ RdT S' w S2.n rs er ∧
        isB rs ∧ (er ≠ 0 → rs = []) ∧ rs.length ≤ 1000) 5 ⟨0, bs, 0, by simp (disch := omega) only [go_sem, ↓reduceIte, Nat.reduceEqDiff, Nat.reduceAdd, Nat.reduceMul, Nat.reduceSub, Nat.reduceLT, Nat.reduceLeDiff, Nat.reduceBEq, Nat.reduceLeDiff, reduceCtorEq, Int.reduceLT, Int.reduceEq, Int.reduceLE, Int.reduceAdd, Int.reduceSub, Int.reduceToNat, Int.reduceNeg, Int.toNat_natCast, beq_self_eq_true, wrap64, undef, Nat.zero_add, Nat.add_zero, Int.zero_add, Int.add_zero, Int.sub_zero, St.loadN_other, St.cell_other]; exact ⟨hn2, hbut, hrq, hrw, hb, by simp, by omega⟩⟩ ?_
    rintro n fr S5 ⟨i, rs, er, rfl, hi, g0, g3, g6, g7, g8, g9, hn5, ho5, hr5, hw5, hrb, hre, hrl⟩
    simp (disch := omega) only [go_sem, ↓reduceIte, Nat.reduceEqDiff, Nat.reduceAdd, Nat.reduceMul, Nat.reduceSub, Nat.reduceLT, Nat.reduceLeDiff, Nat.reduceBEq, Nat.reduceLeDiff, reduceCtorEq, Int.reduceLT, Int.reduceEq, Int.reduceLE, Int.reduceAdd, Int.reduceSub, Int.reduceToNat, Int.reduceNeg, Int.toNat_natCast, beq_self_eq_true, wrap64, undef, Nat.zero_add, Nat.add_zero, Int.zero_add, Int.add_zero, Int.sub_zero, St.loadN_other, St.cell_other, F.osierlaw03_DotsBytes.l0, g0, g3, g6, g7, g8, g9]
    refine wcond_dec (fun hlt => ?_) (fun hge => ?_)
    · obtain ⟨k1, k2, k3⟩ := rdD_good hrb hre
      have hq5 := hr5.lt
      have hw5' := hw5.lt
      simp (disch := omega) only [go_sem, ↓reduceIte, Nat.reduceEqDiff, Nat.reduceAdd, Nat.reduceMul, Nat.reduceSub, Nat.reduceLT, Nat.reduceLeDiff, Nat.reduceBEq, Nat.reduceLeDiff, reduceCtorEq, Int.reduceLT, Int.reduceEq, Int.reduceLE, Int.reduceAdd, Int.reduceSub, Int.reduceToNat, Int.reduceNeg, Int.toNat_natCast, beq_self_eq_true, wrap64, undef, Nat.zero_add, Nat.add_zero, Int.zero_add, Int.add_zero, Int.sub_zero, St.loadN_other, St.cell_other, g0, g3, g6, g7, g8, g9]
      refine wJ_of (F.dots_Take_J hr5 hn5 hrb hre (by omega)) ?_; rintro _ S6 ⟨rfl, hr6, hb6⟩
      have hw6 : RdT S6 w S2.n rs er := hw5.keep hb6.n (hb6.obj w hw5' (by simp [blkOf]; exact hwq)) fun j hj hj2 => hb6.obj j hj2 (by simp [blkOf]; omega)
      have hn6 := hb6.n
      simp (disch := omega) only [go_sem, ↓reduceIte, Nat.reduceEqDiff, Nat.reduceAdd, Nat.reduceMul, Nat.reduceSub, Nat.reduceLT, Nat.reduceLeDiff, Nat.reduceBEq, Nat.reduceLeDiff, reduceCtorEq, Int.reduceLT, Int.reduceEq, Int.reduceLE, Int.reduceAdd, Int.reduceSub, Int.reduceToNat, Int.reduceNeg, Int.toNat_natCast, beq_self_eq_true, wrap64, undef, Nat.zero_add, Nat.add_zero, Int.zero_add, Int.add_zero, Int.sub_zero, St.loadN_other, St.cell_other, g0, g3, g6, g7, g8, g9]
      refine wJ_of (F.osierref03_Take_J hw6 (by omega) hrb hre (by omega)) ?_; rintro _ S7 ⟨rfl, hw7, hb7⟩
      have hn7 := hb7.n
      have hr7 : RdT S7 q S2.n (rdD rs er).2.1 (rdD rs er).2.2 := hr6.keep hb7.n (hb7.obj q hr6.lt (by simp [blkOf]; omega)) fun j hj hj2 => hb7.obj j hj2 (by simp [blkOf]; omega)
      have ho7 : ∀ i, i < S2.n → S7.obj i = S2.obj i := fun j hj => by
        rw [hb7.obj j (by omega) (by simp [blkOf]; omega), hb6.obj j (by omega) (by simp [blkOf]; omega)]
        exact ho5 j hj
      obtain ⟨vw, cw0, -, hsw, -⟩ := hw7.cell0
      obtain ⟨bw, cw, rfl⟩ := hsw.len byteE
      have cw1 := hw7.cell1
      simp (disch := omega) only [go_sem, ↓reduceIte, Nat.reduceEqDiff, Nat.reduceAdd, Nat.reduceMul, Nat.reduceSub, Nat.reduceLT, Nat.reduceLeDiff, Nat.reduceBEq, Nat.reduceLeDiff, reduceCtorEq, Int.reduceLT, Int.reduceEq, Int.reduceLE, Int.reduceAdd, Int.reduceSub, Int.reduceToNat, Int.reduceNeg, Int.toNat_natCast, beq_self_eq_true, wrap64, undef, Nat.zero_add, Nat.add_zero, Int.zero_add, Int.add_zero, Int.sub_zero, St.loadN_other, St.cell_other, g0, g3, g6, g7, g8, g9, eqV_dot, cw0]
      refine wJ_of (F.num_Reader_Left_J hr7) ?_; rintro _ _ ⟨rfl, rfl⟩
      simp (disch := omega) only [go_sem, ↓reduceIte, Nat.reduceEqDiff, Nat.reduceAdd, Nat.reduceMul, Nat.reduceSub, Nat.reduceLT, Nat.reduceLeDiff, Nat.reduceBEq, Nat.reduceLeDiff, reduceCtorEq, Int.reduceLT, Int.reduceEq, Int.reduceLE, Int.reduceAdd, Int.reduceSub, Int.reduceToNat, Int.reduceNeg, Int.toNat_natCast, beq_self_eq_true, wrap64, undef, Nat.zero_add, Nat.add_zero, Int.zero_add, Int.add_zero, Int.sub_zero, St.loadN_other, St.cell_other, g0, g3, g6, g7, g8, g9, cw0, cw1]
      refine wJ_of (F.num_Reader_Err_J hr7) ?_; rintro _ _ ⟨rfl, rfl⟩
      simp (disch := omega) only [go_sem, ↓reduceIte, Nat.reduceEqDiff, Nat.reduceAdd, Nat.reduceMul, Nat.reduceSub, Nat.reduceLT, Nat.reduceLeDiff, Nat.reduceBEq, Nat.reduceLeDiff, reduceCtorEq, Int.reduceLT, Int.reduceEq, Int.reduceLE, Int.reduceAdd, Int.reduceSub, Int.reduceToNat, Int.reduceNeg, Int.toNat_natCast, beq_self_eq_true, wrap64, undef, Nat.zero_add, Nat.add_zero, Int.zero_add, Int.add_zero, Int.sub_zero, St.loadN_other, St.cell_other, g0, g3, g6, g7, g8, g9, cw1]
      exact ⟨5 - (i + 1), by omega, i + 1, _, _, rfl, by omega, rfl, by omega, ho7, hr7, hw7, k1, k2, by omega⟩
    · simp (disch := omega) only [go_sem, ↓reduceIte, Nat.reduceEqDiff, Nat.reduceAdd, Nat.reduceMul, Nat.reduceSub, Nat.reduceLT, Nat.reduceLeDiff, Nat.reduceBEq, Nat.reduceLeDiff, reduceCtorEq, Int.reduceLT, Int.reduceEq, Int.reduceLE, Int.reduceAdd, Int.reduceSub, Int.reduceToNat, Int.reduceNeg, Int.toNat_natCast, beq_self_eq_true, wrap64, undef, Nat.zero_add, Nat.add_zero, Int.zero_add, Int.add_zero, Int.sub_zero, St.loadN_other, St.cell_other, g0, g3, g6]
      exact ⟨hn5, ho5⟩
  rintro fr S5 ⟨g0, g3, g6, hn5, ho5⟩
  have e25 : S2.Ext S5 := ⟨hn5, ho5⟩
  have hx5 := (e25.loadN hxn2 0 2).trans l2
  have hsx := ((hox.sl byteE).ext byteE he2).ext byteE e25
  obtain ⟨u, hu, hus⟩ := hsx.from byteE (l := bs.length) (q := .i64) (i := bs.length) rfl (by simp)
  replace hu : slV 1 _ _ _ _ = _ := hu
  rw [List.drop_left] at hus
  simp (disch := omega) only [go_sem, ↓reduceIte, Nat.reduceEqDiff, Nat.reduceAdd, Nat.reduceMul, Nat.reduceSub, Nat.reduceLT, Nat.reduceLeDiff, Nat.reduceBEq, Nat.reduceLeDiff, reduceCtorEq, Int.reduceLT, Int.reduceEq, Int.reduceLE, Int.reduceAdd, Int.reduceSub, Int.reduceToNat, Int.reduceNeg, Int.toNat_natCast, beq_self_eq_true, wrap64, undef, Nat.zero_add, Nat.add_zero, Int.zero_add, Int.add_zero, Int.sub_zero, St.loadN_other, St.cell_other, g0, g3, g6, hu]
  refine wJ_of (F.num_Read_J hus) ?_; rintro _ S6 ⟨q2, rfl, hq6, hr6, he6⟩
  have henc := rdD_enc h1 h2 []
  simp only [List.append_nil] at henc
  have hib : isB (encI d.1 ++ encI d.2) := isB_append (isB_enc (zzN_lt h1)) (isB_enc (zzN_lt h2))
  have hx6 := (he6.loadN (show x < S5.n by omega) 0 2).trans hx5
  simp (disch := omega) only [go_sem, ↓reduceIte, Nat.reduceEqDiff, Nat.reduceAdd, Nat.reduceMul, Nat.reduceSub, Nat.reduceLT, Nat.reduceLeDiff, Nat.reduceBEq, Nat.reduceLeDiff, reduceCtorEq, Int.reduceLT, Int.reduceEq, Int.reduceLE, Int.reduceAdd, Int.reduceSub, Int.reduceToNat, Int.reduceNeg, Int.toNat_natCast, beq_self_eq_true, wrap64, undef, Nat.zero_add, Nat.add_zero, Int.zero_add, Int.add_zero, Int.sub_zero, St.loadN_other, St.cell_other, g0, g3, g6, hx6]
  refine wJ_of (F.dots_Take_J hr6 he6.n hib (by simp) (by simp; omega)) ?_; rintro _ S7 ⟨rfl, hr7, hb7⟩
  rw [henc] at hr7 ⊢
  have hx7 : S7.loadN ⟨x, 0, none⟩ 2 = some [.int .i64 d.1, .int .i64 d.2] := by
    rw [St.loadN_def, hb7.obj x (by have := he6.n; omega) (by simp [blkOf]; omega), ← St.loadN_def]
    exact hx6
  simp (disch := omega) only [go_sem, ↓reduceIte, Nat.reduceEqDiff, Nat.reduceAdd, Nat.reduceMul, Nat.reduceSub, Nat.reduceLT, Nat.reduceLeDiff, Nat.reduceBEq, Nat.reduceLeDiff, reduceCtorEq, Int.reduceLT, Int.reduceEq, Int.reduceLE, Int.reduceAdd, Int.reduceSub, Int.reduceToNat, Int.reduceNeg, Int.toNat_natCast, beq_self_eq_true, wrap64, undef, Nat.zero_add, Nat.add_zero, Int.zero_add, Int.add_zero, Int.sub_zero, St.loadN_other, St.cell_other, g0, g3, g6, hx7, eqV_dot]
  refine wJ_of (F.num_Reader_End_J hr7) ?_; rintro _ S8 ⟨rfl, -⟩
  simp (disch := omega) only [go_sem, ↓reduceIte, Nat.reduceEqDiff, Nat.reduceAdd, Nat.reduceMul, Nat.reduceSub, Nat.reduceLT, Nat.reduceLeDiff, Nat.reduceBEq, Nat.reduceLeDiff, reduceCtorEq, Int.reduceLT, Int.reduceEq, Int.reduceLE, Int.reduceAdd, Int.reduceSub, Int.reduceToNat, Int.reduceNeg, Int.toNat_natCast, beq_self_eq_true, wrap64, undef, Nat.zero_add, Nat.add_zero, Int.zero_add, Int.add_zero, Int.sub_zero, St.loadN_other, St.cell_other]
end Go.Osj
