/- Contracts of layer 1: numbers as bytes. -/
import Derived.Test.YtnofakkcipcphaaC2
import Derived.Test.YtnofakkcipcphaaP
set_option linter.unusedSimpArgs false
namespace Go.Osj
instance (n L : Nat) : Decidable (GoodL n L) := inferInstanceAs (Decidable (_ ∨ _))
theorem len8_ok : ∀ x : Fin 256, ∃ t, Go.Lib.len8tab[x.val]? = some t ∧ GoodL x.val t.toNat ∧ t.toNat ≤ 8 := by
  have : ∀ x : Fin 256, ((Go.Lib.len8tab[x.val]?).any fun t => decide (GoodL x.val t.toNat ∧ t.toNat ≤ 8)) = true := by decide +kernel
  intro x
  have h := this x
  cases hq : Go.Lib.len8tab[x.val]? with
  | none => simp [hq] at h
  | some t =>
    simp only [hq, Option.any_some, decide_eq_true_eq] at h
    exact ⟨t, rfl, h⟩
theorem wrapu8 {n : Int} (h1 : 0 ≤ n) (h2 : n < 256) : IntKind.u8.wrap n = n := by simp [IntKind.wrap, IntKind.bits, IntKind.signed]; omega
theorem wrapu16 {n : Int} (h1 : 0 ≤ n) (h2 : n < 65536) : IntKind.u16.wrap n = n := by simp [IntKind.wrap, IntKind.bits, IntKind.signed]; omega
theorem wrapu64 {n : Int} (h1 : 0 ≤ n) (h2 : n < 18446744073709551616) : IntKind.u64.wrap n = n := by simp [IntKind.wrap, IntKind.bits, IntKind.signed]; omega
theorem fdivN (n k m : Nat) (h : 2 ^ k = m) : ((n : Nat) : Int).fdiv (2 ^ k) = ((n / m : Nat) : Int) := by
  subst h
  rw [Int.fdiv_eq_ediv_of_nonneg _ (Int.pow_nonneg (by decide))]
  simp
set_option maxRecDepth 10000 in
theorem F.bits_Len64_J {S : St} {n : Nat} (hn : n < 18446744073709551616) : J PR F.bits_Len64 [.int .u64 n] S fun v S' => (∃ L : Nat, v = .int .i64 L ∧ GoodL n L ∧ L ≤ 64) ∧ S = S' := by
  refine J_by PR.mixed F.bits_Len64.ok (by simp) ?_
  simp (disch := omega) only [go_sem, ↓reduceIte, Nat.reduceEqDiff, Nat.reduceAdd, Nat.reduceMul, Nat.reduceSub, Nat.reduceLT, Nat.reduceLeDiff, Nat.reduceBEq, Nat.reduceLeDiff, reduceCtorEq, Int.reduceLT, Int.reduceEq, Int.reduceLE, Int.reduceAdd, Int.reduceSub, Int.reduceToNat, Int.reduceNeg, Int.toNat_natCast, beq_self_eq_true, wrap64, undef, Nat.zero_add, Nat.add_zero, Int.zero_add, Int.add_zero, Int.sub_zero, St.loadN_other, St.cell_other]
  refine wcond_dec (fun h1 => ?_) (fun h1 => ?_)
  · have e1 := fdivN n (min 32 64) 4294967296 (by decide)
    have g1 : ∀ L, GoodL (n / 4294967296) L → GoodL n (L + 32) := fun L h => GoodL.shift (k := 32) (by omega) h
    have b1 : n / 4294967296 < 4294967296 := by omega
    simp (disch := omega) only [go_sem, ↓reduceIte, Nat.reduceEqDiff, Nat.reduceAdd, Nat.reduceMul, Nat.reduceSub, Nat.reduceLT, Nat.reduceLeDiff, Nat.reduceBEq, Nat.reduceLeDiff, reduceCtorEq, Int.reduceLT, Int.reduceEq, Int.reduceLE, Int.reduceAdd, Int.reduceSub, Int.reduceToNat, Int.reduceNeg, Int.toNat_natCast, beq_self_eq_true, wrap64, undef, Nat.zero_add, Nat.add_zero, Int.zero_add, Int.add_zero, Int.sub_zero, St.loadN_other, St.cell_other, e1]
    generalize n / 4294967296 = m at *
    refine wcond_dec (fun h2 => ?_) (fun h2 => ?_)
    · have e2 := fdivN m (min 16 64) 65536 (by decide)
      have g2 : ∀ L, GoodL (m / 65536) L → GoodL n (L + 16 + 32) := fun L h => g1 _ (GoodL.shift (k := 16) (by omega) h)
      have b2 : m / 65536 < 65536 := by omega
      simp (disch := omega) only [go_sem, ↓reduceIte, Nat.reduceEqDiff, Nat.reduceAdd, Nat.reduceMul, Nat.reduceSub, Nat.reduceLT, Nat.reduceLeDiff, Nat.reduceBEq, Nat.reduceLeDiff, reduceCtorEq, Int.reduceLT, Int.reduceEq, Int.reduceLE, Int.reduceAdd, Int.reduceSub, Int.reduceToNat, Int.reduceNeg, Int.toNat_natCast, beq_self_eq_true, wrap64, undef, Nat.zero_add, Nat.add_zero, Int.zero_add, Int.add_zero, Int.sub_zero, St.loadN_other, St.cell_other, e2]
      generalize m / 65536 = q at *
      refine wcond_dec (fun h3 => ?_) (fun h3 => ?_)
      · have e3 := fdivN q (min 8 64) 256 (by decide)
        have g3 : ∀ L, GoodL (q / 256) L → GoodL n (L + 8 + (16+32)) := fun L h => by have := g2 _ (GoodL.shift (k := 8) (by omega) h); rwa [Nat.add_assoc] at this
        have b3 : q / 256 < 256 := by omega
        simp (disch := omega) only [go_sem, ↓reduceIte, Nat.reduceEqDiff, Nat.reduceAdd, Nat.reduceMul, Nat.reduceSub, Nat.reduceLT, Nat.reduceLeDiff, Nat.reduceBEq, Nat.reduceLeDiff, reduceCtorEq, Int.reduceLT, Int.reduceEq, Int.reduceLE, Int.reduceAdd, Int.reduceSub, Int.reduceToNat, Int.reduceNeg, Int.toNat_natCast, beq_self_eq_true, wrap64, undef, Nat.zero_add, Nat.add_zero, Int.zero_add, Int.add_zero, Int.sub_zero, St.loadN_other, St.cell_other, e3]
        generalize q / 256 = p at *
        obtain ⟨t, ht, hg, hb⟩ := len8_ok ⟨p, by omega⟩
        have hw : IntKind.u8.wrap ((p : Nat) : Int) = ((p : Nat) : Int) := wrapu8 (by omega) (by omega)
        simp (disch := omega) only [go_sem, ↓reduceIte, Nat.reduceEqDiff, Nat.reduceAdd, Nat.reduceMul, Nat.reduceSub, Nat.reduceLT, Nat.reduceLeDiff, Nat.reduceBEq, Nat.reduceLeDiff, reduceCtorEq, Int.reduceLT, Int.reduceEq, Int.reduceLE, Int.reduceAdd, Int.reduceSub, Int.reduceToNat, Int.reduceNeg, Int.toNat_natCast, beq_self_eq_true, wrap64, undef, Nat.zero_add, Nat.add_zero, Int.zero_add, Int.add_zero, Int.sub_zero, St.loadN_other, St.cell_other, hw, ht, Int.natCast_nonneg, Int.toNat_natCast]
        have h := g3 _ hg
        refine ⟨_, ?_, h, by omega⟩
        congr 1
        try omega
      · simp (disch := omega) only [go_sem, ↓reduceIte, Nat.reduceEqDiff, Nat.reduceAdd, Nat.reduceMul, Nat.reduceSub, Nat.reduceLT, Nat.reduceLeDiff, Nat.reduceBEq, Nat.reduceLeDiff, reduceCtorEq, Int.reduceLT, Int.reduceEq, Int.reduceLE, Int.reduceAdd, Int.reduceSub, Int.reduceToNat, Int.reduceNeg, Int.toNat_natCast, beq_self_eq_true, wrap64, undef, Nat.zero_add, Nat.add_zero, Int.zero_add, Int.add_zero, Int.sub_zero, St.loadN_other, St.cell_other]
        have b3 : q < 256 := by omega
        obtain ⟨t, ht, hg, hb⟩ := len8_ok ⟨q, by omega⟩
        have hw : IntKind.u8.wrap ((q : Nat) : Int) = ((q : Nat) : Int) := wrapu8 (by omega) (by omega)
        simp (disch := omega) only [go_sem, ↓reduceIte, Nat.reduceEqDiff, Nat.reduceAdd, Nat.reduceMul, Nat.reduceSub, Nat.reduceLT, Nat.reduceLeDiff, Nat.reduceBEq, Nat.reduceLeDiff, reduceCtorEq, Int.reduceLT, Int.reduceEq, Int.reduceLE, Int.reduceAdd, Int.reduceSub, Int.reduceToNat, Int.reduceNeg, Int.toNat_natCast, beq_self_eq_true, wrap64, undef, Nat.zero_add, Nat.add_zero, Int.zero_add, Int.add_zero, Int.sub_zero, St.loadN_other, St.cell_other, hw, ht, Int.natCast_nonneg, Int.toNat_natCast]
        have h := g2 _ hg
        refine ⟨_, ?_, h, by omega⟩
        congr 1
        try omega
    · simp (disch := omega) only [go_sem, ↓reduceIte, Nat.reduceEqDiff, Nat.reduceAdd, Nat.reduceMul, Nat.reduceSub, Nat.reduceLT, Nat.reduceLeDiff, Nat.reduceBEq, Nat.reduceLeDiff, reduceCtorEq, Int.reduceLT, Int.reduceEq, Int.reduceLE, Int.reduceAdd, Int.reduceSub, Int.reduceToNat, Int.reduceNeg, Int.toNat_natCast, beq_self_eq_true, wrap64, undef, Nat.zero_add, Nat.add_zero, Int.zero_add, Int.add_zero, Int.sub_zero, St.loadN_other, St.cell_other]
      have g2 : ∀ L, GoodL m L → GoodL n (L + 0 + 32) := fun L h => g1 _ h
      have b2 : m < 65536 := by omega
      refine wcond_dec (fun h3 => ?_) (fun h3 => ?_)
      · have e3 := fdivN m (min 8 64) 256 (by decide)
        have g3 : ∀ L, GoodL (m / 256) L → GoodL n (L + 8 + (0+32)) := fun L h => by have := g2 _ (GoodL.shift (k := 8) (by omega) h); rwa [Nat.add_assoc] at this
        have b3 : m / 256 < 256 := by omega
        simp (disch := omega) only [go_sem, ↓reduceIte, Nat.reduceEqDiff, Nat.reduceAdd, Nat.reduceMul, Nat.reduceSub, Nat.reduceLT, Nat.reduceLeDiff, Nat.reduceBEq, Nat.reduceLeDiff, reduceCtorEq, Int.reduceLT, Int.reduceEq, Int.reduceLE, Int.reduceAdd, Int.reduceSub, Int.reduceToNat, Int.reduceNeg, Int.toNat_natCast, beq_self_eq_true, wrap64, undef, Nat.zero_add, Nat.add_zero, Int.zero_add, Int.add_zero, Int.sub_zero, St.loadN_other, St.cell_other, e3]
        generalize m / 256 = p at *
        obtain ⟨t, ht, hg, hb⟩ := len8_ok ⟨p, by omega⟩
        have hw : IntKind.u8.wrap ((p : Nat) : Int) = ((p : Nat) : Int) := wrapu8 (by omega) (by omega)
        simp (disch := omega) only [go_sem, ↓reduceIte, Nat.reduceEqDiff, Nat.reduceAdd, Nat.reduceMul, Nat.reduceSub, Nat.reduceLT, Nat.reduceLeDiff, Nat.reduceBEq, Nat.reduceLeDiff, reduceCtorEq, Int.reduceLT, Int.reduceEq, Int.reduceLE, Int.reduceAdd, Int.reduceSub, Int.reduceToNat, Int.reduceNeg, Int.toNat_natCast, beq_self_eq_true, wrap64, undef, Nat.zero_add, Nat.add_zero, Int.zero_add, Int.add_zero, Int.sub_zero, St.loadN_other, St.cell_other, hw, ht, Int.natCast_nonneg, Int.toNat_natCast]
        have h := g3 _ hg
        refine ⟨_, ?_, h, by omega⟩
        congr 1
        try omega
      · simp (disch := omega) only [go_sem, ↓reduceIte, Nat.reduceEqDiff, Nat.reduceAdd, Nat.reduceMul, Nat.reduceSub, Nat.reduceLT, Nat.reduceLeDiff, Nat.reduceBEq, Nat.reduceLeDiff, reduceCtorEq, Int.reduceLT, Int.reduceEq, Int.reduceLE, Int.reduceAdd, Int.reduceSub, Int.reduceToNat, Int.reduceNeg, Int.toNat_natCast, beq_self_eq_true, wrap64, undef, Nat.zero_add, Nat.add_zero, Int.zero_add, Int.add_zero, Int.sub_zero, St.loadN_other, St.cell_other]
        have b3 : m < 256 := by omega
        obtain ⟨t, ht, hg, hb⟩ := len8_ok ⟨m, by omega⟩
        have hw : IntKind.u8.wrap ((m : Nat) : Int) = ((m : Nat) : Int) := wrapu8 (by omega) (by omega)
        simp (disch := omega) only [go_sem, ↓reduceIte, Nat.reduceEqDiff, Nat.reduceAdd, Nat.reduceMul, Nat.reduceSub, Nat.reduceLT, Nat.reduceLeDiff, Nat.reduceBEq, Nat.reduceLeDiff, reduceCtorEq, Int.reduceLT, Int.reduceEq, Int.reduceLE, Int.reduceAdd, Int.reduceSub, Int.reduceToNat, Int.reduceNeg, Int.toNat_natCast, beq_self_eq_true, wrap64, undef, Nat.zero_add, Nat.add_zero, Int.zero_add, Int.add_zero, Int.sub_zero, St.loadN_other, St.cell_other, hw, ht, Int.natCast_nonneg, Int.toNat_natCast]
        have h := g2 _ hg
        refine ⟨_, ?_, h, by omega⟩
        congr 1
        try omega
  · simp (disch := omega) only [go_sem, ↓reduceIte, Nat.reduceEqDiff, Nat.reduceAdd, Nat.reduceMul, Nat.reduceSub, Nat.reduceLT, Nat.reduceLeDiff, Nat.reduceBEq, Nat.reduceLeDiff, reduceCtorEq, Int.reduceLT, Int.reduceEq, Int.reduceLE, Int.reduceAdd, Int.reduceSub, Int.reduceToNat, Int.reduceNeg, Int.toNat_natCast, beq_self_eq_true, wrap64, undef, Nat.zero_add, Nat.add_zero, Int.zero_add, Int.add_zero, Int.sub_zero, St.loadN_other, St.cell_other]
    have g1 : ∀ L, GoodL n L → GoodL n (L + 0) := fun L h => h
    have b1 : n < 4294967296 := by omega
    refine wcond_dec (fun h2 => ?_) (fun h2 => ?_)
    · have e2 := fdivN n (min 16 64) 65536 (by decide)
      have g2 : ∀ L, GoodL (n / 65536) L → GoodL n (L + 16 + 0) := fun L h => g1 _ (GoodL.shift (k := 16) (by omega) h)
      have b2 : n / 65536 < 65536 := by omega
      simp (disch := omega) only [go_sem, ↓reduceIte, Nat.reduceEqDiff, Nat.reduceAdd, Nat.reduceMul, Nat.reduceSub, Nat.reduceLT, Nat.reduceLeDiff, Nat.reduceBEq, Nat.reduceLeDiff, reduceCtorEq, Int.reduceLT, Int.reduceEq, Int.reduceLE, Int.reduceAdd, Int.reduceSub, Int.reduceToNat, Int.reduceNeg, Int.toNat_natCast, beq_self_eq_true, wrap64, undef, Nat.zero_add, Nat.add_zero, Int.zero_add, Int.add_zero, Int.sub_zero, St.loadN_other, St.cell_other, e2]
      generalize n / 65536 = q at *
      refine wcond_dec (fun h3 => ?_) (fun h3 => ?_)
      · have e3 := fdivN q (min 8 64) 256 (by decide)
        have g3 : ∀ L, GoodL (q / 256) L → GoodL n (L + 8 + (16+0)) := fun L h => by have := g2 _ (GoodL.shift (k := 8) (by omega) h); rwa [Nat.add_assoc] at this
        have b3 : q / 256 < 256 := by omega
        simp (disch := omega) only [go_sem, ↓reduceIte, Nat.reduceEqDiff, Nat.reduceAdd, Nat.reduceMul, Nat.reduceSub, Nat.reduceLT, Nat.reduceLeDiff, Nat.reduceBEq, Nat.reduceLeDiff, reduceCtorEq, Int.reduceLT, Int.reduceEq, Int.reduceLE, Int.reduceAdd, Int.reduceSub, Int.reduceToNat, Int.reduceNeg, Int.toNat_natCast, beq_self_eq_true, wrap64, undef, Nat.zero_add, Nat.add_zero, Int.zero_add, Int.add_zero, Int.sub_zero, St.loadN_other, St.cell_other, e3]
        generalize q / 256 = p at *
        obtain ⟨t, ht, hg, hb⟩ := len8_ok ⟨p, by omega⟩
        have hw : IntKind.u8.wrap ((p : Nat) : Int) = ((p : Nat) : Int) := wrapu8 (by omega) (by omega)
        simp (disch := omega) only [go_sem, ↓reduceIte, Nat.reduceEqDiff, Nat.reduceAdd, Nat.reduceMul, Nat.reduceSub, Nat.reduceLT, Nat.reduceLeDiff, Nat.reduceBEq, Nat.reduceLeDiff, reduceCtorEq, Int.reduceLT, Int.reduceEq, Int.reduceLE, Int.reduceAdd, Int.reduceSub, Int.reduceToNat, Int.reduceNeg, Int.toNat_natCast, beq_self_eq_true, wrap64, undef, Nat.zero_add, Nat.add_zero, Int.zero_add, Int.add_zero, Int.sub_zero, St.loadN_other, St.cell_other, hw, ht, Int.natCast_nonneg, Int.toNat_natCast]
        have h := g3 _ hg
        refine ⟨_, ?_, h, by omega⟩
        congr 1
        try omega
      · simp (disch := omega) only [go_sem, ↓reduceIte, Nat.reduceEqDiff, Nat.reduceAdd, Nat.reduceMul, Nat.reduceSub, Nat.reduceLT, Nat.reduceLeDiff, Nat.reduceBEq, Nat.reduceLeDiff, reduceCtorEq, Int.reduceLT, Int.reduceEq, Int.reduceLE, Int.reduceAdd, Int.reduceSub, Int.reduceToNat, Int.reduceNeg, Int.toNat_natCast, beq_self_eq_true, wrap64, undef, Nat.zero_add, Nat.add_zero, Int.zero_add, Int.add_zero, Int.sub_zero, St.loadN_other, St.cell_other]
        have b3 : q < 256 := by omega
        obtain ⟨t, ht, hg, hb⟩ := len8_ok ⟨q, by omega⟩
        have hw : IntKind.u8.wrap ((q : Nat) : Int) = ((q : Nat) : Int) := wrapu8 (by omega) (by omega)
        simp (disch := omega) only [go_sem, ↓reduceIte, Nat.reduceEqDiff, Nat.reduceAdd, Nat.reduceMul, Nat.reduceSub, Nat.reduceLT, Nat.reduceLeDiff, Nat.reduceBEq, Nat.reduceLeDiff, reduceCtorEq, Int.reduceLT, Int.reduceEq, Int.reduceLE, Int.reduceAdd, Int.reduceSub, Int.reduceToNat, Int.reduceNeg, Int.toNat_natCast, beq_self_eq_true, wrap64, undef, Nat.zero_add, Nat.add_zero, Int.zero_add, Int.add_zero, Int.sub_zero, St.loadN_other, St.cell_other, hw, ht, Int.natCast_nonneg, Int.toNat_natCast]
        have h := g2 _ hg
        refine ⟨_, ?_, h, by omega⟩
        congr 1
        try omega
    · simp (disch := omega) only [go_sem, ↓reduceIte, Nat.reduceEqDiff, Nat.reduceAdd, Nat.reduceMul, Nat.reduceSub, Nat.reduceLT, Nat.reduceLeDiff, Nat.reduceBEq, Nat.reduceLeDiff, reduceCtorEq, Int.reduceLT, Int.reduceEq, Int.reduceLE, Int.reduceAdd, Int.reduceSub, Int.reduceToNat, Int.reduceNeg, Int.toNat_natCast, beq_self_eq_true, wrap64, undef, Nat.zero_add, Nat.add_zero, Int.zero_add, Int.add_zero, Int.sub_zero, St.loadN_other, St.cell_other]
      have g2 : ∀ L, GoodL n L → GoodL n (L + 0 + 0) := fun L h => g1 _ h
      have b2 : n < 65536 := by omega
      refine wcond_dec (fun h3 => ?_) (fun h3 => ?_)
      · have e3 := fdivN n (min 8 64) 256 (by decide)
        have g3 : ∀ L, GoodL (n / 256) L → GoodL n (L + 8 + (0+0)) := fun L h => by have := g2 _ (GoodL.shift (k := 8) (by omega) h); rwa [Nat.add_assoc] at this
        have b3 : n / 256 < 256 := by omega
        simp (disch := omega) only [go_sem, ↓reduceIte, Nat.reduceEqDiff, Nat.reduceAdd, Nat.reduceMul, Nat.reduceSub, Nat.reduceLT, Nat.reduceLeDiff, Nat.reduceBEq, Nat.reduceLeDiff, reduceCtorEq, Int.reduceLT, Int.reduceEq, Int.reduceLE, Int.reduceAdd, Int.reduceSub, Int.reduceToNat, Int.reduceNeg, Int.toNat_natCast, beq_self_eq_true, wrap64, undef, Nat.zero_add, Nat.add_zero, Int.zero_add, Int.add_zero, Int.sub_zero, St.loadN_other, St.cell_other, e3]
        generalize n / 256 = p at *
        obtain ⟨t, ht, hg, hb⟩ := len8_ok ⟨p, by omega⟩
        have hw : IntKind.u8.wrap ((p : Nat) : Int) = ((p : Nat) : Int) := wrapu8 (by omega) (by omega)
        simp (disch := omega) only [go_sem, ↓reduceIte, Nat.reduceEqDiff, Nat.reduceAdd, Nat.reduceMul, Nat.reduceSub, Nat.reduceLT, Nat.reduceLeDiff, Nat.reduceBEq, Nat.reduceLeDiff, reduceCtorEq, Int.reduceLT, Int.reduceEq, Int.reduceLE, Int.reduceAdd, Int.reduceSub, Int.reduceToNat, Int.reduceNeg, Int.toNat_natCast, beq_self_eq_true, wrap64, undef, Nat.zero_add, Nat.add_zero, Int.zero_add, Int.add_zero, Int.sub_zero, St.loadN_other, St.cell_other, hw, ht, Int.natCast_nonneg, Int.toNat_natCast]
        have h := g3 _ hg
        refine ⟨_, ?_, h, by omega⟩
        congr 1
        try omega
      · simp (disch := omega) only [go_sem, ↓reduceIte, Nat.reduceEqDiff, Nat.reduceAdd, Nat.reduceMul, Nat.reduceSub, Nat.reduceLT, Nat.reduceLeDiff, Nat.reduceBEq, Nat.reduceLeDiff, reduceCtorEq, Int.reduceLT, Int.reduceEq, Int.reduceLE, Int.reduceAdd, Int.reduceSub, Int.reduceToNat, Int.reduceNeg, Int.toNat_natCast, beq_self_eq_true, wrap64, undef, Nat.zero_add, Nat.add_zero, Int.zero_add, Int.add_zero, Int.sub_zero, St.loadN_other, St.cell_other]
        have b3 : n < 256 := by omega
        obtain ⟨t, ht, hg, hb⟩ := len8_ok ⟨n, by omega⟩
        have hw : IntKind.u8.wrap ((n : Nat) : Int) = ((n : Nat) : Int) := wrapu8 (by omega) (by omega)
        simp (disch := omega) only [go_sem, ↓reduceIte, Nat.reduceEqDiff, Nat.reduceAdd, Nat.reduceMul, Nat.reduceSub, Nat.reduceLT, Nat.reduceLeDiff, Nat.reduceBEq, Nat.reduceLeDiff, reduceCtorEq, Int.reduceLT, Int.reduceEq, Int.reduceLE, Int.reduceAdd, Int.reduceSub, Int.reduceToNat, Int.reduceNeg, Int.toNat_natCast, beq_self_eq_true, wrap64, undef, Nat.zero_add, Nat.add_zero, Int.zero_add, Int.add_zero, Int.sub_zero, St.loadN_other, St.cell_other, hw, ht, Int.natCast_nonneg, Int.toNat_natCast]
        have h := g2 _ hg
        refine ⟨_, ?_, h, by omega⟩
        congr 1
        try omega
set_option maxRecDepth 10000 in
theorem F.bits_Len8_J {S : St} {n : Nat} (hn : n < 256) : J PR F.bits_Len8 [.int .u8 n] S fun v S' => (∃ L : Nat, v = .int .i64 L ∧ GoodL n L ∧ L ≤ 8) ∧ S = S' := by
  refine J_by PR.mixed F.bits_Len8.ok (by simp) ?_
  obtain ⟨t, ht, hg, hb⟩ := len8_ok ⟨n, hn⟩
  simp (disch := omega) only [go_sem, ↓reduceIte, Nat.reduceEqDiff, Nat.reduceAdd, Nat.reduceMul, Nat.reduceSub, Nat.reduceLT, Nat.reduceLeDiff, Nat.reduceBEq, Nat.reduceLeDiff, reduceCtorEq, Int.reduceLT, Int.reduceEq, Int.reduceLE, Int.reduceAdd, Int.reduceSub, Int.reduceToNat, Int.reduceNeg, Int.toNat_natCast, beq_self_eq_true, wrap64, undef, Nat.zero_add, Nat.add_zero, Int.zero_add, Int.add_zero, Int.sub_zero, St.loadN_other, St.cell_other, ht, Int.natCast_nonneg, Int.toNat_natCast]
  exact ⟨_, rfl, hg, hb⟩
theorem F.num_size_J {S : St} {n : Nat} (hn : n < 18446744073709551616) : J PR F.num_size [.int .u64 n] S fun v S' => v = .int .i64 (sizeN n) ∧ S = S' := by
  refine J_by PR.mixed F.num_size.ok (by simp) ?_
  simp (disch := omega) only [go_sem, ↓reduceIte, Nat.reduceEqDiff, Nat.reduceAdd, Nat.reduceMul, Nat.reduceSub, Nat.reduceLT, Nat.reduceLeDiff, Nat.reduceBEq, Nat.reduceLeDiff, reduceCtorEq, Int.reduceLT, Int.reduceEq, Int.reduceLE, Int.reduceAdd, Int.reduceSub, Int.reduceToNat, Int.reduceNeg, Int.toNat_natCast, beq_self_eq_true, wrap64, undef, Nat.zero_add, Nat.add_zero, Int.zero_add, Int.add_zero, Int.sub_zero, St.loadN_other, St.cell_other]
  refine wJ_of (F.bits_Len64_J hn) ?_; rintro _ _ ⟨⟨L, rfl, hg, hL⟩, rfl⟩
  have e : IntKind.i64.wrap (((L : Int) + 6).tdiv 7) = (((L + 6) / 7 : Nat) : Int) := by
    rw [Int.tdiv_eq_ediv_of_nonneg (by omega), wrap64 (by omega) (by omega)]
    omega
  simp (disch := omega) only [go_sem, ↓reduceIte, Nat.reduceEqDiff, Nat.reduceAdd, Nat.reduceMul, Nat.reduceSub, Nat.reduceLT, Nat.reduceLeDiff, Nat.reduceBEq, Nat.reduceLeDiff, reduceCtorEq, Int.reduceLT, Int.reduceEq, Int.reduceLE, Int.reduceAdd, Int.reduceSub, Int.reduceToNat, Int.reduceNeg, Int.toNat_natCast, beq_self_eq_true, wrap64, undef, Nat.zero_add, Nat.add_zero, Int.zero_add, Int.add_zero, Int.sub_zero, St.loadN_other, St.cell_other, e]
  have := sizeN_good hg
  congr 1
  omega
theorem F.bits_LeadingZeros8_J {S : St} {n : Nat} (hn : n < 256) : J PR F.bits_LeadingZeros8 [.int .u8 n] S fun v S' => (∃ L : Nat, v = .int .i64 (8 - (L : Int)) ∧ GoodL n L ∧ L ≤ 8) ∧ S = S' := by
  refine J_by PR.mixed F.bits_LeadingZeros8.ok (by simp) ?_
  simp (disch := omega) only [go_sem, ↓reduceIte, Nat.reduceEqDiff, Nat.reduceAdd, Nat.reduceMul, Nat.reduceSub, Nat.reduceLT, Nat.reduceLeDiff, Nat.reduceBEq, Nat.reduceLeDiff, reduceCtorEq, Int.reduceLT, Int.reduceEq, Int.reduceLE, Int.reduceAdd, Int.reduceSub, Int.reduceToNat, Int.reduceNeg, Int.toNat_natCast, beq_self_eq_true, wrap64, undef, Nat.zero_add, Nat.add_zero, Int.zero_add, Int.add_zero, Int.sub_zero, St.loadN_other, St.cell_other]
  refine wJ_of (F.bits_Len8_J hn) ?_; rintro _ _ ⟨⟨L, rfl, hg, hL⟩, rfl⟩
  simp (disch := omega) only [go_sem, ↓reduceIte, Nat.reduceEqDiff, Nat.reduceAdd, Nat.reduceMul, Nat.reduceSub, Nat.reduceLT, Nat.reduceLeDiff, Nat.reduceBEq, Nat.reduceLeDiff, reduceCtorEq, Int.reduceLT, Int.reduceEq, Int.reduceLE, Int.reduceAdd, Int.reduceSub, Int.reduceToNat, Int.reduceNeg, Int.toNat_natCast, beq_self_eq_true, wrap64, undef, Nat.zero_add, Nat.add_zero, Int.zero_add, Int.add_zero, Int.sub_zero, St.loadN_other, St.cell_other]
  exact ⟨_, rfl, hg, hL⟩
theorem F.num_head_J {S : St} {k : Nat} (h1 : 1 ≤ k) (h9 : k ≤ 9) : J PR F.num_head [.int .i64 k] S fun v S' => v = .int .u8 (headN k) ∧ S = S' := by
  refine J_by PR.mixed F.num_head.ok (by simp) ?_
  have : k = 1 ∨ k = 2 ∨ k = 3 ∨ k = 4 ∨ k = 5 ∨ k = 6 ∨ k = 7 ∨ k = 8 ∨ k = 9 := by omega
  rcases this with rfl | rfl | rfl | rfl | rfl | rfl | rfl | rfl | rfl <;> simp (disch := omega) only [go_sem, ↓reduceIte, Nat.reduceEqDiff, Nat.reduceAdd, Nat.reduceMul, Nat.reduceSub, Nat.reduceLT, Nat.reduceLeDiff, Nat.reduceBEq, Nat.reduceLeDiff, reduceCtorEq, Int.reduceLT, Int.reduceEq, Int.reduceLE, Int.reduceAdd, Int.reduceSub, Int.reduceToNat, Int.reduceNeg, Int.toNat_natCast, beq_self_eq_true, wrap64, undef, Nat.zero_add, Nat.add_zero, Int.zero_add, Int.add_zero, Int.sub_zero, St.loadN_other, St.cell_other, wrapu64, wrapu8, wrapu16, Nat.min_def, Int.reducePow, Int.reduceFDiv]
  all_goals rfl
theorem F.osierref01_Size_J {S : St} {n : Nat} (hn : n < 18446744073709551616) : J PR F.osierref01_Size [.int .u64 n] S fun v S' => v = .int .i64 (sizeN n) ∧ S = S' := by
  refine J_by PR.mixed F.osierref01_Size.ok (by simp) ?_
  simp (disch := omega) only [go_sem, ↓reduceIte, Nat.reduceEqDiff, Nat.reduceAdd, Nat.reduceMul, Nat.reduceSub, Nat.reduceLT, Nat.reduceLeDiff, Nat.reduceBEq, Nat.reduceLeDiff, reduceCtorEq, Int.reduceLT, Int.reduceEq, Int.reduceLE, Int.reduceAdd, Int.reduceSub, Int.reduceToNat, Int.reduceNeg, Int.toNat_natCast, beq_self_eq_true, wrap64, undef, Nat.zero_add, Nat.add_zero, Int.zero_add, Int.add_zero, Int.sub_zero, St.loadN_other, St.cell_other]
  refine wcond_dec (fun h => ?_) (fun h => ?_)
  · simp (disch := omega) only [go_sem, ↓reduceIte, Nat.reduceEqDiff, Nat.reduceAdd, Nat.reduceMul, Nat.reduceSub, Nat.reduceLT, Nat.reduceLeDiff, Nat.reduceBEq, Nat.reduceLeDiff, reduceCtorEq, Int.reduceLT, Int.reduceEq, Int.reduceLE, Int.reduceAdd, Int.reduceSub, Int.reduceToNat, Int.reduceNeg, Int.toNat_natCast, beq_self_eq_true, wrap64, undef, Nat.zero_add, Nat.add_zero, Int.zero_add, Int.add_zero, Int.sub_zero, St.loadN_other, St.cell_other]
    rw [sizeN, if_pos (by omega)]
    rfl
  simp (disch := omega) only [go_sem, ↓reduceIte, Nat.reduceEqDiff, Nat.reduceAdd, Nat.reduceMul, Nat.reduceSub, Nat.reduceLT, Nat.reduceLeDiff, Nat.reduceBEq, Nat.reduceLeDiff, reduceCtorEq, Int.reduceLT, Int.reduceEq, Int.reduceLE, Int.reduceAdd, Int.reduceSub, Int.reduceToNat, Int.reduceNeg, Int.toNat_natCast, beq_self_eq_true, wrap64, undef, Nat.zero_add, Nat.add_zero, Int.zero_add, Int.add_zero, Int.sub_zero, St.loadN_other, St.cell_other]
  refine wC_loop (fun m fr S' => ∃ k p : Nat, p = 2 ^ (7 * (k - 1)) ∧ m = 9 - k ∧ 2 ≤ k ∧ k ≤ 9 ∧ S = S' ∧ fr 0 = .int .u64 n ∧ fr 3 = .int .u64 p ∧ fr 4 = .int .i64 k ∧ p ≤ n) 7 ⟨2, 128, rfl, by simp (disch := omega) only [go_sem, ↓reduceIte, Nat.reduceEqDiff, Nat.reduceAdd, Nat.reduceMul, Nat.reduceSub, Nat.reduceLT, Nat.reduceLeDiff, Nat.reduceBEq, Nat.reduceLeDiff, reduceCtorEq, Int.reduceLT, Int.reduceEq, Int.reduceLE, Int.reduceAdd, Int.reduceSub, Int.reduceToNat, Int.reduceNeg, Int.toNat_natCast, beq_self_eq_true, wrap64, undef, Nat.zero_add, Nat.add_zero, Int.zero_add, Int.add_zero, Int.sub_zero, St.loadN_other, St.cell_other]; omega⟩ ?_
  rintro m fr S' ⟨k, p, hp, rfl, h2, h9, rfl, h0, h3, h4, hlo⟩
  have hlt : 2 ^ (7 * (k - 1)) ≤ 2 ^ 56 := Nat.pow_le_pow_right (by decide) (by omega)
  have hq : 2 ^ (7 * k) = p * 128 := by
    rw [hp, show (128 : Nat) = 2 ^ 7 from rfl, ← Nat.pow_add]
    congr 1
    omega
  rw [← hp] at hlt
  simp (disch := omega) only [go_sem, ↓reduceIte, Nat.reduceEqDiff, Nat.reduceAdd, Nat.reduceMul, Nat.reduceSub, Nat.reduceLT, Nat.reduceLeDiff, Nat.reduceBEq, Nat.reduceLeDiff, reduceCtorEq, Int.reduceLT, Int.reduceEq, Int.reduceLE, Int.reduceAdd, Int.reduceSub, Int.reduceToNat, Int.reduceNeg, Int.toNat_natCast, beq_self_eq_true, wrap64, undef, Nat.zero_add, Nat.add_zero, Int.zero_add, Int.add_zero, Int.sub_zero, St.loadN_other, St.cell_other, F.osierref01_Size.l0, h0, h3, h4]
  refine wcond_dec (fun h8 => ?_) (fun h8 => ?_)
  · have hlt2 : 2 ^ (7 * k) ≤ 2 ^ 56 := Nat.pow_le_pow_right (by decide) (by omega)
    rw [hq] at hlt2
    simp (disch := omega) only [go_sem, ↓reduceIte, Nat.reduceEqDiff, Nat.reduceAdd, Nat.reduceMul, Nat.reduceSub, Nat.reduceLT, Nat.reduceLeDiff, Nat.reduceBEq, Nat.reduceLeDiff, reduceCtorEq, Int.reduceLT, Int.reduceEq, Int.reduceLE, Int.reduceAdd, Int.reduceSub, Int.reduceToNat, Int.reduceNeg, Int.toNat_natCast, beq_self_eq_true, wrap64, undef, Nat.zero_add, Nat.add_zero, Int.zero_add, Int.add_zero, Int.sub_zero, St.loadN_other, St.cell_other, h0, h3, h4, wrapu64]
    refine wcond_dec (fun hc => ?_) (fun hc => ?_)
    · simp (disch := omega) only [go_sem, ↓reduceIte, Nat.reduceEqDiff, Nat.reduceAdd, Nat.reduceMul, Nat.reduceSub, Nat.reduceLT, Nat.reduceLeDiff, Nat.reduceBEq, Nat.reduceLeDiff, reduceCtorEq, Int.reduceLT, Int.reduceEq, Int.reduceLE, Int.reduceAdd, Int.reduceSub, Int.reduceToNat, Int.reduceNeg, Int.toNat_natCast, beq_self_eq_true, wrap64, undef, Nat.zero_add, Nat.add_zero, Int.zero_add, Int.add_zero, Int.sub_zero, St.loadN_other, St.cell_other, h4]
      rw [sizeN_of (k := k) (by omega) (by omega) (fun _ => by rw [← hp]; exact hlo) (fun _ => by rw [hq]; omega)]
    · simp (disch := omega) only [go_sem, ↓reduceIte, Nat.reduceEqDiff, Nat.reduceAdd, Nat.reduceMul, Nat.reduceSub, Nat.reduceLT, Nat.reduceLeDiff, Nat.reduceBEq, Nat.reduceLeDiff, reduceCtorEq, Int.reduceLT, Int.reduceEq, Int.reduceLE, Int.reduceAdd, Int.reduceSub, Int.reduceToNat, Int.reduceNeg, Int.toNat_natCast, beq_self_eq_true, wrap64, undef, Nat.zero_add, Nat.add_zero, Int.zero_add, Int.add_zero, Int.sub_zero, St.loadN_other, St.cell_other, h0, h4]
      refine ⟨9 - (k + 1), by omega, k + 1, p * 128, ?_, by omega, by omega, by omega, rfl, rfl, by omega⟩
      rw [Nat.add_sub_cancel, hq]
  · simp (disch := omega) only [go_sem, ↓reduceIte, Nat.reduceEqDiff, Nat.reduceAdd, Nat.reduceMul, Nat.reduceSub, Nat.reduceLT, Nat.reduceLeDiff, Nat.reduceBEq, Nat.reduceLeDiff, reduceCtorEq, Int.reduceLT, Int.reduceEq, Int.reduceLE, Int.reduceAdd, Int.reduceSub, Int.reduceToNat, Int.reduceNeg, Int.toNat_natCast, beq_self_eq_true, wrap64, undef, Nat.zero_add, Nat.add_zero, Int.zero_add, Int.add_zero, Int.sub_zero, St.loadN_other, St.cell_other]
    have hk : k = 9 := by omega
    subst hk
    rw [sizeN_of (k := 9) (by omega) (by omega) (fun _ => by rw [← hp]; exact hlo) (fun _ => by omega)]
    rfl
end Go.Osj
