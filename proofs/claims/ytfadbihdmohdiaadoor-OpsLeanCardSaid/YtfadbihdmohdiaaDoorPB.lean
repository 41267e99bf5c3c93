/- Contracts carried over from the layers below. -/
import Derived.Test.YtfadbihdmohdiaaDoorPA
import Derived.Laws.BitsAllLaws
import Derived.Laws.Bits64b
import Derived.Test.YtfadbihdmohdiaaDoorC1
import Derived.Test.YtfadbihdmohdiaaDoorC2
set_option linter.unusedVariables false
/- Plain facts about numbers as bytes. -/
namespace Go.Osj
/-- the bit length of a number -/
def GoodL (n L : Nat) : Prop := (n = 0 ∧ L = 0) ∨ (1 ≤ L ∧ 2 ^ (L - 1) ≤ n ∧ n < 2 ^ L)
theorem GoodL.shift {n L k : Nat} (hn : 2 ^ k ≤ n) (h : GoodL (n / 2 ^ k) L) : GoodL n (L + k) := by
  have hp : 0 < 2 ^ k := Nat.two_pow_pos k
  rcases h with ⟨h1, -⟩ | ⟨h1, h2, h3⟩
  · rw [Nat.div_eq_zero_iff] at h1
    omega
  · refine .inr ⟨by omega, ?_, ?_⟩
    · rw [Nat.le_div_iff_mul_le hp, ← Nat.pow_add] at h2
      rw [show L + k - 1 = L - 1 + k by omega]
      exact h2
    · rw [Nat.div_lt_iff_lt_mul hp, ← Nat.pow_add] at h3
      exact h3
/-- how many bytes a number has -/
def sizeN (n : Nat) : Nat := if n < 128 then 1 else if n < 16384 then 2 else if n < 2097152 then 3 else if n < 268435456 then 4 else if n < 34359738368 then 5 else if n < 4398046511104 then 6 else if n < 562949953421312 then 7 else if n < 72057594037927936 then 8 else 9
theorem sizeN_range (n : Nat) : 1 ≤ sizeN n ∧ sizeN n ≤ 9 := by unfold sizeN; repeat' split
                                                                all_goals omega
theorem sizeN_of {n k : Nat} (h1 : 1 ≤ k) (h9 : k ≤ 9) (hlo : 2 ≤ k → 2 ^ (7 * (k - 1)) ≤ n) (hhi : k ≤ 8 → n < 2 ^ (7 * k)) : sizeN n = k := by
  have : k = 1 ∨ k = 2 ∨ k = 3 ∨ k = 4 ∨ k = 5 ∨ k = 6 ∨ k = 7 ∨ k = 8 ∨ k = 9 := by omega
  rcases this with rfl | rfl | rfl | rfl | rfl | rfl | rfl | rfl | rfl <;> simp at hlo hhi <;> unfold sizeN <;> repeat' split
  all_goals omega
theorem sizeN_lo {n : Nat} (h : 2 ≤ sizeN n) : 2 ^ (7 * (sizeN n - 1)) ≤ n := by
  unfold sizeN at *
  repeat' split at h
  all_goals first | omega | skip
  all_goals (simp only [*, if_true, if_false]; try omega)
theorem sizeN_hi {n : Nat} (h : sizeN n ≤ 8) : n < 2 ^ (7 * sizeN n) := by
  unfold sizeN at *
  repeat' split at h
  all_goals first | omega | skip
  all_goals (simp only [*, if_true, if_false]; try omega)
theorem sizeN_good {n L : Nat} (h : GoodL n L) : min (max ((L + 6) / 7) 1) 9 = sizeN n := by
  refine (sizeN_of (by omega) (by omega) (fun hk => ?_) (fun hk => ?_)).symm
  · rcases h with ⟨h1, h2⟩ | ⟨h1, h2, h3⟩
    · omega
    · refine Nat.le_trans (Nat.pow_le_pow_right (by decide) ?_) h2
      omega
  · rcases h with ⟨h1, h2⟩ | ⟨h1, h2, h3⟩
    · subst h1; exact Nat.two_pow_pos _
    · refine Nat.lt_of_lt_of_le h3 (Nat.pow_le_pow_right (by decide) ?_)
      omega
/-- the bits that tell the length -/
def headN (k : Nat) : Nat := 256 - 2 ^ (9 - k)
/-- the last k bytes of a number, the greatest first -/
def beN (n : Nat) : Nat → List Int
  | 0 => []
  | k + 1 => beN (n / 256) k ++ [((n % 256 : Nat) : Int)]
theorem beN_len (n k : Nat) : (beN n k).length = k := by
  induction k generalizing n with
  | zero => rfl
  | succ k ih => simp [beN, ih]
theorem beN_get (n : Nat) : ∀ (k i : Nat) (h : i < (beN n k).length), (beN n k)[i] = ((n / 256 ^ (k - 1 - i) % 256 : Nat) : Int) := by
  intro k
  induction k generalizing n with
  | zero => intro i h; simp [beN] at h
  | succ k ih =>
    intro i h
    rw [beN_len] at h
    simp only [beN]
    rw [List.getElem_append]
    split
    · rename_i hi
      rw [beN_len] at hi
      rw [ih]
      rw [Nat.div_div_eq_div_mul, ← Nat.pow_succ']
      congr 4
      omega
    · rename_i hi
      rw [beN_len] at hi
      have : i = k := by omega
      subst this
      simp
def encN (n : Nat) : List Int := (beN n (sizeN n)).modify 0 fun b => b + headN (sizeN n)
theorem encN_len (n : Nat) : (encN n).length = sizeN n := by simp [encN, beN_len]
/-- a number with a sign, as one without -/
def zzN (a : Int) : Nat := if 0 ≤ a then (2 * a).toNat else (2 * (-(a + 1)) + 1).toNat
def unzz (n : Nat) : Int := if n % 2 = 0 then (n / 2 : Nat) else -((n / 2 : Nat) : Int) - 1
theorem unzz_zz (a : Int) : unzz (zzN a) = a := by unfold unzz zzN; repeat' split
                                                   all_goals omega
def encI (a : Int) : List Int := encN (zzN a)
end Go.Osj

/- Contracts of layer 1: numbers as bytes. -/
set_option linter.unusedSimpArgs false
namespace Go.Osj
instance (n L : Nat) : Decidable (GoodL n L) := inferInstanceAs (Decidable (_ ∨ _))
theorem len8_ok : ∀ x : Fin 256, ∃ t, Go.Lib.len8tab[x.val]? = some t ∧ GoodL x.val t.toNat ∧ t.toNat ≤ 8 := by
  have : ∀ x : Fin 256, ((Go.Lib.len8tab[x.val]?).any fun t => decide (GoodL x.val t.toNat ∧ t.toNat ≤ 8)) = true := by decide +kernel
  intro x
  have h := this x
  cases hq : Go.Lib.len8tab[x.val]? with
  | none => simp [hq] at h
  | some t =>
    simp only [hq, Option.any_some, decide_eq_true_eq] at h
    exact ⟨t, rfl, h⟩
theorem wrapu8 {n : Int} (h1 : 0 ≤ n) (h2 : n < 256) : IntKind.u8.wrap n = n := by simp [IntKind.wrap, IntKind.bits, IntKind.signed]; omega
theorem wrapu16 {n : Int} (h1 : 0 ≤ n) (h2 : n < 65536) : IntKind.u16.wrap n = n := by simp [IntKind.wrap, IntKind.bits, IntKind.signed]; omega
theorem wrapu64 {n : Int} (h1 : 0 ≤ n) (h2 : n < 18446744073709551616) : IntKind.u64.wrap n = n := by simp [IntKind.wrap, IntKind.bits, IntKind.signed]; omega
theorem fdivN (n k m : Nat) (h : 2 ^ k = m) : ((n : Nat) : Int).fdiv (2 ^ k) = ((n / m : Nat) : Int) := by
  subst h
  rw [Int.fdiv_eq_ediv_of_nonneg _ (Int.pow_nonneg (by decide))]
  simp
set_option maxRecDepth 10000 in
theorem F.bits_Len64_J {S : St} {n : Nat} (hn : n < 18446744073709551616) : J PR F.bits_Len64 [.int .u64 n] S fun v S' => (∃ L : Nat, v = .int .i64 L ∧ GoodL n L ∧ L ≤ 64) ∧ S = S' := by
  refine J_by PR.mixed F.bits_Len64.ok (by simp) ?_
  simp (disch := omega) only [go_sem, ↓reduceIte, Nat.reduceEqDiff, Nat.reduceAdd, Nat.reduceMul, Nat.reduceSub, Nat.reduceLT, Nat.reduceLeDiff, Nat.reduceBEq, reduceCtorEq, Int.reduceLT, Int.reduceEq, Int.reduceLE, Int.reduceAdd, Int.reduceSub, Int.reduceToNat, Int.reduceNeg]
  refine wcond_dec (fun h1 => ?_) (fun h1 => ?_)
  · have e1 := fdivN n (min 32 64) 4294967296 (by decide)
    have g1 : ∀ L, GoodL (n / 4294967296) L → GoodL n (L + 32) := fun L h => GoodL.shift (k := 32) (by omega) h
    have b1 : n / 4294967296 < 4294967296 := by omega
    simp (disch := omega) only [go_sem, ↓reduceIte, Nat.reduceEqDiff, Nat.reduceAdd, Nat.reduceMul, Nat.reduceSub, Nat.reduceLT, Nat.reduceLeDiff, Nat.reduceBEq, reduceCtorEq, Int.reduceLT, Int.reduceEq, Int.reduceLE, Int.reduceAdd, Int.reduceSub, Int.reduceToNat, Int.reduceNeg, e1]
    generalize n / 4294967296 = m at *
    refine wcond_dec (fun h2 => ?_) (fun h2 => ?_)
    · have e2 := fdivN m (min 16 64) 65536 (by decide)
      have g2 : ∀ L, GoodL (m / 65536) L → GoodL n (L + 16 + 32) := fun L h => g1 _ (GoodL.shift (k := 16) (by omega) h)
      have b2 : m / 65536 < 65536 := by omega
      simp (disch := omega) only [go_sem, ↓reduceIte, Nat.reduceEqDiff, Nat.reduceAdd, Nat.reduceMul, Nat.reduceSub, Nat.reduceLT, Nat.reduceLeDiff, Nat.reduceBEq, reduceCtorEq, Int.reduceLT, Int.reduceEq, Int.reduceLE, Int.reduceAdd, Int.reduceSub, Int.reduceToNat, Int.reduceNeg, e2]
      generalize m / 65536 = q at *
      refine wcond_dec (fun h3 => ?_) (fun h3 => ?_)
      · have e3 := fdivN q (min 8 64) 256 (by decide)
        have g3 : ∀ L, GoodL (q / 256) L → GoodL n (L + 8 + (16+32)) := fun L h => by have := g2 _ (GoodL.shift (k := 8) (by omega) h); rwa [Nat.add_assoc] at this
        have b3 : q / 256 < 256 := by omega
        simp (disch := omega) only [go_sem, ↓reduceIte, Nat.reduceEqDiff, Nat.reduceAdd, Nat.reduceMul, Nat.reduceSub, Nat.reduceLT, Nat.reduceLeDiff, Nat.reduceBEq, reduceCtorEq, Int.reduceLT, Int.reduceEq, Int.reduceLE, Int.reduceAdd, Int.reduceSub, Int.reduceToNat, Int.reduceNeg, e3]
        generalize q / 256 = p at *
        obtain ⟨t, ht, hg, hb⟩ := len8_ok ⟨p, by omega⟩
        have hw : IntKind.u8.wrap ((p : Nat) : Int) = ((p : Nat) : Int) := wrapu8 (by omega) (by omega)
        simp (disch := omega) only [go_sem, ↓reduceIte, Nat.reduceEqDiff, Nat.reduceAdd, Nat.reduceMul, Nat.reduceSub, Nat.reduceLT, Nat.reduceLeDiff, Nat.reduceBEq, reduceCtorEq, Int.reduceLT, Int.reduceEq, Int.reduceLE, Int.reduceAdd, Int.reduceSub, Int.reduceToNat, Int.reduceNeg, hw, ht, Int.natCast_nonneg, Int.toNat_natCast]
        have h := g3 _ hg
        refine ⟨_, ?_, h, by omega⟩
        congr 1
        try omega
      · simp (disch := omega) only [go_sem, ↓reduceIte, Nat.reduceEqDiff, Nat.reduceAdd, Nat.reduceMul, Nat.reduceSub, Nat.reduceLT, Nat.reduceLeDiff, Nat.reduceBEq, reduceCtorEq, Int.reduceLT, Int.reduceEq, Int.reduceLE, Int.reduceAdd, Int.reduceSub, Int.reduceToNat, Int.reduceNeg]
        have b3 : q < 256 := by omega
        obtain ⟨t, ht, hg, hb⟩ := len8_ok ⟨q, by omega⟩
        have hw : IntKind.u8.wrap ((q : Nat) : Int) = ((q : Nat) : Int) := wrapu8 (by omega) (by omega)
        simp (disch := omega) only [go_sem, ↓reduceIte, Nat.reduceEqDiff, Nat.reduceAdd, Nat.reduceMul, Nat.reduceSub, Nat.reduceLT, Nat.reduceLeDiff, Nat.reduceBEq, reduceCtorEq, Int.reduceLT, Int.reduceEq, Int.reduceLE, Int.reduceAdd, Int.reduceSub, Int.reduceToNat, Int.reduceNeg, hw, ht, Int.natCast_nonneg, Int.toNat_natCast]
        have h := g2 _ hg
        refine ⟨_, ?_, h, by omega⟩
        congr 1
        try omega
    · simp (disch := omega) only [go_sem, ↓reduceIte, Nat.reduceEqDiff, Nat.reduceAdd, Nat.reduceMul, Nat.reduceSub, Nat.reduceLT, Nat.reduceLeDiff, Nat.reduceBEq, reduceCtorEq, Int.reduceLT, Int.reduceEq, Int.reduceLE, Int.reduceAdd, Int.reduceSub, Int.reduceToNat, Int.reduceNeg]
      have g2 : ∀ L, GoodL m L → GoodL n (L + 0 + 32) := fun L h => g1 _ h
      have b2 : m < 65536 := by omega
      refine wcond_dec (fun h3 => ?_) (fun h3 => ?_)
      · have e3 := fdivN m (min 8 64) 256 (by decide)
        have g3 : ∀ L, GoodL (m / 256) L → GoodL n (L + 8 + (0+32)) := fun L h => by have := g2 _ (GoodL.shift (k := 8) (by omega) h); rwa [Nat.add_assoc] at this
        have b3 : m / 256 < 256 := by omega
        simp (disch := omega) only [go_sem, ↓reduceIte, Nat.reduceEqDiff, Nat.reduceAdd, Nat.reduceMul, Nat.reduceSub, Nat.reduceLT, Nat.reduceLeDiff, Nat.reduceBEq, reduceCtorEq, Int.reduceLT, Int.reduceEq, Int.reduceLE, Int.reduceAdd, Int.reduceSub, Int.reduceToNat, Int.reduceNeg, e3]
        generalize m / 256 = p at *
        obtain ⟨t, ht, hg, hb⟩ := len8_ok ⟨p, by omega⟩
        have hw : IntKind.u8.wrap ((p : Nat) : Int) = ((p : Nat) : Int) := wrapu8 (by omega) (by omega)
        simp (disch := omega) only [go_sem, ↓reduceIte, Nat.reduceEqDiff, Nat.reduceAdd, Nat.reduceMul, Nat.reduceSub, Nat.reduceLT, Nat.reduceLeDiff, Nat.reduceBEq, reduceCtorEq, Int.reduceLT, Int.reduceEq, Int.reduceLE, Int.reduceAdd, Int.reduceSub, Int.reduceToNat, Int.reduceNeg, hw, ht, Int.natCast_nonneg, Int.toNat_natCast]
        have h := g3 _ hg
        refine ⟨_, ?_, h, by omega⟩
        congr 1
        try omega
      · simp (disch := omega) only [go_sem, ↓reduceIte, Nat.reduceEqDiff, Nat.reduceAdd, Nat.reduceMul, Nat.reduceSub, Nat.reduceLT, Nat.reduceLeDiff, Nat.reduceBEq, reduceCtorEq, Int.reduceLT, Int.reduceEq, Int.reduceLE, Int.reduceAdd, Int.reduceSub, Int.reduceToNat, Int.reduceNeg]
        have b3 : m < 256 := by omega
        obtain ⟨t, ht, hg, hb⟩ := len8_ok ⟨m, by omega⟩
        have hw : IntKind.u8.wrap ((m : Nat) : Int) = ((m : Nat) : Int) := wrapu8 (by omega) (by omega)
        simp (disch := omega) only [go_sem, ↓reduceIte, Nat.reduceEqDiff, Nat.reduceAdd, Nat.reduceMul, Nat.reduceSub, Nat.reduceLT, Nat.reduceLeDiff, Nat.reduceBEq, reduceCtorEq, Int.reduceLT, Int.reduceEq, Int.reduceLE, Int.reduceAdd, Int.reduceSub, Int.reduceToNat, Int.reduceNeg, hw, ht, Int.natCast_nonneg, Int.toNat_natCast]
        have h := g2 _ hg
        refine ⟨_, ?_, h, by omega⟩
        congr 1
        try omega
  · simp (disch := omega) only [go_sem, ↓reduceIte, Nat.reduceEqDiff, Nat.reduceAdd, Nat.reduceMul, Nat.reduceSub, Nat.reduceLT, Nat.reduceLeDiff, Nat.reduceBEq, reduceCtorEq, Int.reduceLT, Int.reduceEq, Int.reduceLE, Int.reduceAdd, Int.reduceSub, Int.reduceToNat, Int.reduceNeg]
    have g1 : ∀ L, GoodL n L → GoodL n (L + 0) := fun L h => h
    have b1 : n < 4294967296 := by omega
    refine wcond_dec (fun h2 => ?_) (fun h2 => ?_)
    · have e2 := fdivN n (min 16 64) 65536 (by decide)
      have g2 : ∀ L, GoodL (n / 65536) L → GoodL n (L + 16 + 0) := fun L h => g1 _ (GoodL.shift (k := 16) (by omega) h)
      have b2 : n / 65536 < 65536 := by omega
      simp (disch := omega) only [go_sem, ↓reduceIte, Nat.reduceEqDiff, Nat.reduceAdd, Nat.reduceMul, Nat.reduceSub, Nat.reduceLT, Nat.reduceLeDiff, Nat.reduceBEq, reduceCtorEq, Int.reduceLT, Int.reduceEq, Int.reduceLE, Int.reduceAdd, Int.reduceSub, Int.reduceToNat, Int.reduceNeg, e2]
      generalize n / 65536 = q at *
      refine wcond_dec (fun h3 => ?_) (fun h3 => ?_)
      · have e3 := fdivN q (min 8 64) 256 (by decide)
        have g3 : ∀ L, GoodL (q / 256) L → GoodL n (L + 8 + (16+0)) := fun L h => by have := g2 _ (GoodL.shift (k := 8) (by omega) h); rwa [Nat.add_assoc] at this
        have b3 : q / 256 < 256 := by omega
        simp (disch := omega) only [go_sem, ↓reduceIte, Nat.reduceEqDiff, Nat.reduceAdd, Nat.reduceMul, Nat.reduceSub, Nat.reduceLT, Nat.reduceLeDiff, Nat.reduceBEq, reduceCtorEq, Int.reduceLT, Int.reduceEq, Int.reduceLE, Int.reduceAdd, Int.reduceSub, Int.reduceToNat, Int.reduceNeg, e3]
        generalize q / 256 = p at *
        obtain ⟨t, ht, hg, hb⟩ := len8_ok ⟨p, by omega⟩
        have hw : IntKind.u8.wrap ((p : Nat) : Int) = ((p : Nat) : Int) := wrapu8 (by omega) (by omega)
        simp (disch := omega) only [go_sem, ↓reduceIte, Nat.reduceEqDiff, Nat.reduceAdd, Nat.reduceMul, Nat.reduceSub, Nat.reduceLT, Nat.reduceLeDiff, Nat.reduceBEq, reduceCtorEq, Int.reduceLT, Int.reduceEq, Int.reduceLE, Int.reduceAdd, Int.reduceSub, Int.reduceToNat, Int.reduceNeg, hw, ht, Int.natCast_nonneg, Int.toNat_natCast]
        have h := g3 _ hg
        refine ⟨_, ?_, h, by omega⟩
        congr 1
        try omega
      · simp (disch := omega) only [go_sem, ↓reduceIte, Nat.reduceEqDiff, Nat.reduceAdd, Nat.reduceMul, Nat.reduceSub, Nat.reduceLT, Nat.reduceLeDiff, Nat.reduceBEq, reduceCtorEq, Int.reduceLT, Int.reduceEq, Int.reduceLE, Int.reduceAdd, Int.reduceSub, Int.reduceToNat, Int.reduceNeg]
        have b3 : q < 256 := by omega
        obtain ⟨t, ht, hg, hb⟩ := len8_ok ⟨q, by omega⟩
        have hw : IntKind.u8.wrap ((q : Nat) : Int) = ((q : Nat) : Int) := wrapu8 (by omega) (by omega)
        simp (disch := omega) only [go_sem, ↓reduceIte, Nat.reduceEqDiff, Nat.reduceAdd, Nat.reduceMul, Nat.reduceSub, Nat.reduceLT, Nat.reduceLeDiff, Nat.reduceBEq, reduceCtorEq, Int.reduceLT, Int.reduceEq, Int.reduceLE, Int.reduceAdd, Int.reduceSub, Int.reduceToNat, Int.reduceNeg, hw, ht, Int.natCast_nonneg, Int.toNat_natCast]
        have h := g2 _ hg
        refine ⟨_, ?_, h, by omega⟩
        congr 1
        try omega
    · simp (disch := omega) only [go_sem, ↓reduceIte, Nat.reduceEqDiff, Nat.reduceAdd, Nat.reduceMul, Nat.reduceSub, Nat.reduceLT, Nat.reduceLeDiff, Nat.reduceBEq, reduceCtorEq, Int.reduceLT, Int.reduceEq, Int.reduceLE, Int.reduceAdd, Int.reduceSub, Int.reduceToNat, Int.reduceNeg]
      have g2 : ∀ L, GoodL n L → GoodL n (L + 0 + 0) := fun L h => g1 _ h
      have b2 : n < 65536 := by omega
      refine wcond_dec (fun h3 => ?_) (fun h3 => ?_)
      · have e3 := fdivN n (min 8 64) 256 (by decide)
        have g3 : ∀ L, GoodL (n / 256) L → GoodL n (L + 8 + (0+0)) := fun L h => by have := g2 _ (GoodL.shift (k := 8) (by omega) h); rwa [Nat.add_assoc] at this
        have b3 : n / 256 < 256 := by omega
        simp (disch := omega) only [go_sem, ↓reduceIte, Nat.reduceEqDiff, Nat.reduceAdd, Nat.reduceMul, Nat.reduceSub, Nat.reduceLT, Nat.reduceLeDiff, Nat.reduceBEq, reduceCtorEq, Int.reduceLT, Int.reduceEq, Int.reduceLE, Int.reduceAdd, Int.reduceSub, Int.reduceToNat, Int.reduceNeg, e3]
        generalize n / 256 = p at *
        obtain ⟨t, ht, hg, hb⟩ := len8_ok ⟨p, by omega⟩
        have hw : IntKind.u8.wrap ((p : Nat) : Int) = ((p : Nat) : Int) := wrapu8 (by omega) (by omega)
        simp (disch := omega) only [go_sem, ↓reduceIte, Nat.reduceEqDiff, Nat.reduceAdd, Nat.reduceMul, Nat.reduceSub, Nat.reduceLT, Nat.reduceLeDiff, Nat.reduceBEq, reduceCtorEq, Int.reduceLT, Int.reduceEq, Int.reduceLE, Int.reduceAdd, Int.reduceSub, Int.reduceToNat, Int.reduceNeg, hw, ht, Int.natCast_nonneg, Int.toNat_natCast]
        have h := g3 _ hg
        refine ⟨_, ?_, h, by omega⟩
        congr 1
        try omega
      · simp (disch := omega) only [go_sem, ↓reduceIte, Nat.reduceEqDiff, Nat.reduceAdd, Nat.reduceMul, Nat.reduceSub, Nat.reduceLT, Nat.reduceLeDiff, Nat.reduceBEq, reduceCtorEq, Int.reduceLT, Int.reduceEq, Int.reduceLE, Int.reduceAdd, Int.reduceSub, Int.reduceToNat, Int.reduceNeg]
        have b3 : n < 256 := by omega
        obtain ⟨t, ht, hg, hb⟩ := len8_ok ⟨n, by omega⟩
        have hw : IntKind.u8.wrap ((n : Nat) : Int) = ((n : Nat) : Int) := wrapu8 (by omega) (by omega)
        simp (disch := omega) only [go_sem, ↓reduceIte, Nat.reduceEqDiff, Nat.reduceAdd, Nat.reduceMul, Nat.reduceSub, Nat.reduceLT, Nat.reduceLeDiff, Nat.reduceBEq, reduceCtorEq, Int.reduceLT, Int.reduceEq, Int.reduceLE, Int.reduceAdd, Int.reduceSub, Int.reduceToNat, Int.reduceNeg, hw, ht, Int.natCast_nonneg, Int.toNat_natCast]
        have h := g2 _ hg
        refine ⟨_, ?_, h, by omega⟩
        congr 1
        try omega
set_option maxRecDepth 10000 in
theorem F.bits_Len8_J {S : St} {n : Nat} (hn : n < 256) : J PR F.bits_Len8 [.int .u8 n] S fun v S' => (∃ L : Nat, v = .int .i64 L ∧ GoodL n L ∧ L ≤ 8) ∧ S = S' := by
  refine J_by PR.mixed F.bits_Len8.ok (by simp) ?_
  obtain ⟨t, ht, hg, hb⟩ := len8_ok ⟨n, hn⟩
  simp (disch := omega) only [go_sem, ↓reduceIte, Nat.reduceEqDiff, Nat.reduceAdd, Nat.reduceMul, Nat.reduceSub, Nat.reduceLT, Nat.reduceLeDiff, Nat.reduceBEq, reduceCtorEq, Int.reduceLT, Int.reduceEq, Int.reduceLE, Int.reduceAdd, Int.reduceSub, Int.reduceToNat, Int.reduceNeg, ht, Int.natCast_nonneg, Int.toNat_natCast]
  exact ⟨_, rfl, hg, hb⟩
theorem F.num_size_J {S : St} {n : Nat} (hn : n < 18446744073709551616) : J PR F.num_size [.int .u64 n] S fun v S' => v = .int .i64 (sizeN n) ∧ S = S' := by
  refine J_by PR.mixed F.num_size.ok (by simp) ?_
  simp (disch := omega) only [go_sem, ↓reduceIte, Nat.reduceEqDiff, Nat.reduceAdd, Nat.reduceMul, Nat.reduceSub, Nat.reduceLT, Nat.reduceLeDiff, Nat.reduceBEq, reduceCtorEq, Int.reduceLT, Int.reduceEq, Int.reduceLE, Int.reduceAdd, Int.reduceSub, Int.reduceToNat, Int.reduceNeg]
  refine wJ_of (F.bits_Len64_J hn) ?_; rintro _ _ ⟨⟨L, rfl, hg, hL⟩, rfl⟩
  have e : IntKind.i64.wrap (((L : Int) + 6).tdiv 7) = (((L + 6) / 7 : Nat) : Int) := by
    rw [Int.tdiv_eq_ediv_of_nonneg (by omega), wrap64 (by omega) (by omega)]
    omega
  simp (disch := omega) only [go_sem, ↓reduceIte, Nat.reduceEqDiff, Nat.reduceAdd, Nat.reduceMul, Nat.reduceSub, Nat.reduceLT, Nat.reduceLeDiff, Nat.reduceBEq, reduceCtorEq, Int.reduceLT, Int.reduceEq, Int.reduceLE, Int.reduceAdd, Int.reduceSub, Int.reduceToNat, Int.reduceNeg, e]
  have := sizeN_good hg
  congr 1
  omega
theorem F.bits_LeadingZeros8_J {S : St} {n : Nat} (hn : n < 256) : J PR F.bits_LeadingZeros8 [.int .u8 n] S fun v S' => (∃ L : Nat, v = .int .i64 (8 - (L : Int)) ∧ GoodL n L ∧ L ≤ 8) ∧ S = S' := by
  refine J_by PR.mixed F.bits_LeadingZeros8.ok (by simp) ?_
  simp (disch := omega) only [go_sem, ↓reduceIte, Nat.reduceEqDiff, Nat.reduceAdd, Nat.reduceMul, Nat.reduceSub, Nat.reduceLT, Nat.reduceLeDiff, Nat.reduceBEq, reduceCtorEq, Int.reduceLT, Int.reduceEq, Int.reduceLE, Int.reduceAdd, Int.reduceSub, Int.reduceToNat, Int.reduceNeg]
  refine wJ_of (F.bits_Len8_J hn) ?_; rintro _ _ ⟨⟨L, rfl, hg, hL⟩, rfl⟩
  simp (disch := omega) only [go_sem, ↓reduceIte, Nat.reduceEqDiff, Nat.reduceAdd, Nat.reduceMul, Nat.reduceSub, Nat.reduceLT, Nat.reduceLeDiff, Nat.reduceBEq, reduceCtorEq, Int.reduceLT, Int.reduceEq, Int.reduceLE, Int.reduceAdd, Int.reduceSub, Int.reduceToNat, Int.reduceNeg]
  exact ⟨_, rfl, hg, hL⟩
theorem F.num_head_J {S : St} {k : Nat} (h1 : 1 ≤ k) (h9 : k ≤ 9) : J PR F.num_head [.int .i64 k] S fun v S' => v = .int .u8 (headN k) ∧ S = S' := by
  refine J_by PR.mixed F.num_head.ok (by simp) ?_
  have : k = 1 ∨ k = 2 ∨ k = 3 ∨ k = 4 ∨ k = 5 ∨ k = 6 ∨ k = 7 ∨ k = 8 ∨ k = 9 := by omega
  rcases this with rfl | rfl | rfl | rfl | rfl | rfl | rfl | rfl | rfl <;> simp (disch := omega) only [go_sem, ↓reduceIte, Nat.reduceEqDiff, Nat.reduceAdd, Nat.reduceMul, Nat.reduceSub, Nat.reduceLT, Nat.reduceLeDiff, Nat.reduceBEq, reduceCtorEq, Int.reduceLT, Int.reduceEq, Int.reduceLE, Int.reduceAdd, Int.reduceSub, Int.reduceToNat, Int.reduceNeg, wrapu64, wrapu8, wrapu16, Nat.min_def, Int.reducePow, Int.reduceFDiv]
  all_goals rfl
theorem F.osierref01_Size_J {S : St} {n : Nat} (hn : n < 18446744073709551616) : J PR F.osierref01_Size [.int .u64 n] S fun v S' => v = .int .i64 (sizeN n) ∧ S = S' := by
  refine J_by PR.mixed F.osierref01_Size.ok (by simp) ?_
  simp (disch := omega) only [go_sem, ↓reduceIte, Nat.reduceEqDiff, Nat.reduceAdd, Nat.reduceMul, Nat.reduceSub, Nat.reduceLT, Nat.reduceLeDiff, Nat.reduceBEq, reduceCtorEq, Int.reduceLT, Int.reduceEq, Int.reduceLE, Int.reduceAdd, Int.reduceSub, Int.reduceToNat, Int.reduceNeg]
  refine wcond_dec (fun h => ?_) (fun h => ?_)
  · simp (disch := omega) only [go_sem, ↓reduceIte, Nat.reduceEqDiff, Nat.reduceAdd, Nat.reduceMul, Nat.reduceSub, Nat.reduceLT, Nat.reduceLeDiff, Nat.reduceBEq, reduceCtorEq, Int.reduceLT, Int.reduceEq, Int.reduceLE, Int.reduceAdd, Int.reduceSub, Int.reduceToNat, Int.reduceNeg]
    rw [sizeN, if_pos (by omega)]
    rfl
  simp (disch := omega) only [go_sem, ↓reduceIte, Nat.reduceEqDiff, Nat.reduceAdd, Nat.reduceMul, Nat.reduceSub, Nat.reduceLT, Nat.reduceLeDiff, Nat.reduceBEq, reduceCtorEq, Int.reduceLT, Int.reduceEq, Int.reduceLE, Int.reduceAdd, Int.reduceSub, Int.reduceToNat, Int.reduceNeg]
  refine wC_loop (fun m fr S' => ∃ k p : Nat, p = 2 ^ (7 * (k - 1)) ∧ m = 9 - k ∧ 2 ≤ k ∧ k ≤ 9 ∧ S = S' ∧ fr 0 = .int .u64 n ∧ fr 3 = .int .u64 p ∧ fr 4 = .int .i64 k ∧ p ≤ n) 7 ⟨2, 128, rfl, by simp (disch := omega) only [go_sem, ↓reduceIte, Nat.reduceEqDiff, Nat.reduceAdd, Nat.reduceMul, Nat.reduceSub, Nat.reduceLT, Nat.reduceLeDiff, Nat.reduceBEq, reduceCtorEq, Int.reduceLT, Int.reduceEq, Int.reduceLE, Int.reduceAdd, Int.reduceSub, Int.reduceToNat, Int.reduceNeg]; omega⟩ ?_
  rintro m fr S' ⟨k, p, hp, rfl, h2, h9, rfl, h0, h3, h4, hlo⟩
  have hlt : 2 ^ (7 * (k - 1)) ≤ 2 ^ 56 := Nat.pow_le_pow_right (by decide) (by omega)
  have hq : 2 ^ (7 * k) = p * 128 := by
    rw [hp, show (128 : Nat) = 2 ^ 7 from rfl, ← Nat.pow_add]
    congr 1
    omega
  rw [← hp] at hlt
  simp (disch := omega) only [go_sem, ↓reduceIte, Nat.reduceEqDiff, Nat.reduceAdd, Nat.reduceMul, Nat.reduceSub, Nat.reduceLT, Nat.reduceLeDiff, Nat.reduceBEq, reduceCtorEq, Int.reduceLT, Int.reduceEq, Int.reduceLE, Int.reduceAdd, Int.reduceSub, Int.reduceToNat, Int.reduceNeg, F.osierref01_Size.l0, h0, h3, h4]
  refine wcond_dec (fun h8 => ?_) (fun h8 => ?_)
  · have hlt2 : 2 ^ (7 * k) ≤ 2 ^ 56 := Nat.pow_le_pow_right (by decide) (by omega)
    rw [hq] at hlt2
    simp (disch := omega) only [go_sem, ↓reduceIte, Nat.reduceEqDiff, Nat.reduceAdd, Nat.reduceMul, Nat.reduceSub, Nat.reduceLT, Nat.reduceLeDiff, Nat.reduceBEq, reduceCtorEq, Int.reduceLT, Int.reduceEq, Int.reduceLE, Int.reduceAdd, Int.reduceSub, Int.reduceToNat, Int.reduceNeg, h0, h3, h4, wrapu64]
    refine wcond_dec (fun hc => ?_) (fun hc => ?_)
    · simp (disch := omega) only [go_sem, ↓reduceIte, Nat.reduceEqDiff, Nat.reduceAdd, Nat.reduceMul, Nat.reduceSub, Nat.reduceLT, Nat.reduceLeDiff, Nat.reduceBEq, reduceCtorEq, Int.reduceLT, Int.reduceEq, Int.reduceLE, Int.reduceAdd, Int.reduceSub, Int.reduceToNat, Int.reduceNeg, h4]
      rw [sizeN_of (k := k) (by omega) (by omega) (fun _ => by rw [← hp]; exact hlo) (fun _ => by rw [hq]; omega)]
    · simp (disch := omega) only [go_sem, ↓reduceIte, Nat.reduceEqDiff, Nat.reduceAdd, Nat.reduceMul, Nat.reduceSub, Nat.reduceLT, Nat.reduceLeDiff, Nat.reduceBEq, reduceCtorEq, Int.reduceLT, Int.reduceEq, Int.reduceLE, Int.reduceAdd, Int.reduceSub, Int.reduceToNat, Int.reduceNeg, h0, h4]
      refine ⟨9 - (k + 1), by omega, k + 1, p * 128, ?_, by omega, by omega, by omega, rfl, rfl, by omega⟩
      rw [Nat.add_sub_cancel, hq]
  · simp (disch := omega) only [go_sem, ↓reduceIte, Nat.reduceEqDiff, Nat.reduceAdd, Nat.reduceMul, Nat.reduceSub, Nat.reduceLT, Nat.reduceLeDiff, Nat.reduceBEq, reduceCtorEq, Int.reduceLT, Int.reduceEq, Int.reduceLE, Int.reduceAdd, Int.reduceSub, Int.reduceToNat, Int.reduceNeg]
    have hk : k = 9 := by omega
    subst hk
    rw [sizeN_of (k := 9) (by omega) (by omega) (fun _ => by rw [← hp]; exact hlo) (fun _ => by omega)]
    rfl
end Go.Osj

/- Contracts of layer 1: a number's bytes, put. -/
set_option linter.unusedSimpArgs false
namespace Go.Osj
def byteE : Enc Int := ⟨fun a => [.int .u8 a], 1, fun _ => rfl, fun _ => rfl, by decide⟩
abbrev u8s (xs : List Int) : List Value := xs.map (Value.int .u8)
theorem byteE_flat (xs : List Int) : byteE.flat xs = u8s xs := by
  induction xs with
  | nil => rfl
  | cons x xs ih => rw [Enc.flat_cons, ih]; rfl
theorem u8s_one (xs : List Int) : oneC (u8s xs) = true := by rw [← byteE_flat]; exact byteE.flat_one xs
theorem rowC_u8 (n : Nat) : rowC [.int .u8 0] n = u8s (List.replicate n 0) := by
  apply List.ext_getElem
  · simp [rowC]
  · intro i h1 h2
    simp [rowC, Nat.mod_one]
/-- Appending where there is room. -/
theorem wE_app_in {P : Program} {fr : Fr} {S : St} {k : KV} {s x : Operand} {esz bytes b n m c cap : Nat} {cs news : List Value} (ho : S.obj b = some (.cells true cap cs)) (hs : ev fr s = .slice (some ⟨b, 0, none⟩) n c)
    (hy : S.loadX esz (ev fr x) = some (m, news)) (hc : n + m ≤ c) (h1 : oneC news = true) (hpos : ¬ m * esz = 0) (hle : n * esz ≤ cs.length) (hcap : n * esz + news.length ≤ cap)
    (hk : k.run (.slice (some ⟨b, 0, none⟩) (n + m) c) (S.put b (.cells true cap (wrote cs (n * esz) news)))) : @wE P (.app esz bytes s x) fr S k := by
  unfold wE
  simp only [JE, hs]
  refine ⟨m, news, hy, fun _ => ?_, fun h => by omega⟩
  rw [if_neg hpos]
  exact ⟨h1, trivial, _, by rw [Nat.zero_add]; exact St.write_own ho _ hle hcap, hk⟩
theorem St.put_eq {S : St} {b : Nat} {o : AObj} (h : S.obj b = some o) (hb : b < S.n) : S.put b o = S := by
  obtain ⟨n, obj⟩ := S
  simp only [St.put] at *
  congr 1
  · omega
  · funext i
    split
    · rename_i hi; subst hi; exact h.symm
    · rfl
/-- Copying all of a slice to the front of a block. -/
theorem wE_cp_in {α : Type} (E : Enc α) {P : Program} {fr : Fr} {S : St} {k : KV} {d s : Operand} {b n c cap : Nat} {cs : List Value} {xs : List α} (ho : S.obj b = some (.cells true cap cs)) (hbn : b < S.n) (hd : ev fr d = .slice (some ⟨b, 0, none⟩) n c)
    (hs : SlT E S (ev fr s) xs) (hn : xs.length = n) (hcap : n * E.k ≤ cap) (hk : k.run (.int .i64 n) (S.put b (.cells true cap (wrote cs 0 (E.flat xs))))) : @wE P (.cp E.k d s) fr S k := by
  subst hn
  have hnews := hs.news E
  obtain ⟨base, c2, he⟩ := hs.len E
  rw [he] at hnews
  simp only [St.loadX, Option.map_eq_some_iff, Prod.mk.injEq, true_and] at hnews
  obtain ⟨cs', h1, rfl⟩ := hnews
  unfold wE
  simp only [JE, hd, he, Nat.min_self]
  refine ⟨_, h1, ?_⟩
  split
  · rename_i h0
    have hx : xs = [] := by
      rcases Nat.mul_eq_zero.1 h0 with h | h
      · exact List.eq_nil_of_length_eq_zero h
      · have := E.pos; omega
    subst hx
    have e : wrote cs 0 (E.flat []) = cs := by simp [wrote, Enc.flat]
    rw [e, St.put_eq ho hbn] at hk
    exact hk
  · exact ⟨E.flat_one xs, _, St.write_own ho 0 (Nat.zero_le _) (by rw [E.flat_length]; omega), hk⟩
theorem wrote_mid (A B Z : List Value) : wrote (A ++ Z) A.length B = A ++ B ++ Z.drop B.length := by
  unfold wrote
  rw [List.take_left', List.drop_append, List.drop_of_length_le (by omega)]
  · simp
  · rfl
theorem orHead_ok : ∀ (k : Fin 10) (b : Fin 256), 1 ≤ k.val → (k.val ≤ 8 → b.val < 2 ^ (8 - k.val)) → (k.val = 9 → b.val = 0) → bits .or .u8 (b.val : Int) (headN k.val : Int) = ((b.val + headN k.val : Nat) : Int) := by decide +kernel
theorem be_first {n : Nat} (hn : n < 18446744073709551616) {k : Nat} (hk : sizeN n = k) : (k ≤ 8 → n / 256 ^ (k - 1) < 2 ^ (8 - k)) ∧ (k = 9 → n / 256 ^ (k - 1) = 0) := by
  have hr := sizeN_range n
  constructor
  · intro h
    have h1 := sizeN_hi (n := n) (by omega)
    rw [hk] at h1
    rw [Nat.div_lt_iff_lt_mul (Nat.pow_pos (by decide)), show (256 : Nat) = 2 ^ 8 from rfl, ← Nat.pow_mul, ← Nat.pow_add]
    rw [show 8 - k + 8 * (k - 1) = 7 * k by omega]
    exact h1
  · intro h
    subst h
    rw [Nat.div_eq_zero_iff]
    right
    exact hn
theorem SlT.byte {S : St} {base : Option Addr} {n cap : Nat} {xs : List Int} (h : SlT byteE S (.slice base n cap) xs) {i : Nat} (hi : i < xs.length) :
    ∃ b off, base = some ⟨b, off, none⟩ ∧ b < S.n ∧ S.cell ⟨b, off + i, none⟩ = some (.int .u8 xs[i]) := by
  obtain ⟨b, off, h1, h2, h3, h4⟩ := h.at byteE (i := i) (x := xs[i]) (by simp)
  exact ⟨b, off, h1, h2, by simpa [byteE] using h4 0 (by decide)⟩

theorem F.num_Uint_J {S : St} {l : Value} {bs : List Int} {n : Nat} (hl : SlT byteE S l bs) (hn : n < 18446744073709551616) (hL : bs.length < 1000000000) :
    J PR F.num_Uint [l, .int .u64 n] S fun v S' => OwnT byteE S.n S' v (bs ++ encN n) ∧ S.Ext S' := by
  obtain ⟨base, cap, rfl⟩ := hl.len byteE
  refine J_weak (J_by PR.mixed F.num_Uint.ok (by simp) ?_)
  simp (disch := omega) only [go_sem, ↓reduceIte, Nat.reduceEqDiff, Nat.reduceAdd, Nat.reduceMul, Nat.reduceSub, Nat.reduceLT, Nat.reduceLeDiff, Nat.reduceBEq, reduceCtorEq, Int.reduceLT, Int.reduceEq, Int.reduceLE, Int.reduceAdd, Int.reduceSub, Int.reduceToNat, Int.reduceNeg]
  refine wJ_of (F.num_size_J hn) ?_; rintro _ _ ⟨rfl, rfl⟩
  have hk := sizeN_range n
  have hfirst := be_first hn (rfl : sizeN n = sizeN n)
  have henc : encN n = (beN n (sizeN n)).modify 0 fun b => b + headN (sizeN n) := rfl
  generalize sizeN n = k at *
  simp (disch := omega) only [go_sem, ↓reduceIte, Nat.reduceEqDiff, Nat.reduceAdd, Nat.reduceMul, Nat.reduceSub, Nat.reduceLT, Nat.reduceLeDiff, Nat.reduceBEq, reduceCtorEq, Int.reduceLT, Int.reduceEq, Int.reduceLE, Int.reduceAdd, Int.reduceSub, Int.reduceToNat, Int.reduceNeg]
  unfold wE
  simp only [JE, go_sem]
  refine ⟨by omega, by omega, by omega, by omega, fun b hb => ?_⟩
  rw [show ((bs.length : Int) + 9).toNat = bs.length + 9 by omega, Nat.mul_one, rowC_u8]
  simp (disch := omega) only [go_sem, ↓reduceIte, Nat.reduceEqDiff, Nat.reduceAdd, Nat.reduceMul, Nat.reduceSub, Nat.reduceLT, Nat.reduceLeDiff, Nat.reduceBEq, reduceCtorEq, Int.reduceLT, Int.reduceEq, Int.reduceLE, Int.reduceAdd, Int.reduceSub, Int.reduceToNat, Int.reduceNeg]
  have hpn := St.lt_put_self S b (.cells true (bs.length + 9) (u8s (List.replicate (bs.length + 9) 0)))
  have he0 := (St.Ext.refl S).put hb (.cells true (bs.length + 9) (u8s (List.replicate (bs.length + 9) 0)))
  refine wE_cp_in byteE (St.put_same ..) hpn rfl (hl.ext byteE he0) rfl (by simp [byteE]) ?_
  rw [St.put_put]
  have hcs : wrote (u8s (List.replicate (bs.length + 9) 0)) 0 (byteE.flat bs) = u8s bs ++ u8s (List.replicate 9 0) := by
    rw [byteE_flat]
    simp [wrote]
  rw [hcs]
  have he1 := (St.Ext.refl S).put hb (.cells true (bs.length + 9) (u8s bs ++ u8s (List.replicate 9 0)))
  simp (disch := omega) only [go_sem, ↓reduceIte, Nat.reduceEqDiff, Nat.reduceAdd, Nat.reduceMul, Nat.reduceSub, Nat.reduceLT, Nat.reduceLeDiff, Nat.reduceBEq, reduceCtorEq, Int.reduceLT, Int.reduceEq, Int.reduceLE, Int.reduceAdd, Int.reduceSub, Int.reduceToNat, Int.reduceNeg]
  refine wC_at 0 (fun fr S' => fr 0 = .slice base bs.length cap ∧ fr 5 = .int .i64 k ∧ fr 6 = .slice (some ⟨b, 0, none⟩) (bs.length + k) (bs.length + 9) ∧ S.Ext S' ∧ b < S'.n ∧ S'.obj b = some (.cells true (bs.length + 9) (u8s (bs ++ beN n k) ++ u8s (List.replicate (9 - k) 0)))) ?_ ?_
  · refine wC_loop (fun m fr S' => ∃ i, m = k - i ∧ i ≤ k ∧ fr 0 = .slice base bs.length cap ∧ fr 1 = .int .u64 n ∧ fr 5 = .int .i64 k ∧ fr 6 = .slice (some ⟨b, 0, none⟩) (bs.length + i) (bs.length + 9) ∧ fr 19 = .int .i64 k ∧ fr 20 = .int .i64 (i : Nat) ∧
      S.Ext S' ∧ b < S'.n ∧ S'.obj b = some (.cells true (bs.length + 9) (u8s (bs ++ (beN n k).take i) ++ u8s (List.replicate (9 - i) 0)))) k ⟨0, by simp (disch := omega) only [go_sem, ↓reduceIte, Nat.reduceEqDiff, Nat.reduceAdd, Nat.reduceMul, Nat.reduceSub, Nat.reduceLT, Nat.reduceLeDiff, Nat.reduceBEq, reduceCtorEq, Int.reduceLT, Int.reduceEq, Int.reduceLE, Int.reduceAdd, Int.reduceSub, Int.reduceToNat, Int.reduceNeg]; exact ⟨by simp, by simp, he1, by omega, by rw [St.put_same]; simp⟩⟩ ?_
    rintro m fr S1 ⟨i, rfl, hi, h0, h1, h5, h6, h19, h20, he, hbn, hob⟩
    simp (disch := omega) only [go_sem, ↓reduceIte, Nat.reduceEqDiff, Nat.reduceAdd, Nat.reduceMul, Nat.reduceSub, Nat.reduceLT, Nat.reduceLeDiff, Nat.reduceBEq, reduceCtorEq, Int.reduceLT, Int.reduceEq, Int.reduceLE, Int.reduceAdd, Int.reduceSub, Int.reduceToNat, Int.reduceNeg, F.num_Uint.l0, h0, h1, h5, h6, h19, h20]
    refine wcond_dec (fun hlt => ?_) (fun hge => ?_)
    · have hik : i < (beN n k).length := by rw [beN_len]; omega
      have hx := beN_get n k i hik
      obtain ⟨j, hj⟩ : ∃ j, k = i + 1 + j := ⟨k - 1 - i, by omega⟩
      have e1 : (k : Int) - 1 - (i : Int) = (j : Int) := by omega
      have hneg : ¬ (8 * (j : Int) < 0) := by omega
      have e2 : ((n : Nat) : Int).fdiv (2 ^ (min (8 * (j : Int)).toNat 64)) = ((n / 256 ^ j : Nat) : Int) := by
        rw [fdivN n _ (256 ^ j)]
        rw [show min (8 * (j : Int)).toNat 64 = 8 * j by omega, Nat.pow_mul]
      have e3 : IntKind.u8.wrap ((n / 256 ^ j : Nat) : Int) = ((n / 256 ^ j % 256 : Nat) : Int) := by rw [IntKind.wrap_u8']; omega
      rw [show k - 1 - i = j by omega] at hx
      simp (disch := omega) only [go_sem, ↓reduceIte, Nat.reduceEqDiff, Nat.reduceAdd, Nat.reduceMul, Nat.reduceSub, Nat.reduceLT, Nat.reduceLeDiff, Nat.reduceBEq, reduceCtorEq, Int.reduceLT, Int.reduceEq, Int.reduceLE, Int.reduceAdd, Int.reduceSub, Int.reduceToNat, Int.reduceNeg, h0, h1, h5, h6, h19, h20, e1, hneg, wrapu64, e2, e3]
      refine wfresh_of fun u hu => ?_
      simp (disch := omega) only [go_sem, ↓reduceIte, Nat.reduceEqDiff, Nat.reduceAdd, Nat.reduceMul, Nat.reduceSub, Nat.reduceLT, Nat.reduceLeDiff, Nat.reduceBEq, reduceCtorEq, Int.reduceLT, Int.reduceEq, Int.reduceLE, Int.reduceAdd, Int.reduceSub, Int.reduceToNat, Int.reduceNeg, h0, h1, h5, h6, h19, h20]
      have he2 := (St.Ext.refl S1).put hu (.cells true 1 [.int .u8 ((n / 256 ^ j % 256 : Nat) : Int)])
      have hn2 := he2.n
      refine wE_app_in ((he2.obj b hbn).trans hob) rfl (m := 1) (news := [.int .u8 ((n / 256 ^ j % 256 : Nat) : Int)]) ?_ (by omega) rfl (by decide) (by simp; omega) (by simp; omega) ?_
      · simp only [ev_tmp, Fr.put_apply, St.loadX, St.loadSl]
        simp (disch := omega) only [go_sem, ↓reduceIte, Nat.reduceEqDiff, Nat.reduceAdd, Nat.reduceMul, Nat.reduceSub, Nat.reduceLT, Nat.reduceLeDiff, Nat.reduceBEq, reduceCtorEq, Int.reduceLT, Int.reduceEq, Int.reduceLE, Int.reduceAdd, Int.reduceSub, Int.reduceToNat, Int.reduceNeg]
      have hwr := wrote_mid (u8s (bs ++ (beN n k).take i)) [.int .u8 ((n / 256 ^ j % 256 : Nat) : Int)] (u8s (List.replicate (9 - i) 0))
      have hl1 : (u8s (bs ++ (beN n k).take i)).length = (bs.length + i) * 1 := by simp [beN_len]; omega
      rw [hl1] at hwr
      rw [hwr]
      have he3 : S.Ext (S1.put u (.cells true 1 [.int .u8 ((n / 256 ^ j % 256 : Nat) : Int)])) := he.trans he2
      simp (disch := omega) only [go_sem, ↓reduceIte, Nat.reduceEqDiff, Nat.reduceAdd, Nat.reduceMul, Nat.reduceSub, Nat.reduceLT, Nat.reduceLeDiff, Nat.reduceBEq, reduceCtorEq, Int.reduceLT, Int.reduceEq, Int.reduceLE, Int.reduceAdd, Int.reduceSub, Int.reduceToNat, Int.reduceNeg, h0, h1, h5, h6, h19, h20]
      refine ⟨k - (i + 1), by omega, i + 1, rfl, by omega, by congr 1, rfl, ⟨Nat.le_trans he3.n (by simp only [St.put_n]; omega), fun q hq => ?_⟩, by omega, ?_⟩
      · rw [St.put_other _ _ _ (by omega)]
        exact he3.obj q hq
      · have hz : (u8s (List.replicate (9 - i) 0)).drop 1 = u8s (List.replicate (9 - (i + 1)) 0) := by
          simp only [u8s, List.map_replicate, List.drop_replicate]
          congr 1
        rw [St.put_same, take_snoc (List.getElem?_eq_getElem hik), hx]
        show some (AObj.cells true (bs.length + 9) (_ ++ (u8s (List.replicate (9 - i) 0)).drop 1)) = _
        rw [hz]
        simp
    · simp (disch := omega) only [go_sem, ↓reduceIte, Nat.reduceEqDiff, Nat.reduceAdd, Nat.reduceMul, Nat.reduceSub, Nat.reduceLT, Nat.reduceLeDiff, Nat.reduceBEq, reduceCtorEq, Int.reduceLT, Int.reduceEq, Int.reduceLE, Int.reduceAdd, Int.reduceSub, Int.reduceToNat, Int.reduceNeg, h0, h5, h6]
      have hik : i = k := by omega
      subst hik
      rw [List.take_of_length_le (by rw [beN_len]; omega)] at hob
      exact ⟨rfl, he, hbn, hob⟩
  rintro fr S1 ⟨h0, h5, h6, he, hbn, hob⟩
  have hk0 : 0 < (beN n k).length := by rw [beN_len]; omega
  have hx := beN_get n k 0 hk0
  rw [Nat.sub_zero] at hx
  obtain ⟨x, r, hxr⟩ : ∃ x r, beN n k = x :: r := by
    cases h : beN n k with
    | nil => simp [h] at hk0
    | cons x r => exact ⟨x, r, rfl⟩
  have hx0 : x = ((n / 256 ^ (k - 1) % 256 : Nat) : Int) := by rw [← hx]; simp [hxr]
  have hrl : r.length + 1 = k := by have := beN_len n k; rw [hxr] at this; simpa using this
  generalize hq : n / 256 ^ (k - 1) % 256 = q at hx0
  have hq256 : q < 256 := by omega
  have hmodle : q ≤ n / 256 ^ (k - 1) := by rw [← hq]; exact Nat.mod_le _ _
  have hor := orHead_ok ⟨k, by omega⟩ ⟨q, hq256⟩ hk.1 (fun h => by have := hfirst.1 h; simp only; omega) (fun h => by have := hfirst.2 h; simp only; omega)
  simp only at hor
  rw [hxr] at hob
  have lx : S1.cell ⟨b, bs.length, none⟩ = some (.int .u8 (q : Int)) := by
    rw [St.cell_def, hob]
    simp [hx0]
  have c1 : (0 : Int) ≤ (bs.length : Int) ∧ (bs.length : Int) < ((bs.length + k : Nat) : Int) := by omega
  simp (disch := omega) only [go_sem, ↓reduceIte, Nat.reduceEqDiff, Nat.reduceAdd, Nat.reduceMul, Nat.reduceSub, Nat.reduceLT, Nat.reduceLeDiff, Nat.reduceBEq, reduceCtorEq, Int.reduceLT, Int.reduceEq, Int.reduceLE, Int.reduceAdd, Int.reduceSub, Int.reduceToNat, Int.reduceNeg, h0, h5, h6, c1, Nat.mul_one, lx]
  refine wJ_of (F.num_head_J hk.1 hk.2) ?_; rintro _ _ ⟨rfl, rfl⟩
  simp (disch := omega) only [go_sem, ↓reduceIte, Nat.reduceEqDiff, Nat.reduceAdd, Nat.reduceMul, Nat.reduceSub, Nat.reduceLT, Nat.reduceLeDiff, Nat.reduceBEq, reduceCtorEq, Int.reduceLT, Int.reduceEq, Int.reduceLE, Int.reduceAdd, Int.reduceSub, Int.reduceToNat, Int.reduceNeg, h0, h5, h6, c1, Nat.mul_one, lx, hor]
  refine wst_of hob rfl rfl (by simp) (by omega) ?_
  have hwr : wrote (u8s (bs ++ x :: r) ++ u8s (List.replicate (9 - k) 0)) bs.length [.int .u8 ((q + headN k : Nat) : Int)] = u8s (bs ++ encN n) ++ u8s (List.replicate (9 - k) 0) := by
    have hen : encN n = ((q + headN k : Nat) : Int) :: r := by
      rw [henc, hxr, List.modify_zero_cons, hx0]
      rfl
    rw [hen]
    have := wrote_mid (u8s bs) [.int .u8 ((q + headN k : Nat) : Int)] (u8s (x :: r) ++ u8s (List.replicate (9 - k) 0))
    simp only [u8s, List.length_map] at this
    simp only [u8s, List.map_append, List.append_assoc]
    rw [this]
    simp
  simp only [cells_int]
  rw [hwr]
  simp (disch := omega) only [go_sem, ↓reduceIte, Nat.reduceEqDiff, Nat.reduceAdd, Nat.reduceMul, Nat.reduceSub, Nat.reduceLT, Nat.reduceLeDiff, Nat.reduceBEq, reduceCtorEq, Int.reduceLT, Int.reduceEq, Int.reduceLE, Int.reduceAdd, Int.reduceSub, Int.reduceToNat, Int.reduceNeg, h0, h5, h6]
  have hlen : (encN n).length = k := by rw [henc, List.length_modify, beN_len]
  refine ⟨_, fun c0 w hr => Rel.cut hr (St.put_same _ _ _) (bs.length + k), ?_, ?_⟩
  · rw [St.put_put, show bs.length + k = (bs ++ encN n).length by simp [hlen]]
    refine OwnT.mk byteE hb (St.lt_put_self _ _ _) (by simp [hlen]; omega) ?_
    rw [St.put_same, byteE_flat]
    congr 2
    · simp [byteE]
    · rw [List.take_left']
      simp
  · rw [St.put_put]
    exact ⟨Nat.le_trans he.n (by rw [St.put_n]; omega), fun q hq => by rw [St.put_other _ _ _ (by omega)]; exact he.obj q hq⟩
end Go.Osj

/- Contracts of layer 1: the reference's bytes of a number; both signs. -/
set_option linter.unusedSimpArgs false
namespace Go.Osj
def leN (n k : Nat) : List Int := (List.range k).map fun j => ((n / 256 ^ j % 256 : Nat) : Int)
theorem leN_len (n k : Nat) : (leN n k).length = k := by simp [leN]
theorem leN_succ (n k : Nat) : leN n (k + 1) = leN n k ++ [((n / 256 ^ k % 256 : Nat) : Int)] := by simp [leN, List.range_succ]
theorem leN_get (n k i : Nat) (h : i < (leN n k).length) : (leN n k)[i] = ((n / 256 ^ i % 256 : Nat) : Int) := by simp [leN]
theorem leN_rev (n k : Nat) : (leN n k).reverse = beN n k := by
  apply List.ext_getElem
  · simp [leN_len, beN_len]
  · intro i h1 h2
    rw [List.getElem_reverse, leN_get, beN_get, leN_len]
theorem head_step : ∀ i : Fin 8, 1 ≤ i.val → headN (i.val + 1) = headN i.val + 2 ^ (8 - i.val) ∧ 2 ^ (8 - i.val) / 2 = 2 ^ (8 - (i.val + 1)) := by decide
theorem head_fits {k q : Nat} (h1 : 1 ≤ k) (h8 : k ≤ 8) (h : q < 2 ^ (8 - k)) : q + headN k < 256 := by
  have : k = 1 ∨ k = 2 ∨ k = 3 ∨ k = 4 ∨ k = 5 ∨ k = 6 ∨ k = 7 ∨ k = 8 := by omega
  rcases this with rfl | rfl | rfl | rfl | rfl | rfl | rfl | rfl <;> simp [headN] at h ⊢ <;> omega
theorem head_le (k : Nat) : headN k ≤ 255 := by unfold headN; have := Nat.two_pow_pos (9 - k); omega
theorem wrote_set {xs : List Int} {i : Nat} (hi : i < xs.length) (y : Int) : wrote (u8s xs) i [.int .u8 y] = u8s (xs.set i y) := by
  unfold wrote
  rw [List.set_eq_take_append_cons_drop, if_pos hi]
  simp [u8s]
theorem encN_rev {n k : Nat} (hk : sizeN n = k) (hk1 : 1 ≤ k) : ((leN n k).set (k - 1) ((n / 256 ^ (k - 1) % 256 : Nat) + (headN k : Int))).reverse = encN n := by
  have henc : encN n = (beN n k).modify 0 fun b => b + headN k := by rw [← hk]; rfl
  rw [henc]
  apply List.ext_getElem
  · simp [leN_len, beN_len]
  · intro i h1 h2
    simp only [List.length_reverse, List.length_set, leN_len] at h1
    rw [List.getElem_reverse, List.getElem_set, List.getElem_modify, beN_get, leN_get]
    simp only [List.length_set, leN_len]
    by_cases hi : i = 0
    · subst hi
      simp
    · rw [if_neg (by omega), if_neg (by omega)]
theorem tmodN (m k : Nat) : ((m : Nat) : Int).tmod (k : Nat) = ((m % k : Nat) : Int) := rfl
theorem tdivN (m k : Nat) : ((m : Nat) : Int).tdiv (k : Nat) = ((m / k : Nat) : Int) := rfl

theorem F.osierref01_Uint_J {S : St} {n : Nat} (hn : n < 18446744073709551616) : J PR F.osierref01_Uint [.int .u64 n] S fun v S' => OwnT byteE S.n S' v (encN n) ∧ S.Ext S' := by
  refine J_by PR.mixed F.osierref01_Uint.ok (by simp) ?_
  simp (disch := omega) only [go_sem, ↓reduceIte, Nat.reduceEqDiff, Nat.reduceAdd, Nat.reduceMul, Nat.reduceSub, Nat.reduceLT, Nat.reduceLeDiff, Nat.reduceBEq, reduceCtorEq, Int.reduceLT, Int.reduceEq, Int.reduceLE, Int.reduceAdd, Int.reduceSub, Int.reduceToNat, Int.reduceNeg]
  refine wJ_of (F.osierref01_Size_J hn) ?_; rintro _ _ ⟨rfl, rfl⟩
  have hk := sizeN_range n
  have hfirst := be_first hn (rfl : sizeN n = sizeN n)
  have hrev := encN_rev (rfl : sizeN n = sizeN n) hk.1
  generalize sizeN n = k at *
  simp (disch := omega) only [go_sem, ↓reduceIte, Nat.reduceEqDiff, Nat.reduceAdd, Nat.reduceMul, Nat.reduceSub, Nat.reduceLT, Nat.reduceLeDiff, Nat.reduceBEq, reduceCtorEq, Int.reduceLT, Int.reduceEq, Int.reduceLE, Int.reduceAdd, Int.reduceSub, Int.reduceToNat, Int.reduceNeg]
  refine wC_at 0 (fun fr S' => ∃ v, fr 3 = .int .i64 k ∧ fr 4 = v ∧ OwnT byteE S.n S' v (leN n k) ∧ S.Ext S') ?_ ?_
  · refine wC_loop (fun m fr S' => ∃ (i : Nat) (v : Value), m = k - i ∧ i ≤ k ∧ fr 0 = .int .u64 ((n / 256 ^ i : Nat) : Int) ∧ fr 3 = .int .i64 k ∧ fr 4 = v ∧ fr 5 = .int .i64 (i : Nat) ∧ S.Ext S' ∧ OwnT byteE S.n S' v (leN n i)) k
      ⟨0, .slice none 0 0, by simp (disch := omega) only [go_sem, ↓reduceIte, Nat.reduceEqDiff, Nat.reduceAdd, Nat.reduceMul, Nat.reduceSub, Nat.reduceLT, Nat.reduceLeDiff, Nat.reduceBEq, reduceCtorEq, Int.reduceLT, Int.reduceEq, Int.reduceLE, Int.reduceAdd, Int.reduceSub, Int.reduceToNat, Int.reduceNeg]; exact ⟨by simp, by simp, by simp, St.Ext.refl _, by simpa [leN] using OwnT.nil byteE S.n S⟩⟩ ?_
    rintro m fr S1 ⟨i, v, rfl, hi, h0, h3, h4, h5, he, ho⟩
    simp (disch := omega) only [go_sem, ↓reduceIte, Nat.reduceEqDiff, Nat.reduceAdd, Nat.reduceMul, Nat.reduceSub, Nat.reduceLT, Nat.reduceLeDiff, Nat.reduceBEq, reduceCtorEq, Int.reduceLT, Int.reduceEq, Int.reduceLE, Int.reduceAdd, Int.reduceSub, Int.reduceToNat, Int.reduceNeg, F.osierref01_Uint.l0, h0, h3, h4, h5]
    refine wcond_dec (fun hlt => ?_) (fun hge => ?_)
    · have hle : n / 256 ^ i ≤ n := Nat.div_le_self _ _
      have e0 : n / 256 ^ (i + 1) = n / 256 ^ i / 256 := by rw [Nat.pow_succ, Nat.div_div_eq_div_mul]
      have hsucc := leN_succ n i
      rw [← e0.symm] at e0
      generalize hq : n / 256 ^ i = q at *
      have e1 : ((q : Nat) : Int).tmod 256 = ((q % 256 : Nat) : Int) := tmodN q 256
      have e2 : ((q : Nat) : Int).tdiv 256 = ((q / 256 : Nat) : Int) := tdivN q 256
      have e3 : IntKind.u8.wrap ((q % 256 : Nat) : Int) = ((q % 256 : Nat) : Int) := wrapu8 (by omega) (by omega)
      have e4 : IntKind.u64.wrap ((q / 256 : Nat) : Int) = ((q / 256 : Nat) : Int) := wrapu64 (by omega) (by omega)
      simp (disch := omega) only [go_sem, ↓reduceIte, Nat.reduceEqDiff, Nat.reduceAdd, Nat.reduceMul, Nat.reduceSub, Nat.reduceLT, Nat.reduceLeDiff, Nat.reduceBEq, reduceCtorEq, Int.reduceLT, Int.reduceEq, Int.reduceLE, Int.reduceAdd, Int.reduceSub, Int.reduceToNat, Int.reduceNeg, h0, h3, h4, h5, e1, e3]
      refine wfresh_of fun u hu => ?_
      simp (disch := omega) only [go_sem, ↓reduceIte, Nat.reduceEqDiff, Nat.reduceAdd, Nat.reduceMul, Nat.reduceSub, Nat.reduceLT, Nat.reduceLeDiff, Nat.reduceBEq, reduceCtorEq, Int.reduceLT, Int.reduceEq, Int.reduceLE, Int.reduceAdd, Int.reduceSub, Int.reduceToNat, Int.reduceNeg, h0, h3, h4, h5]
      have he2 := (St.Ext.refl S1).put hu (.cells true 1 [.int .u8 ((q % 256 : Nat) : Int)])
      refine wE_app byteE (ys := [((q % 256 : Nat) : Int)]) (ho.ext byteE he2) (SlT.lit byteE (xs := [((q % 256 : Nat) : Int)])) rfl rfl (he.trans he2).n (by simp [leN_len]; omega) (by simp [leN_len]; omega) fun v3 S3 ho3 hb3 hv3 => ?_
      simp (disch := omega) only [go_sem, ↓reduceIte, Nat.reduceEqDiff, Nat.reduceAdd, Nat.reduceMul, Nat.reduceSub, Nat.reduceLT, Nat.reduceLeDiff, Nat.reduceBEq, reduceCtorEq, Int.reduceLT, Int.reduceEq, Int.reduceLE, Int.reduceAdd, Int.reduceSub, Int.reduceToNat, Int.reduceNeg, h0, h3, h4, h5, e2, e4]
      refine ⟨k - (i + 1), by omega, i + 1, _, rfl, by omega, by rw [Nat.pow_succ, ← Nat.div_div_eq_div_mul, hq], rfl, rfl, (he.trans he2).but hb3 (ho.fresh byteE), ?_⟩
      rw [hsucc]
      exact ho3
    · simp (disch := omega) only [go_sem, ↓reduceIte, Nat.reduceEqDiff, Nat.reduceAdd, Nat.reduceMul, Nat.reduceSub, Nat.reduceLT, Nat.reduceLeDiff, Nat.reduceBEq, reduceCtorEq, Int.reduceLT, Int.reduceEq, Int.reduceLE, Int.reduceAdd, Int.reduceSub, Int.reduceToNat, Int.reduceNeg, h3, h4]
      have hik : i = k := by omega
      subst hik
      exact ⟨_, rfl, ho, he⟩
  rintro fr S1 ⟨v, h3, h4, ho, he⟩
  change wC (q := _) PR (.seq _ _) _ _
  refine wC_cut (fun fr S' => ∃ b c, fr 3 = .int .i64 k ∧ fr 4 = .slice (some ⟨b, 0, none⟩) k c ∧ OwnT byteE S.n S' (.slice (some ⟨b, 0, none⟩) k c) ((leN n k).set (k - 1) ((n / 256 ^ (k - 1) % 256 : Nat) + (headN k : Int))) ∧ S.Ext S') ?_ ?_
  · have hll := leN_len n k
    rcases ho with ⟨h, -⟩ | ⟨b, c, rfl, hB, hb, hc, hob⟩
    · rw [h] at hll
      simp at hll
      omega
    rw [hll] at h4 hc
    rw [byteE_flat] at hob
    have hfinish : ∀ y : Int, y = (n / 256 ^ (k - 1) % 256 : Nat) + (headN k : Int) → OwnT byteE S.n (S1.put b (.cells true (c * 1) (wrote (u8s (leN n k)) (k - 1) [.int .u8 y]))) (.slice (some ⟨b, 0, none⟩) k c) ((leN n k).set (k - 1) ((n / 256 ^ (k - 1) % 256 : Nat) + (headN k : Int))) ∧
        S.Ext (S1.put b (.cells true (c * 1) (wrote (u8s (leN n k)) (k - 1) [.int .u8 y]))) := by
      intro y hy
      subst hy
      rw [wrote_set (by omega)]
      refine ⟨?_, ⟨Nat.le_trans he.n (by rw [St.put_n]; omega), fun i hi => by rw [St.put_other _ _ _ (by omega)]; exact he.obj i hi⟩⟩
      have := OwnT.mk byteE (B := S.n) (S := S1.put b (.cells true (c * 1) (u8s ((leN n k).set (k - 1) ((n / 256 ^ (k - 1) % 256 : Nat) + (headN k : Int)))))) (b := b) (c := c) (xs := (leN n k).set (k - 1) ((n / 256 ^ (k - 1) % 256 : Nat) + (headN k : Int))) hB (St.lt_put_self _ _ _) (by simp [hll]; exact hc) (by rw [St.put_same, byteE_flat]; rfl)
      simpa [hll] using this
    simp (disch := omega) only [go_sem, ↓reduceIte, Nat.reduceEqDiff, Nat.reduceAdd, Nat.reduceMul, Nat.reduceSub, Nat.reduceLT, Nat.reduceLeDiff, Nat.reduceBEq, reduceCtorEq, Int.reduceLT, Int.reduceEq, Int.reduceLE, Int.reduceAdd, Int.reduceSub, Int.reduceToNat, Int.reduceNeg, h3, h4]
    refine wcond_dec (fun h9 => ?_) (fun h9 => ?_)
    · have hk9 : k = 9 := by omega
      subst hk9
      simp (disch := omega) only [go_sem, ↓reduceIte, Nat.reduceEqDiff, Nat.reduceAdd, Nat.reduceMul, Nat.reduceSub, Nat.reduceLT, Nat.reduceLeDiff, Nat.reduceBEq, reduceCtorEq, Int.reduceLT, Int.reduceEq, Int.reduceLE, Int.reduceAdd, Int.reduceSub, Int.reduceToNat, Int.reduceNeg, h3, h4]
      refine wst_of hob rfl rfl (by simp [hll]) (by simp [byteE]; omega) ?_
      simp only [cells_int]
      simp (disch := omega) only [go_sem, ↓reduceIte, Nat.reduceEqDiff, Nat.reduceAdd, Nat.reduceMul, Nat.reduceSub, Nat.reduceLT, Nat.reduceLeDiff, Nat.reduceBEq, reduceCtorEq, Int.reduceLT, Int.reduceEq, Int.reduceLE, Int.reduceAdd, Int.reduceSub, Int.reduceToNat, Int.reduceNeg, h3, h4]
      refine ⟨_, _, rfl, ?_⟩
      refine hfinish 255 ?_
      rw [show (9 : Nat) - 1 = 8 from rfl] at hfirst
      rw [show (9 : Nat) - 1 = 8 from rfl, hfirst.2 rfl]
      rfl
    · simp (disch := omega) only [go_sem, ↓reduceIte, Nat.reduceEqDiff, Nat.reduceAdd, Nat.reduceMul, Nat.reduceSub, Nat.reduceLT, Nat.reduceLeDiff, Nat.reduceBEq, reduceCtorEq, Int.reduceLT, Int.reduceEq, Int.reduceLE, Int.reduceAdd, Int.reduceSub, Int.reduceToNat, Int.reduceNeg, h3, h4]
      refine wC_loop (fun m fr S' => ∃ i : Nat, m = k - i ∧ 1 ≤ i ∧ i ≤ k ∧ S1 = S' ∧ fr 3 = .int .i64 k ∧ fr 4 = .slice (some ⟨b, 0, none⟩) k c ∧ fr 6 = .int .i64 (headN i : Nat) ∧ fr 7 = .int .i64 ((2 ^ (8 - i) : Nat) : Int) ∧ fr 8 = .int .i64 (i : Nat)) (k - 1) ⟨1, by simp (disch := omega) only [go_sem, ↓reduceIte, Nat.reduceEqDiff, Nat.reduceAdd, Nat.reduceMul, Nat.reduceSub, Nat.reduceLT, Nat.reduceLeDiff, Nat.reduceBEq, reduceCtorEq, Int.reduceLT, Int.reduceEq, Int.reduceLE, Int.reduceAdd, Int.reduceSub, Int.reduceToNat, Int.reduceNeg, h3, h4]; exact ⟨by omega, rfl, rfl⟩⟩ ?_
      rintro m fr S2 ⟨i, rfl, hi1, hik, rfl, h3, h4, h6, h7, h8⟩
      simp (disch := omega) only [go_sem, ↓reduceIte, Nat.reduceEqDiff, Nat.reduceAdd, Nat.reduceMul, Nat.reduceSub, Nat.reduceLT, Nat.reduceLeDiff, Nat.reduceBEq, reduceCtorEq, Int.reduceLT, Int.reduceEq, Int.reduceLE, Int.reduceAdd, Int.reduceSub, Int.reduceToNat, Int.reduceNeg, F.osierref01_Uint.l1, h3, h4, h6, h7, h8]
      refine wcond_dec (fun hlt => ?_) (fun hge => ?_)
      · have hi8 : i < 8 := by omega
        obtain ⟨g1, g2⟩ := head_step ⟨i, hi8⟩ hi1
        simp only at g1 g2
        have hb1 := head_le (i + 1)
        have e1 : IntKind.i64.wrap ((headN i : Nat) + ((2 ^ (8 - i) : Nat) : Int)) = ((headN (i + 1) : Nat) : Int) := by
          rw [g1]
          rw [wrap64 (by omega) (by omega)]
          omega
        have e2 : IntKind.i64.wrap (((2 ^ (8 - i) : Nat) : Int).tdiv 2) = ((2 ^ (8 - (i + 1)) : Nat) : Int) := by
          have : ((2 ^ (8 - i) : Nat) : Int).tdiv 2 = ((2 ^ (8 - i) / 2 : Nat) : Int) := tdivN _ 2
          rw [this, g2]
          have := Nat.pow_le_pow_right (n := 2) (by decide) (show 8 - (i + 1) ≤ 8 by omega)
          generalize (2 ^ (8 - (i + 1)) : Nat) = w at *
          exact wrap64 (by omega) (by omega)
        simp (disch := omega) only [go_sem, ↓reduceIte, Nat.reduceEqDiff, Nat.reduceAdd, Nat.reduceMul, Nat.reduceSub, Nat.reduceLT, Nat.reduceLeDiff, Nat.reduceBEq, reduceCtorEq, Int.reduceLT, Int.reduceEq, Int.reduceLE, Int.reduceAdd, Int.reduceSub, Int.reduceToNat, Int.reduceNeg, h3, h4, h6, h7, h8, e1, e2]
        exact ⟨k - (i + 1), by omega, i + 1, rfl, by omega, by omega, rfl, rfl, rfl⟩
      · have hk2 : i = k := by omega
        subst hk2
        have e1 : (i : Int) - 1 = ((i - 1 : Nat) : Int) := by omega
        have c1 : (0 : Int) ≤ ((i - 1 : Nat) : Int) ∧ ((i - 1 : Nat) : Int) < (i : Int) := by omega
        have lx : S1.cell ⟨b, i - 1, none⟩ = some (.int .u8 ((n / 256 ^ (i - 1) % 256 : Nat) : Int)) := by
          rw [St.cell_def, hob]
          have := leN_get n i (i - 1) (by rw [hll]; omega)
          rw [← this]
          simp
        have hq : n / 256 ^ (i - 1) % 256 + headN i < 256 := by
          have h8 : i ≤ 8 := by omega
          have := hfirst.1 h8
          exact head_fits hi1 h8 (Nat.lt_of_le_of_lt (Nat.mod_le _ _) this)
        have e2 : IntKind.u8.wrap ((headN i : Nat) : Int) = ((headN i : Nat) : Int) := wrapu8 (by omega) (by omega)
        have e3 : IntKind.u8.wrap (((n / 256 ^ (i - 1) % 256 : Nat) : Int) + ((headN i : Nat) : Int)) = ((n / 256 ^ (i - 1) % 256 : Nat) : Int) + ((headN i : Nat) : Int) := wrapu8 (by omega) (by omega)
        simp (disch := omega) only [go_sem, ↓reduceIte, Nat.reduceEqDiff, Nat.reduceAdd, Nat.reduceMul, Nat.reduceSub, Nat.reduceLT, Nat.reduceLeDiff, Nat.reduceBEq, reduceCtorEq, Int.reduceLT, Int.reduceEq, Int.reduceLE, Int.reduceAdd, Int.reduceSub, Int.reduceToNat, Int.reduceNeg, h3, h4, h6, h7, h8, e1, c1, Nat.mul_one, lx, e2, e3]
        refine wst_of hob rfl rfl (by simp [hll]) (by simp [byteE]; omega) ?_
        simp only [cells_int]
        simp (disch := omega) only [go_sem, ↓reduceIte, Nat.reduceEqDiff, Nat.reduceAdd, Nat.reduceMul, Nat.reduceSub, Nat.reduceLT, Nat.reduceLeDiff, Nat.reduceBEq, reduceCtorEq, Int.reduceLT, Int.reduceEq, Int.reduceLE, Int.reduceAdd, Int.reduceSub, Int.reduceToNat, Int.reduceNeg, h3, h4]
        exact ⟨_, _, rfl, hfinish _ rfl⟩
  rintro fr S2 ⟨b, c, h3, h4, ho2, he2⟩
  generalize hys : (leN n k).set (k - 1) ((n / 256 ^ (k - 1) % 256 : Nat) + (headN k : Int)) = ys at ho2 hrev
  have hyl : ys.length = k := by rw [← hys]; simp [leN_len]
  have hs2 := ho2.sl byteE
  have hB2 := ho2.blk byteE b rfl
  simp (disch := omega) only [go_sem, ↓reduceIte, Nat.reduceEqDiff, Nat.reduceAdd, Nat.reduceMul, Nat.reduceSub, Nat.reduceLT, Nat.reduceLeDiff, Nat.reduceBEq, reduceCtorEq, Int.reduceLT, Int.reduceEq, Int.reduceLE, Int.reduceAdd, Int.reduceSub, Int.reduceToNat, Int.reduceNeg, h3, h4]
  refine wC_loop (fun m fr S' => ∃ (j : Nat) (v : Value), m = j ∧ j ≤ k ∧ fr 4 = .slice (some ⟨b, 0, none⟩) k c ∧ fr 9 = v ∧ fr 10 = .int .i64 ((j : Int) - 1) ∧ S2.Ext S' ∧ OwnT byteE S2.n S' v (ys.drop j).reverse) k
    ⟨k, .slice none 0 0, by simp (disch := omega) only [go_sem, ↓reduceIte, Nat.reduceEqDiff, Nat.reduceAdd, Nat.reduceMul, Nat.reduceSub, Nat.reduceLT, Nat.reduceLeDiff, Nat.reduceBEq, reduceCtorEq, Int.reduceLT, Int.reduceEq, Int.reduceLE, Int.reduceAdd, Int.reduceSub, Int.reduceToNat, Int.reduceNeg, h3, h4]; exact ⟨by omega, St.Ext.refl _, by rw [List.drop_of_length_le (by omega)]; exact OwnT.nil ..⟩⟩ ?_
  rintro j fr S3 ⟨_, v, rfl, hj, h4, h9, h10, he3, ho3⟩
  simp (disch := omega) only [go_sem, ↓reduceIte, Nat.reduceEqDiff, Nat.reduceAdd, Nat.reduceMul, Nat.reduceSub, Nat.reduceLT, Nat.reduceLeDiff, Nat.reduceBEq, reduceCtorEq, Int.reduceLT, Int.reduceEq, Int.reduceLE, Int.reduceAdd, Int.reduceSub, Int.reduceToNat, Int.reduceNeg, F.osierref01_Uint.l2, h4, h9, h10]
  refine wcond_dec (fun hlt => ?_) (fun hge => ?_)
  · obtain ⟨i, rfl⟩ : ∃ i, j = i + 1 := ⟨j - 1, by omega⟩
    have e1 : ((i + 1 : Nat) : Int) - 1 = (i : Int) := by omega
    have hiy : i < ys.length := by omega
    have c1 : (0 : Int) ≤ (i : Int) ∧ (i : Int) < (k : Int) := by omega
    rw [← hyl] at hs2
    obtain ⟨b', off', hbb, hb', hx⟩ := SlT.byte (hs2.ext byteE he3) hiy
    simp only [Option.some.injEq, Addr.mk.injEq, and_true] at hbb
    obtain ⟨rfl, rfl⟩ := hbb
    rw [Nat.zero_add] at hx
    simp (disch := omega) only [go_sem, ↓reduceIte, Nat.reduceEqDiff, Nat.reduceAdd, Nat.reduceMul, Nat.reduceSub, Nat.reduceLT, Nat.reduceLeDiff, Nat.reduceBEq, reduceCtorEq, Int.reduceLT, Int.reduceEq, Int.reduceLE, Int.reduceAdd, Int.reduceSub, Int.reduceToNat, Int.reduceNeg, h4, h9, h10, e1, c1, Nat.mul_one, hx]
    refine wfresh_of fun u hu => ?_
    simp (disch := omega) only [go_sem, ↓reduceIte, Nat.reduceEqDiff, Nat.reduceAdd, Nat.reduceMul, Nat.reduceSub, Nat.reduceLT, Nat.reduceLeDiff, Nat.reduceBEq, reduceCtorEq, Int.reduceLT, Int.reduceEq, Int.reduceLE, Int.reduceAdd, Int.reduceSub, Int.reduceToNat, Int.reduceNeg, h4, h9, h10]
    have he4 := (St.Ext.refl S3).put hu (.cells true 1 [.int .u8 ys[i]])
    refine wE_app byteE (ys := [ys[i]]) (ho3.ext byteE he4) (SlT.lit byteE (xs := [ys[i]])) rfl rfl (he3.trans he4).n (by simp; omega) (by simp; omega) fun v8 S8 ho8 hb8 hv8 => ?_
    simp (disch := omega) only [go_sem, ↓reduceIte, Nat.reduceEqDiff, Nat.reduceAdd, Nat.reduceMul, Nat.reduceSub, Nat.reduceLT, Nat.reduceLeDiff, Nat.reduceBEq, reduceCtorEq, Int.reduceLT, Int.reduceEq, Int.reduceLE, Int.reduceAdd, Int.reduceSub, Int.reduceToNat, Int.reduceNeg, h4, h9, h10, e1]
    refine ⟨i, by omega, i, _, rfl, by omega, rfl, rfl, (he3.trans he4).but hb8 (ho3.fresh byteE), ?_⟩
    rw [List.drop_eq_getElem_cons hiy, List.reverse_cons]
    exact ho8
  · simp (disch := omega) only [go_sem, ↓reduceIte, Nat.reduceEqDiff, Nat.reduceAdd, Nat.reduceMul, Nat.reduceSub, Nat.reduceLT, Nat.reduceLeDiff, Nat.reduceBEq, reduceCtorEq, Int.reduceLT, Int.reduceEq, Int.reduceLE, Int.reduceAdd, Int.reduceSub, Int.reduceToNat, Int.reduceNeg, h9]
    have hj0 : j = 0 := by omega
    subst hj0
    rw [List.drop_zero, hrev] at ho3
    exact ⟨ho3.mono byteE he2.n, he2.trans he3⟩
end Go.Osj

/- Contracts of layer 1: numbers of either sign, put; dots, put. -/
set_option linter.unusedSimpArgs false
namespace Go.Osj
theorem ofInt_neg1 : BitVec.ofInt 64 (-1) = BitVec.allOnes 64 := by decide
theorem xor_i64_neg1 {x : Int} (h1 : -9223372036854775808 ≤ x) (h2 : x ≤ 9223372036854775807) : bits .xor .i64 x (-1) = -x - 1 := by
  show IntKind.i64.wrap ((BitVec.ofInt 64 x ^^^ BitVec.ofInt 64 (-1)).toNat : Int) = _
  rw [ofInt_neg1, BitVec.xor_allOnes, BitVec.toNat_not, BitVec.toNat_ofInt]
  simp [IntKind.wrap, IntKind.bits, IntKind.signed]
  omega
theorem xor_i64_zero {x : Int} (h1 : -9223372036854775808 ≤ x) (h2 : x ≤ 9223372036854775807) : bits .xor .i64 x 0 = x := by
  show IntKind.i64.wrap ((BitVec.ofInt 64 x ^^^ BitVec.ofInt 64 0).toNat : Int) = _
  rw [show BitVec.ofInt 64 0 = 0#64 from rfl, BitVec.xor_zero, BitVec.toNat_ofInt]
  simp [IntKind.wrap, IntKind.bits, IntKind.signed]
  omega
theorem xor_u64_ones {x : Int} (h1 : 0 ≤ x) (h2 : x < 18446744073709551616) : bits .xor .u64 x 18446744073709551615 = 18446744073709551615 - x := by
  show IntKind.u64.wrap ((BitVec.ofInt 64 x ^^^ BitVec.ofInt 64 18446744073709551615).toNat : Int) = _
  rw [show BitVec.ofInt 64 18446744073709551615 = BitVec.allOnes 64 by decide, BitVec.xor_allOnes, BitVec.toNat_not, BitVec.toNat_ofInt]
  simp [IntKind.wrap, IntKind.bits, IntKind.signed]
  omega
theorem xor_u64_zero {x : Int} (h1 : 0 ≤ x) (h2 : x < 18446744073709551616) : bits .xor .u64 x 0 = x := by
  show IntKind.u64.wrap ((BitVec.ofInt 64 x ^^^ BitVec.ofInt 64 0).toNat : Int) = _
  rw [show BitVec.ofInt 64 0 = 0#64 from rfl, BitVec.xor_zero, BitVec.toNat_ofInt]
  simp [IntKind.wrap, IntKind.bits, IntKind.signed]
  omega
def inI (a : Int) : Prop := -9223372036854775808 ≤ a ∧ a ≤ 9223372036854775807
theorem zzN_lt {a : Int} (h : inI a) : zzN a < 18446744073709551616 := by unfold zzN inI at *; split <;> omega
theorem encI_len (a : Int) : (encI a).length ≤ 9 := by unfold encI; rw [encN_len]; exact (sizeN_range _).2
theorem wrap_u64' (n : Int) : IntKind.u64.wrap n = n % 18446744073709551616 := IntKind.wrap_u64 n
theorem zz_bits {a : Int} (ha : inI a) : bits .xor .u64 (IntKind.u64.wrap (IntKind.u64.wrap a * 2 ^ min 1 64)) (IntKind.u64.wrap (a.fdiv (2 ^ min 63 64))) = ((zzN a : Nat) : Int) := by
  unfold inI at ha
  have e1 : ((2 : Int) ^ min 1 64) = 2 := by decide
  have e2 : ((2 : Int) ^ min 63 64) = 9223372036854775808 := by decide
  rw [e1, e2, Int.fdiv_eq_ediv_of_nonneg _ (by decide)]
  by_cases h : 0 ≤ a
  · have e3 : a / 9223372036854775808 = 0 := by omega
    rw [e3, IntKind.wrap_u64, IntKind.wrap_u64, IntKind.wrap_u64, show (0 : Int) % 18446744073709551616 = 0 from rfl, xor_u64_zero (by omega) (by omega)]
    unfold zzN
    rw [if_pos h]
    omega
  · have e3 : a / 9223372036854775808 = -1 := by omega
    rw [e3, IntKind.wrap_u64, IntKind.wrap_u64, IntKind.wrap_u64, show (-1 : Int) % 18446744073709551616 = 18446744073709551615 from rfl, xor_u64_ones (by omega) (by omega)]
    unfold zzN
    rw [if_neg h]
    omega
theorem F.num_Int_J {S : St} {l : Value} {bs : List Int} {a : Int} (hl : SlT byteE S l bs) (ha : inI a) (hL : bs.length < 1000000000) :
    J PR F.num_Int [l, .int .i64 a] S fun v S' => OwnT byteE S.n S' v (bs ++ encI a) ∧ S.Ext S' := by
  refine J_by PR.mixed F.num_Int.ok (by simp) ?_
  have hz := zzN_lt ha
  have hzb := zz_bits ha
  unfold inI at ha
  simp (disch := omega) only [go_sem, ↓reduceIte, Nat.reduceEqDiff, Nat.reduceAdd, Nat.reduceMul, Nat.reduceSub, Nat.reduceLT, Nat.reduceLeDiff, Nat.reduceBEq, reduceCtorEq, Int.reduceLT, Int.reduceEq, Int.reduceLE, Int.reduceAdd, Int.reduceSub, Int.reduceToNat, Int.reduceNeg, hzb]
  refine wJ_of (F.num_Uint_J hl hz hL) ?_; rintro v S1 ⟨ho, he⟩
  simp (disch := omega) only [go_sem, ↓reduceIte, Nat.reduceEqDiff, Nat.reduceAdd, Nat.reduceMul, Nat.reduceSub, Nat.reduceLT, Nat.reduceLeDiff, Nat.reduceBEq, reduceCtorEq, Int.reduceLT, Int.reduceEq, Int.reduceLE, Int.reduceAdd, Int.reduceSub, Int.reduceToNat, Int.reduceNeg]
  exact ⟨ho, he⟩
theorem F.osierref01_Int_J {S : St} {a : Int} (ha : inI a) : J PR F.osierref01_Int [.int .i64 a] S fun v S' => OwnT byteE S.n S' v (encI a) ∧ S.Ext S' := by
  refine J_by PR.mixed F.osierref01_Int.ok (by simp) ?_
  have hz := zzN_lt ha
  unfold inI at ha
  simp (disch := omega) only [go_sem, ↓reduceIte, Nat.reduceEqDiff, Nat.reduceAdd, Nat.reduceMul, Nat.reduceSub, Nat.reduceLT, Nat.reduceLeDiff, Nat.reduceBEq, reduceCtorEq, Int.reduceLT, Int.reduceEq, Int.reduceLE, Int.reduceAdd, Int.reduceSub, Int.reduceToNat, Int.reduceNeg]
  refine wcond_dec (fun h => ?_) (fun h => ?_)
  · simp (disch := omega) only [go_sem, ↓reduceIte, Nat.reduceEqDiff, Nat.reduceAdd, Nat.reduceMul, Nat.reduceSub, Nat.reduceLT, Nat.reduceLeDiff, Nat.reduceBEq, reduceCtorEq, Int.reduceLT, Int.reduceEq, Int.reduceLE, Int.reduceAdd, Int.reduceSub, Int.reduceToNat, Int.reduceNeg, wrapu64]
    have e : 2 * a = ((zzN a : Nat) : Int) := by unfold zzN; rw [if_pos h]; omega
    rw [e]
    refine wJ_of (F.osierref01_Uint_J hz) ?_; rintro v S1 ⟨ho, he⟩
    simp (disch := omega) only [go_sem, ↓reduceIte, Nat.reduceEqDiff, Nat.reduceAdd, Nat.reduceMul, Nat.reduceSub, Nat.reduceLT, Nat.reduceLeDiff, Nat.reduceBEq, reduceCtorEq, Int.reduceLT, Int.reduceEq, Int.reduceLE, Int.reduceAdd, Int.reduceSub, Int.reduceToNat, Int.reduceNeg]
    exact ⟨ho, he⟩
  · simp (disch := omega) only [go_sem, ↓reduceIte, Nat.reduceEqDiff, Nat.reduceAdd, Nat.reduceMul, Nat.reduceSub, Nat.reduceLT, Nat.reduceLeDiff, Nat.reduceBEq, reduceCtorEq, Int.reduceLT, Int.reduceEq, Int.reduceLE, Int.reduceAdd, Int.reduceSub, Int.reduceToNat, Int.reduceNeg, wrapu64]
    have e : 2 * (0 - (a + 1)) + 1 = ((zzN a : Nat) : Int) := by unfold zzN; rw [if_neg h]; omega
    rw [e]
    refine wJ_of (F.osierref01_Uint_J hz) ?_; rintro v S1 ⟨ho, he⟩
    simp (disch := omega) only [go_sem, ↓reduceIte, Nat.reduceEqDiff, Nat.reduceAdd, Nat.reduceMul, Nat.reduceSub, Nat.reduceLT, Nat.reduceLeDiff, Nat.reduceBEq, reduceCtorEq, Int.reduceLT, Int.reduceEq, Int.reduceLE, Int.reduceAdd, Int.reduceSub, Int.reduceToNat, Int.reduceNeg]
    exact ⟨ho, he⟩
theorem F.dots_Put_J {S : St} {l : Value} {bs : List Int} {d : Dot} (hl : SlT byteE S l bs) (h1 : inI d.1) (h2 : inI d.2) (hL : bs.length < 100000000) :
    J PR F.dots_Put [l, dotV d] S fun v S' => OwnT byteE S.n S' v (bs ++ (encI d.1 ++ encI d.2)) ∧ S.Ext S' := by
  refine J_by PR.mixed F.dots_Put.ok (by simp) ?_
  simp (disch := omega) only [go_sem, ↓reduceIte, Nat.reduceEqDiff, Nat.reduceAdd, Nat.reduceMul, Nat.reduceSub, Nat.reduceLT, Nat.reduceLeDiff, Nat.reduceBEq, reduceCtorEq, Int.reduceLT, Int.reduceEq, Int.reduceLE, Int.reduceAdd, Int.reduceSub, Int.reduceToNat, Int.reduceNeg]
  refine wfresh_of fun x hx => ?_
  simp (disch := omega) only [go_sem, ↓reduceIte, Nat.reduceEqDiff, Nat.reduceAdd, Nat.reduceMul, Nat.reduceSub, Nat.reduceLT, Nat.reduceLeDiff, Nat.reduceBEq, reduceCtorEq, Int.reduceLT, Int.reduceEq, Int.reduceLE, Int.reduceAdd, Int.reduceSub, Int.reduceToNat, Int.reduceNeg]
  have he := (St.Ext.refl S).put hx (.cells true 2 [.int .i64 d.1, .int .i64 d.2])
  have hxn := St.lt_put_self S x (.cells true 2 [.int .i64 d.1, .int .i64 d.2])
  refine wJ_of (F.num_Int_J (hl.ext byteE he) h1 (by omega)) ?_; rintro v1 S1 ⟨ho1, he1⟩
  have l1 : S1.cell ⟨x, 1, none⟩ = some (.int .i64 d.2) := by rw [he1.cell hxn]; simp (disch := omega) only [go_sem, ↓reduceIte, Nat.reduceEqDiff, Nat.reduceAdd, Nat.reduceMul, Nat.reduceSub, Nat.reduceLT, Nat.reduceLeDiff, Nat.reduceBEq, reduceCtorEq, Int.reduceLT, Int.reduceEq, Int.reduceLE, Int.reduceAdd, Int.reduceSub, Int.reduceToNat, Int.reduceNeg]
  have hlen := encI_len d.1
  simp (disch := omega) only [go_sem, ↓reduceIte, Nat.reduceEqDiff, Nat.reduceAdd, Nat.reduceMul, Nat.reduceSub, Nat.reduceLT, Nat.reduceLeDiff, Nat.reduceBEq, reduceCtorEq, Int.reduceLT, Int.reduceEq, Int.reduceLE, Int.reduceAdd, Int.reduceSub, Int.reduceToNat, Int.reduceNeg, l1]
  refine wJ_of (F.num_Int_J (ho1.sl byteE) h2 (by simp; omega)) ?_; rintro v2 S2 ⟨ho2, he2⟩
  simp (disch := omega) only [go_sem, ↓reduceIte, Nat.reduceEqDiff, Nat.reduceAdd, Nat.reduceMul, Nat.reduceSub, Nat.reduceLT, Nat.reduceLeDiff, Nat.reduceBEq, reduceCtorEq, Int.reduceLT, Int.reduceEq, Int.reduceLE, Int.reduceAdd, Int.reduceSub, Int.reduceToNat, Int.reduceNeg]
  rw [List.append_assoc] at ho2
  have e := he.trans he1
  exact ⟨ho2.mono byteE e.n, e.trans he2⟩
theorem F.osierref03_Put_J {S : St} {d : Dot} (h1 : inI d.1) (h2 : inI d.2) :
    J PR F.osierref03_Put [dotV d] S fun v S' => OwnT byteE S.n S' v (encI d.1 ++ encI d.2) ∧ S.Ext S' := by
  refine J_by PR.mixed F.osierref03_Put.ok (by simp) ?_
  simp (disch := omega) only [go_sem, ↓reduceIte, Nat.reduceEqDiff, Nat.reduceAdd, Nat.reduceMul, Nat.reduceSub, Nat.reduceLT, Nat.reduceLeDiff, Nat.reduceBEq, reduceCtorEq, Int.reduceLT, Int.reduceEq, Int.reduceLE, Int.reduceAdd, Int.reduceSub, Int.reduceToNat, Int.reduceNeg]
  refine wfresh_of fun x hx => ?_
  simp (disch := omega) only [go_sem, ↓reduceIte, Nat.reduceEqDiff, Nat.reduceAdd, Nat.reduceMul, Nat.reduceSub, Nat.reduceLT, Nat.reduceLeDiff, Nat.reduceBEq, reduceCtorEq, Int.reduceLT, Int.reduceEq, Int.reduceLE, Int.reduceAdd, Int.reduceSub, Int.reduceToNat, Int.reduceNeg]
  have he := (St.Ext.refl S).put hx (.cells true 2 [.int .i64 d.1, .int .i64 d.2])
  have hxn := St.lt_put_self S x (.cells true 2 [.int .i64 d.1, .int .i64 d.2])
  refine wJ_of (F.osierref01_Int_J h1) ?_; rintro v1 S1 ⟨ho1, he1⟩
  have l1 : S1.cell ⟨x, 1, none⟩ = some (.int .i64 d.2) := by rw [he1.cell hxn]; simp (disch := omega) only [go_sem, ↓reduceIte, Nat.reduceEqDiff, Nat.reduceAdd, Nat.reduceMul, Nat.reduceSub, Nat.reduceLT, Nat.reduceLeDiff, Nat.reduceBEq, reduceCtorEq, Int.reduceLT, Int.reduceEq, Int.reduceLE, Int.reduceAdd, Int.reduceSub, Int.reduceToNat, Int.reduceNeg]
  have hlen := encI_len d.1
  have hlen2 := encI_len d.2
  simp (disch := omega) only [go_sem, ↓reduceIte, Nat.reduceEqDiff, Nat.reduceAdd, Nat.reduceMul, Nat.reduceSub, Nat.reduceLT, Nat.reduceLeDiff, Nat.reduceBEq, reduceCtorEq, Int.reduceLT, Int.reduceEq, Int.reduceLE, Int.reduceAdd, Int.reduceSub, Int.reduceToNat, Int.reduceNeg, l1]
  refine wJ_of (F.osierref01_Int_J h2) ?_; rintro v2 S2 ⟨ho2, he2⟩
  have e := (he.trans he1).trans he2
  simp (disch := omega) only [go_sem, ↓reduceIte, Nat.reduceEqDiff, Nat.reduceAdd, Nat.reduceMul, Nat.reduceSub, Nat.reduceLT, Nat.reduceLeDiff, Nat.reduceBEq, reduceCtorEq, Int.reduceLT, Int.reduceEq, Int.reduceLE, Int.reduceAdd, Int.reduceSub, Int.reduceToNat, Int.reduceNeg]
  refine wE_app byteE (ho1.ext byteE he2) (ho2.sl byteE) rfl rfl (Nat.le_trans he1.n he2.n) (by omega) (by omega) fun v3 S3 ho3 hb3 hv3 => ?_
  simp (disch := omega) only [go_sem, ↓reduceIte, Nat.reduceEqDiff, Nat.reduceAdd, Nat.reduceMul, Nat.reduceSub, Nat.reduceLT, Nat.reduceLeDiff, Nat.reduceBEq, reduceCtorEq, Int.reduceLT, Int.reduceEq, Int.reduceLE, Int.reduceAdd, Int.reduceSub, Int.reduceToNat, Int.reduceNeg]
  exact ⟨ho3.mono byteE he.n, e.but hb3 fun j hj => by have := (ho1.blk byteE j hj).1; have := he.n; omega⟩
end Go.Osj

/- Contracts of layer 1: readers. -/
set_option linter.unusedSimpArgs false
namespace Go.Osj
/-- a reader: what is left, the error -/
def RdT (S : St) (q B : Nat) (bs : List Int) (e : Int) : Prop := ∃ v, S.obj q = some (.cells true 2 [v, .int .i64 e]) ∧ q < S.n ∧ SlT byteE S v bs ∧ (bs ≠ [] → blkOf v ≠ some q ∧ ∀ j, blkOf v = some j → j < B)
abbrev ptrV (q : Nat) : Value := .pointer (some ⟨q, 0, none⟩)
theorem RdT.lt {S : St} {q B : Nat} {bs : List Int} {e : Int} (h : RdT S q B bs e) : q < S.n := let ⟨_, _, h, _⟩ := h; h
theorem RdT.cell1 {S : St} {q B : Nat} {bs : List Int} {e : Int} (h : RdT S q B bs e) : S.cell ⟨q, 1, none⟩ = some (.int .i64 e) := by
  obtain ⟨v, ho, -⟩ := h
  rw [St.cell_def, ho]
  rfl
theorem RdT.cell0 {S : St} {q B : Nat} {bs : List Int} {e : Int} (h : RdT S q B bs e) : ∃ v, S.cell ⟨q, 0, none⟩ = some v ∧ True ∧ SlT byteE S v bs ∧ True := by
  obtain ⟨v, ho, -, hs, -⟩ := h
  exact ⟨v, by rw [St.cell_def, ho]; rfl, trivial, hs, trivial⟩
theorem RdT.keep {S S' : St} {q B : Nat} {bs : List Int} {e : Int} (h : RdT S q B bs e) (hn : S.n ≤ S'.n) (hq : S'.obj q = S.obj q) (ho : ∀ i, i < B → i < S.n → S'.obj i = S.obj i) : RdT S' q B bs e := by
  obtain ⟨v, h1, h2, ⟨base, cap, rfl, g1, g2, g3⟩, h4⟩ := h
  refine ⟨_, by rw [hq]; exact h1, by omega, ⟨base, cap, rfl, g1, g2, fun hne => ?_⟩, h4⟩
  obtain ⟨b, off, rfl, hb2, hl⟩ := g3 hne
  refine ⟨b, off, rfl, by omega, ?_⟩
  rw [St.loadN_def, ho b ((h4 hne).2 b rfl) hb2, ← St.loadN_def]
  exact hl
theorem but_put (S : St) (q : Nat) (o : AObj) : St.But (ptrV q) S (S.put q o) := ⟨by rw [St.put_n]; omega, fun i _ hn => St.put_other _ _ _ (by rintro rfl; exact hn rfl)⟩
theorem SlT.blk_but {S S' : St} {q : Nat} {v : Value} {bs : List Int} (h : SlT byteE S v bs) (hv : bs ≠ [] → blkOf v ≠ some q) (hb : St.But (ptrV q) S S') : SlT byteE S' v bs := by
  obtain ⟨base, cap, rfl, h1, h2, h3⟩ := h
  refine ⟨base, cap, rfl, h1, h2, fun hne => ?_⟩
  obtain ⟨b, off, rfl, hb2, hl⟩ := h3 hne
  refine ⟨b, off, rfl, by have := hb.n; omega, ?_⟩
  rw [St.loadN_def, hb.obj b hb2 (fun e => hv hne (by simpa [blkOf] using e.symm)), ← St.loadN_def]
  exact hl
theorem slV_blk {esz : Nat} {v u : Value} {lo hi : Option Value} (h : slV esz v lo hi none = some u) : blkOf u = blkOf v := by
  cases v <;> simp only [slV] at h <;> try (simp at h; done)
  rename_i base len cap
  cases base with
  | none =>
    simp only at h
    split at h
    · simp only [Option.bind_eq_some_iff, Option.map_eq_some_iff] at h
      obtain ⟨m, _, h, _, l, _, rfl⟩ := h
      rfl
    · simp at h
  | some a =>
    simp only [Option.bind_eq_some_iff] at h
    obtain ⟨m, _, h, _, l, _, hh⟩ := h
    split at hh
    · simp at hh; subst hh; rfl
    · split at hh
      · simp at hh; subst hh; rfl
      · simp at hh
theorem slV_cells {esz : Nat} {v u : Value} {lo hi : Option Value} (h : slV esz v lo hi none = some u) : u.cells = #[u] := by
  cases v <;> simp only [slV] at h <;> try (simp at h; done)
  rename_i base len cap
  cases base with
  | none =>
    simp only at h
    split at h
    · simp only [Option.bind_eq_some_iff, Option.map_eq_some_iff] at h
      obtain ⟨m, _, h, _, l, _, rfl⟩ := h
      rfl
    · simp at h
  | some a =>
    simp only [Option.bind_eq_some_iff] at h
    obtain ⟨m, _, h, _, l, _, hh⟩ := h
    split at hh
    · simp at hh; subst hh; rfl
    · split at hh
      · simp at hh; subst hh; rfl
      · simp at hh
theorem RdT.set {S : St} {q B : Nat} {v : Value} {bs : List Int} {e : Int} (hs : SlT byteE S v bs) (hv : bs ≠ [] → blkOf v ≠ some q ∧ ∀ j, blkOf v = some j → j < B) : RdT (S.put q (.cells true 2 [v, .int .i64 e])) q B bs e :=
  ⟨v, St.put_same _ _ _, St.lt_put_self _ _ _, hs.blk_but (fun h => (hv h).1) (but_put ..), hv⟩
theorem RdT.but {S S' : St} {q B : Nat} {bs : List Int} {e : Int} (h : RdT S q B bs e) (he : S.Ext S') : RdT S' q B bs e := by
  obtain ⟨v, h1, h2, h3, h4⟩ := h
  exact ⟨v, by rw [he.obj q h2]; exact h1, by have := he.n; omega, h3.ext byteE he, h4⟩
theorem but_refl (v : Value) (S : St) : St.But v S S := ⟨Nat.le_refl _, fun _ _ _ => rfl⟩
theorem St.But.trans {v : Value} {S S1 S2 : St} (h1 : St.But v S S1) (h2 : St.But v S1 S2) : St.But v S S2 :=
  ⟨Nat.le_trans h1.n h2.n, fun i hi hn => (h2.obj i (by have := h1.n; omega) hn).trans (h1.obj i hi hn)⟩
theorem St.Ext.toBut {v : Value} {S S' : St} (h : S.Ext S') : St.But v S S' := ⟨h.n, fun i hi _ => h.obj i hi⟩
theorem nil_sl (S : St) : SlT byteE S (.slice none 0 0) [] := (OwnT.nil byteE 0 S).sl byteE
theorem F.num_Reader_Fail_J {S : St} {q B : Nat} {bs : List Int} {e x : Int} (h : RdT S q B bs e) (hx : x ≠ 0) :
    J PR F.num_Reader_Fail [ptrV q, .int .i64 x] S fun v S' => v = .tuple #[] ∧ RdT S' q B (if e = 0 then [] else bs) (if e = 0 then x else e) ∧ St.But (ptrV q) S S' := by
  have hr := h
  obtain ⟨v, ho, hq, hs, hv⟩ := h
  obtain ⟨base, cap, rfl⟩ := hs.len byteE
  have c0 : S.cell ⟨q, 0, none⟩ = some (.slice base bs.length cap) := by rw [St.cell_def, ho]; rfl
  have c1 : S.cell ⟨q, 1, none⟩ = some (.int .i64 e) := by rw [St.cell_def, ho]; rfl
  refine J_by PR.mixed F.num_Reader_Fail.ok (by simp) ?_
  by_cases he : e = 0
  · subst he
    simp (disch := omega) only [go_sem, ↓reduceIte, Nat.reduceEqDiff, Nat.reduceAdd, Nat.reduceMul, Nat.reduceSub, Nat.reduceLT, Nat.reduceLeDiff, Nat.reduceBEq, reduceCtorEq, Int.reduceLT, Int.reduceEq, Int.reduceLE, Int.reduceAdd, Int.reduceSub, Int.reduceToNat, Int.reduceNeg, eqN, Option.isNone_none, c0, c1, hx]
    refine wst_of ho rfl rfl (by simp) (by simp) ?_
    simp (disch := omega) only [go_sem, ↓reduceIte, Nat.reduceEqDiff, Nat.reduceAdd, Nat.reduceMul, Nat.reduceSub, Nat.reduceLT, Nat.reduceLeDiff, Nat.reduceBEq, reduceCtorEq, Int.reduceLT, Int.reduceEq, Int.reduceLE, Int.reduceAdd, Int.reduceSub, Int.reduceToNat, Int.reduceNeg]
    refine ⟨RdT.set (nil_sl S) (by simp), but_put ..⟩
  · simp (disch := omega) only [go_sem, ↓reduceIte, Nat.reduceEqDiff, Nat.reduceAdd, Nat.reduceMul, Nat.reduceSub, Nat.reduceLT, Nat.reduceLeDiff, Nat.reduceBEq, reduceCtorEq, Int.reduceLT, Int.reduceEq, Int.reduceLE, Int.reduceAdd, Int.reduceSub, Int.reduceToNat, Int.reduceNeg, eqN, Option.isNone_none, c0, c1, he]
    exact ⟨hr, but_refl ..⟩
theorem F.osierref01_R_Fail_J {S : St} {q B : Nat} {bs : List Int} {e x : Int} (h : RdT S q B bs e) (hx : x ≠ 0) :
    J PR F.osierref01_R_Fail [ptrV q, .int .i64 x] S fun v S' => v = .tuple #[] ∧ RdT S' q B (if e = 0 then [] else bs) (if e = 0 then x else e) ∧ St.But (ptrV q) S S' := by
  have hr := h
  obtain ⟨v, ho, hq, hs, hv⟩ := h
  obtain ⟨base, cap, rfl⟩ := hs.len byteE
  have c0 : S.cell ⟨q, 0, none⟩ = some (.slice base bs.length cap) := by rw [St.cell_def, ho]; rfl
  have c1 : S.cell ⟨q, 1, none⟩ = some (.int .i64 e) := by rw [St.cell_def, ho]; rfl
  refine J_by PR.mixed F.osierref01_R_Fail.ok (by simp) ?_
  by_cases he : e = 0
  · subst he
    simp (disch := omega) only [go_sem, ↓reduceIte, Nat.reduceEqDiff, Nat.reduceAdd, Nat.reduceMul, Nat.reduceSub, Nat.reduceLT, Nat.reduceLeDiff, Nat.reduceBEq, reduceCtorEq, Int.reduceLT, Int.reduceEq, Int.reduceLE, Int.reduceAdd, Int.reduceSub, Int.reduceToNat, Int.reduceNeg, eqN, Option.isNone_none, c0, c1, hx]
    refine wst_of ho rfl rfl (by simp) (by simp) ?_
    simp (disch := omega) only [go_sem, ↓reduceIte, Nat.reduceEqDiff, Nat.reduceAdd, Nat.reduceMul, Nat.reduceSub, Nat.reduceLT, Nat.reduceLeDiff, Nat.reduceBEq, reduceCtorEq, Int.reduceLT, Int.reduceEq, Int.reduceLE, Int.reduceAdd, Int.reduceSub, Int.reduceToNat, Int.reduceNeg]
    refine ⟨RdT.set (nil_sl S) (by simp), but_put ..⟩
  · simp (disch := omega) only [go_sem, ↓reduceIte, Nat.reduceEqDiff, Nat.reduceAdd, Nat.reduceMul, Nat.reduceSub, Nat.reduceLT, Nat.reduceLeDiff, Nat.reduceBEq, reduceCtorEq, Int.reduceLT, Int.reduceEq, Int.reduceLE, Int.reduceAdd, Int.reduceSub, Int.reduceToNat, Int.reduceNeg, eqN, Option.isNone_none, c0, c1, he]
    exact ⟨hr, but_refl ..⟩
theorem F.num_Reader_Left_J {S : St} {q B : Nat} {bs : List Int} {e : Int} (h : RdT S q B bs e) : J PR F.num_Reader_Left [ptrV q] S fun v S' => v = .int .i64 bs.length ∧ S = S' := by
  obtain ⟨v, ho, hq, hs, hv⟩ := h
  obtain ⟨base, cap, rfl⟩ := hs.len byteE
  have c0 : S.cell ⟨q, 0, none⟩ = some (.slice base bs.length cap) := by rw [St.cell_def, ho]; rfl
  refine J_by PR.mixed F.num_Reader_Left.ok (by simp) ?_
  simp (disch := omega) only [go_sem, ↓reduceIte, Nat.reduceEqDiff, Nat.reduceAdd, Nat.reduceMul, Nat.reduceSub, Nat.reduceLT, Nat.reduceLeDiff, Nat.reduceBEq, reduceCtorEq, Int.reduceLT, Int.reduceEq, Int.reduceLE, Int.reduceAdd, Int.reduceSub, Int.reduceToNat, Int.reduceNeg, eqN, Option.isNone_none, c0]
theorem F.num_Reader_Err_J {S : St} {q B : Nat} {bs : List Int} {e : Int} (h : RdT S q B bs e) : J PR F.num_Reader_Err [ptrV q] S fun v S' => v = .int .i64 e ∧ S = S' := by
  obtain ⟨v, ho, hq, hs, hv⟩ := h
  have c1 : S.cell ⟨q, 1, none⟩ = some (.int .i64 e) := by rw [St.cell_def, ho]; rfl
  refine J_by PR.mixed F.num_Reader_Err.ok (by simp) ?_
  simp (disch := omega) only [go_sem, ↓reduceIte, Nat.reduceEqDiff, Nat.reduceAdd, Nat.reduceMul, Nat.reduceSub, Nat.reduceLT, Nat.reduceLeDiff, Nat.reduceBEq, reduceCtorEq, Int.reduceLT, Int.reduceEq, Int.reduceLE, Int.reduceAdd, Int.reduceSub, Int.reduceToNat, Int.reduceNeg, eqN, Option.isNone_none, c1]
theorem F.num_Read_J {S : St} {l : Value} {bs : List Int} (hl : SlT byteE S l bs) : J PR F.num_Read [l] S fun v S' => ∃ q, v = ptrV q ∧ S.n ≤ q ∧ RdT S' q S.n bs 0 ∧ S.Ext S' := by
  obtain ⟨base, cap, rfl⟩ := hl.len byteE
  refine J_by PR.mixed F.num_Read.ok (by simp) ?_
  simp (disch := omega) only [go_sem, ↓reduceIte, Nat.reduceEqDiff, Nat.reduceAdd, Nat.reduceMul, Nat.reduceSub, Nat.reduceLT, Nat.reduceLeDiff, Nat.reduceBEq, reduceCtorEq, Int.reduceLT, Int.reduceEq, Int.reduceLE, Int.reduceAdd, Int.reduceSub, Int.reduceToNat, Int.reduceNeg]
  refine wfresh_of fun q hq => ?_
  simp (disch := omega) only [go_sem, ↓reduceIte, Nat.reduceEqDiff, Nat.reduceAdd, Nat.reduceMul, Nat.reduceSub, Nat.reduceLT, Nat.reduceLeDiff, Nat.reduceBEq, reduceCtorEq, Int.reduceLT, Int.reduceEq, Int.reduceLE, Int.reduceAdd, Int.reduceSub, Int.reduceToNat, Int.reduceNeg]
  have he := (St.Ext.refl S).put hq (.cells true 2 [.slice base bs.length cap, .int .i64 0])
  refine ⟨q, rfl, hq, ⟨_, St.put_same _ _ _, St.lt_put_self _ _ _, hl.ext byteE he, fun hne => ?_⟩, he⟩
  obtain ⟨b2, c2, h1, -, -, h4⟩ := hl
  obtain ⟨b, off, rfl, hlt, -⟩ := h4 hne
  injection h1 with h1 h2 h3
  subst h1
  refine ⟨fun hb => ?_, fun j hj => ?_⟩
  · simp [blkOf] at hb
    omega
  · simp [blkOf] at hj
    omega
theorem F.num_Reader_take_J {S : St} {q B : Nat} {bs : List Int} {e : Int} {n : Nat} (h : RdT S q B bs e) (hL : bs.length < 1000000000) :
    J PR F.num_Reader_take [ptrV q, .int .u64 n] S fun v S' => St.But (ptrV q) S S' ∧ ((e = 0 ∧ n ≤ bs.length ∧ SlT byteE S' v (bs.take n) ∧ (bs.take n ≠ [] → ∀ j, blkOf v = some j → j < B) ∧ RdT S' q B (bs.drop n) 0) ∨ (¬ (e = 0 ∧ n ≤ bs.length) ∧ v = .slice none 0 0 ∧ RdT S' q B (if e = 0 then [] else bs) (if e = 0 then 10 else e))) := by
  have hr := h
  obtain ⟨v, ho, hq, hs, hv⟩ := h
  obtain ⟨base, cap, rfl⟩ := hs.len byteE
  have c0 : S.cell ⟨q, 0, none⟩ = some (.slice base bs.length cap) := by rw [St.cell_def, ho]; rfl
  have c1 : S.cell ⟨q, 1, none⟩ = some (.int .i64 e) := by rw [St.cell_def, ho]; rfl
  refine J_by PR.mixed F.num_Reader_take.ok (by simp) ?_
  by_cases he : e = 0
  · subst he
    simp (disch := omega) only [go_sem, ↓reduceIte, Nat.reduceEqDiff, Nat.reduceAdd, Nat.reduceMul, Nat.reduceSub, Nat.reduceLT, Nat.reduceLeDiff, Nat.reduceBEq, reduceCtorEq, Int.reduceLT, Int.reduceEq, Int.reduceLE, Int.reduceAdd, Int.reduceSub, Int.reduceToNat, Int.reduceNeg, eqN, Option.isNone_none, c0, c1, wrapu64]
    refine wcond_dec (fun hn => ?_) (fun hn => ?_)
    · simp (disch := omega) only [go_sem, ↓reduceIte, Nat.reduceEqDiff, Nat.reduceAdd, Nat.reduceMul, Nat.reduceSub, Nat.reduceLT, Nat.reduceLeDiff, Nat.reduceBEq, reduceCtorEq, Int.reduceLT, Int.reduceEq, Int.reduceLE, Int.reduceAdd, Int.reduceSub, Int.reduceToNat, Int.reduceNeg]
      refine wJ_of (F.num_Reader_Fail_J (x := 10) hr (by decide)) ?_; rintro _ S1 ⟨rfl, hr1, hb⟩
      simp (disch := omega) only [go_sem, ↓reduceIte, Nat.reduceEqDiff, Nat.reduceAdd, Nat.reduceMul, Nat.reduceSub, Nat.reduceLT, Nat.reduceLeDiff, Nat.reduceBEq, reduceCtorEq, Int.reduceLT, Int.reduceEq, Int.reduceLE, Int.reduceAdd, Int.reduceSub, Int.reduceToNat, Int.reduceNeg]
      exact ⟨hb, .inr ⟨by omega, by simpa using hr1⟩⟩
    · have hn' : n ≤ bs.length := by omega
      obtain ⟨u, hu, hus⟩ := hs.to byteE (k := n) (q := .u64) (i := n) rfl hn'
      replace hu : slV 1 _ _ _ _ = _ := hu
      obtain ⟨u2, hu2, hus2⟩ := hs.from byteE (l := n) (q := .u64) (i := n) rfl hn'
      replace hu2 : slV 1 _ _ _ _ = _ := hu2
      simp (disch := omega) only [go_sem, ↓reduceIte, Nat.reduceEqDiff, Nat.reduceAdd, Nat.reduceMul, Nat.reduceSub, Nat.reduceLT, Nat.reduceLeDiff, Nat.reduceBEq, reduceCtorEq, Int.reduceLT, Int.reduceEq, Int.reduceLE, Int.reduceAdd, Int.reduceSub, Int.reduceToNat, Int.reduceNeg, c0, c1, hu, hu2]
      have hc2 := slV_cells hu2
      refine wst_of ho (by rw [hc2]; rfl) (by rw [hc2]; have := hus2.len byteE; obtain ⟨b, c, rfl⟩ := this; rfl) (by simp) (by simp) ?_
      rw [hc2]
      simp (disch := omega) only [go_sem, ↓reduceIte, Nat.reduceEqDiff, Nat.reduceAdd, Nat.reduceMul, Nat.reduceSub, Nat.reduceLT, Nat.reduceLeDiff, Nat.reduceBEq, reduceCtorEq, Int.reduceLT, Int.reduceEq, Int.reduceLE, Int.reduceAdd, Int.reduceSub, Int.reduceToNat, Int.reduceNeg]
      have hne : ∀ x : List Int, bs = [] → x ≠ [] → (x = bs.take n ∨ x = bs.drop n) → False := by
        rintro x rfl h1 (h2 | h2) <;> simp at h2 <;> exact h1 h2
      have hbu : bs.take n ≠ [] → blkOf u ≠ some q := fun h => by
        rw [slV_blk hu]
        exact (hv fun hb => hne _ hb h (.inl rfl)).1
      have hbu2 : bs.drop n ≠ [] → blkOf u2 ≠ some q ∧ ∀ j, blkOf u2 = some j → j < B := fun h => by
        rw [slV_blk hu2]
        exact hv fun hb => hne _ hb h (.inr rfl)
      exact ⟨but_put .., .inl ⟨hn', hus.blk_but hbu (but_put ..), fun h => by rw [slV_blk hu]; exact (hv fun hb => hne _ hb h (.inl rfl)).2, RdT.set hus2 hbu2⟩⟩
  · simp (disch := omega) only [go_sem, ↓reduceIte, Nat.reduceEqDiff, Nat.reduceAdd, Nat.reduceMul, Nat.reduceSub, Nat.reduceLT, Nat.reduceLeDiff, Nat.reduceBEq, reduceCtorEq, Int.reduceLT, Int.reduceEq, Int.reduceLE, Int.reduceAdd, Int.reduceSub, Int.reduceToNat, Int.reduceNeg, eqN, Option.isNone_none, c0, c1, he]
    refine wJ_of (F.num_Reader_Fail_J (x := 10) hr (by decide)) ?_; rintro _ S1 ⟨rfl, hr1, hb⟩
    simp (disch := omega) only [go_sem, ↓reduceIte, Nat.reduceEqDiff, Nat.reduceAdd, Nat.reduceMul, Nat.reduceSub, Nat.reduceLT, Nat.reduceLeDiff, Nat.reduceBEq, reduceCtorEq, Int.reduceLT, Int.reduceEq, Int.reduceLE, Int.reduceAdd, Int.reduceSub, Int.reduceToNat, Int.reduceNeg]
    exact ⟨hb, .inr (by simpa [he] using hr1)⟩
end Go.Osj
