/- Plain facts about numbers as bytes. -/
import Derived.Test.YtnofakkcipcphaaN
import Derived.Laws.BitsAllLaws
import Derived.Laws.Bits64b
namespace Go.Osj
/-- the bit length of a number -/
def GoodL (n L : Nat) : Prop := (n = 0 ∧ L = 0) ∨ (1 ≤ L ∧ 2 ^ (L - 1) ≤ n ∧ n < 2 ^ L)
theorem GoodL.shift {n L k : Nat} (hn : 2 ^ k ≤ n) (h : GoodL (n / 2 ^ k) L) : GoodL n (L + k) := by
  have hp : 0 < 2 ^ k := Nat.two_pow_pos k
  rcases h with ⟨h1, -⟩ | ⟨h1, h2, h3⟩
  · rw [Nat.div_eq_zero_iff] at h1
    omega
  · refine .inr ⟨by omega, ?_, ?_⟩
    · rw [Nat.le_div_iff_mul_le hp, ← Nat.pow_add] at h2
      rw [show L + k - 1 = L - 1 + k by omega]
      exact h2
    · rw [Nat.div_lt_iff_lt_mul hp, ← Nat.pow_add] at h3
      exact h3
/-- how many bytes a number has -/
def sizeN (n : Nat) : Nat := if n < 128 then 1 else if n < 16384 then 2 else if n < 2097152 then 3 else if n < 268435456 then 4 else if n < 34359738368 then 5 else if n < 4398046511104 then 6 else if n < 562949953421312 then 7 else if n < 72057594037927936 then 8 else 9
theorem sizeN_range (n : Nat) : 1 ≤ sizeN n ∧ sizeN n ≤ 9 := by unfold sizeN; repeat' split
                                                                all_goals omega
theorem sizeN_of {n k : Nat} (h1 : 1 ≤ k) (h9 : k ≤ 9) (hlo : 2 ≤ k → 2 ^ (7 * (k - 1)) ≤ n) (hhi : k ≤ 8 → n < 2 ^ (7 * k)) : sizeN n = k := by
  have : k = 1 ∨ k = 2 ∨ k = 3 ∨ k = 4 ∨ k = 5 ∨ k = 6 ∨ k = 7 ∨ k = 8 ∨ k = 9 := by omega
  rcases this with rfl | rfl | rfl | rfl | rfl | rfl | rfl | rfl | rfl <;> simp at hlo hhi <;> unfold sizeN <;> repeat' split
  all_goals omega
theorem sizeN_lo {n : Nat} (h : 2 ≤ sizeN n) : 2 ^ (7 * (sizeN n - 1)) ≤ n := by
  unfold sizeN at *
  repeat' split at h
  all_goals first | omega | skip
  all_goals (simp only [*, if_true, if_false]; try omega)
theorem sizeN_hi {n : Nat} (h : sizeN n ≤ 8) : n < 2 ^ (7 * sizeN n) := by
  unfold sizeN at *
  repeat' split at h
  all_goals first | omega | skip
  all_goals (simp only [*, if_true, if_false]; try omega)
theorem sizeN_good {n L : Nat} (h : GoodL n L) : min (max ((L + 6) / 7) 1) 9 = sizeN n := by
  refine (sizeN_of (by omega) (by omega) (fun hk => ?_) (fun hk => ?_)).symm
  · rcases h with ⟨h1, h2⟩ | ⟨h1, h2, h3⟩
    · omega
    · refine Nat.le_trans (Nat.pow_le_pow_right (by decide) ?_) h2
      omega
  · rcases h with ⟨h1, h2⟩ | ⟨h1, h2, h3⟩
    · subst h1; exact Nat.two_pow_pos _
    · refine Nat.lt_of_lt_of_le h3 (Nat.pow_le_pow_right (by decide) ?_)
      omega
/-- the bits that tell the length -/
def headN (k : Nat) : Nat := 256 - 2 ^ (9 - k)
/-- the last k bytes of a number, the greatest first -/
def beN (n : Nat) : Nat → List Int
  | 0 => []
  | k + 1 => beN (n / 256) k ++ [((n % 256 : Nat) : Int)]
theorem beN_len (n k : Nat) : (beN n k).length = k := by
  induction k generalizing n with
  | zero => rfl
  | succ k ih => simp [beN, ih]
theorem beN_get (n : Nat) : ∀ (k i : Nat) (h : i < (beN n k).length), (beN n k)[i] = ((n / 256 ^ (k - 1 - i) % 256 : Nat) : Int) := by
  intro k
  induction k generalizing n with
  | zero => intro i h; simp [beN] at h
  | succ k ih =>
    intro i h
    rw [beN_len] at h
    simp only [beN]
    rw [List.getElem_append]
    split
    · rename_i hi
      rw [beN_len] at hi
      rw [ih]
      rw [Nat.div_div_eq_div_mul, ← Nat.pow_succ']
      congr 4
      omega
    · rename_i hi
      rw [beN_len] at hi
      have : i = k := by omega
      subst this
      simp
def encN (n : Nat) : List Int := (beN n (sizeN n)).modify 0 fun b => b + headN (sizeN n)
theorem encN_len (n : Nat) : (encN n).length = sizeN n := by simp [encN, beN_len]
/-- a number with a sign, as one without -/
def zzN (a : Int) : Nat := if 0 ≤ a then (2 * a).toNat else (2 * (-(a + 1)) + 1).toNat
def unzz (n : Nat) : Int := if n % 2 = 0 then (n / 2 : Nat) else -((n / 2 : Nat) : Int) - 1
theorem unzz_zz (a : Int) : unzz (zzN a) = a := by unfold unzz zzN; repeat' split
                                                   all_goals omega
def encI (a : Int) : List Int := encN (zzN a)
end Go.Osj
