/- Trees of blocks: what a move leaves as it is. -/
import Derived.Test.YtdabompehgancaaM
import Derived.Test.YtdabompehgancaaXC
set_option linter.unusedVariables false
set_option linter.unusedSimpArgs false
set_option maxHeartbeats 1000000
namespace Go.Osj
theorem moveA_good {L : List Mv} (h : GoodM L) (m : Mv) : GoodM (moveA L m).2 := by
  unfold moveA
  split
  · exact h
  rename_i hn
  split
  · exact h
  · exact h.ins (fun e => hn (.inl e)) (fun e => hn (.inr e))
theorem moveA_mem {L : List Mv} {m x : Mv} (h : x ∈ (moveA L m).2) : x = m ∨ x ∈ L := by
  rcases moveA_cases L m with ⟨-, e⟩ | ⟨-, e⟩
  · rw [e] at h
    exact List.mem_cons.1 ((insM_perm m L).mem_iff.1 h)
  · rw [e] at h
    exact .inr h
theorem moveA_len (L : List Mv) (m : Mv) : (moveA L m).2.length ≤ L.length + 1 := by
  rcases moveA_cases L m with ⟨-, e⟩ | ⟨-, e⟩
  · rw [e, insM_len]; exact Nat.le_refl _
  · rw [e]; omega
theorem absA {n : Int} (h1 : -9223372036854775808 ≤ n) (h2 : n ≤ 9223372036854775807) (hn : n < 0) : IntKind.i64.wrap (0 - IntKind.i64.wrap (n + 1)) = -(n + 1) := by
  rw [wrap64 (n := n + 1) (by omega) (by omega), wrap64 (by omega) (by omega)]
  omega
theorem tmod_nat {a : Int} {n : Nat} (ha : 0 ≤ a) (hn : 0 < n) : ∃ k : Nat, a.tmod (n : Int) = k ∧ k < n := by
  refine ⟨(a.tmod n).toNat, ?_, ?_⟩
  · rw [Int.toNat_of_nonneg (Int.tmod_nonneg _ ha)]
  · have h1 := Int.tmod_lt_of_pos a (b := (n : Int)) (by omega)
    have h2 := Int.tmod_nonneg (b := (n : Int)) ha
    omega
end Go.Osj
