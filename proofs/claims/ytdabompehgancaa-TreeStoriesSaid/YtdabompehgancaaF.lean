/- Contracts of layer 3, more: Same, Minus. -/
import Derived.Test.YtdabompehgancaaD
set_option linter.unusedVariables false
set_option linter.unusedSimpArgs false
namespace Go.Osj

theorem SlT.dot {S : St} {base : Option Addr} {n cap : Nat} {xs : List Dot} (h : SlT dotE S (.slice base n cap) xs) {i : Nat} (hi : i < xs.length) :
    ∃ b off, base = some ⟨b, off, none⟩ ∧ b < S.n ∧ S.loadN ⟨b, off + i * 2, none⟩ 2 = some [.int .i64 xs[i].1, .int .i64 xs[i].2] := by
  obtain ⟨b, off, h1, h2, h3, -⟩ := h.at dotE (i := i) (x := xs[i]) (by simp)
  exact ⟨b, off, h1, h2, h3⟩

theorem F.osierref03_Same.J {S : St} {l k : Value} {xs ys : List Dot} (hl : SlT dotE S l xs) (hk : SlT dotE S k ys) (hL : xs.length < 4611686018427387904) : J PR F.osierref03_Same [l, k] S fun v S' => v = .bool (decide (xs = ys)) ∧ S = S' := by
  obtain ⟨base, cap, rfl⟩ := hl.len dotE
  obtain ⟨base2, cap2, rfl⟩ := hk.len dotE
  refine J_by PR.mixed F.osierref03_Same.ok (by simp) ?_
  simp (disch := omega) only [go_sem, ↓reduceIte, Nat.reduceEqDiff, Nat.reduceAdd, Nat.reduceMul, Nat.reduceSub, Nat.reduceLT, Nat.reduceLeDiff, Nat.reduceBEq, reduceCtorEq, Int.reduceLT, Int.reduceEq, Int.reduceLE, Int.reduceAdd, Int.reduceSub, Int.reduceToNat, Int.reduceNeg]
  refine wcond_ndec (fun h => ?_) (fun h => ?_)
  · simp (disch := omega) only [go_sem, ↓reduceIte, Nat.reduceEqDiff, Nat.reduceAdd, Nat.reduceMul, Nat.reduceSub, Nat.reduceLT, Nat.reduceLeDiff, Nat.reduceBEq, reduceCtorEq, Int.reduceLT, Int.reduceEq, Int.reduceLE, Int.reduceAdd, Int.reduceSub, Int.reduceToNat, Int.reduceNeg]
    exact vb_false (fun e => h (by rw [e]))
  · have hlen : xs.length = ys.length := by omega
    simp (disch := omega) only [go_sem, ↓reduceIte, Nat.reduceEqDiff, Nat.reduceAdd, Nat.reduceMul, Nat.reduceSub, Nat.reduceLT, Nat.reduceLeDiff, Nat.reduceBEq, reduceCtorEq, Int.reduceLT, Int.reduceEq, Int.reduceLE, Int.reduceAdd, Int.reduceSub, Int.reduceToNat, Int.reduceNeg]
    refine wC_loop (fun n fr S' => ∃ i, n = xs.length - i ∧ i ≤ xs.length ∧ S' = S ∧ fr 0 = .slice base xs.length cap ∧ fr 1 = .slice base2 ys.length cap2 ∧ fr 5 = .int .i64 (i : Nat) ∧ xs.take i = ys.take i) xs.length ⟨0, by simp (disch := omega) only [go_sem, ↓reduceIte, Nat.reduceEqDiff, Nat.reduceAdd, Nat.reduceMul, Nat.reduceSub, Nat.reduceLT, Nat.reduceLeDiff, Nat.reduceBEq, reduceCtorEq, Int.reduceLT, Int.reduceEq, Int.reduceLE, Int.reduceAdd, Int.reduceSub, Int.reduceToNat, Int.reduceNeg]; simp⟩ ?_
    rintro n fr S' ⟨i, rfl, hi, rfl, h0, h1, h5, heq⟩
    simp (disch := omega) only [go_sem, ↓reduceIte, Nat.reduceEqDiff, Nat.reduceAdd, Nat.reduceMul, Nat.reduceSub, Nat.reduceLT, Nat.reduceLeDiff, Nat.reduceBEq, reduceCtorEq, Int.reduceLT, Int.reduceEq, Int.reduceLE, Int.reduceAdd, Int.reduceSub, Int.reduceToNat, Int.reduceNeg, F.osierref03_Same.l0, h0, h1, h5]
    refine wcond_dec (fun hlt => ?_) (fun hge => ?_)
    · have hlx : i < xs.length := by omega
      have hly : i < ys.length := by omega
      obtain ⟨b, off, rfl, hb, hx⟩ := hl.dot hlx
      obtain ⟨c, off2, rfl, hc, hy⟩ := hk.dot hly
      have c1 : (0 : Int) ≤ (i : Int) ∧ (i : Int) < (xs.length : Int) := by omega
      have c2 : (i : Int) < (ys.length : Int) := by omega
      simp (disch := omega) only [go_sem, ↓reduceIte, Nat.reduceEqDiff, Nat.reduceAdd, Nat.reduceMul, Nat.reduceSub, Nat.reduceLT, Nat.reduceLeDiff, Nat.reduceBEq, reduceCtorEq, Int.reduceLT, Int.reduceEq, Int.reduceLE, Int.reduceAdd, Int.reduceSub, Int.reduceToNat, Int.reduceNeg, h0, h1, h5, c1, c2, hx, hy, eqV_dot]
      refine wcond_ndec (fun hq => ?_) (fun hq => ?_)
      · simp (disch := omega) only [go_sem, ↓reduceIte, Nat.reduceEqDiff, Nat.reduceAdd, Nat.reduceMul, Nat.reduceSub, Nat.reduceLT, Nat.reduceLeDiff, Nat.reduceBEq, reduceCtorEq, Int.reduceLT, Int.reduceEq, Int.reduceLE, Int.reduceAdd, Int.reduceSub, Int.reduceToNat, Int.reduceNeg]
        exact vb_false (fun e => hq (by subst e; rfl))
      · simp (disch := omega) only [go_sem, ↓reduceIte, Nat.reduceEqDiff, Nat.reduceAdd, Nat.reduceMul, Nat.reduceSub, Nat.reduceLT, Nat.reduceLeDiff, Nat.reduceBEq, reduceCtorEq, Int.reduceLT, Int.reduceEq, Int.reduceLE, Int.reduceAdd, Int.reduceSub, Int.reduceToNat, Int.reduceNeg, h0, h1, h5]
        refine ⟨xs.length - (i + 1), by omega, i + 1, rfl, by omega, rfl, ?_⟩
        rw [take_snoc (List.getElem?_eq_getElem hlx), take_snoc (List.getElem?_eq_getElem hly), heq, hq]
    · simp (disch := omega) only [go_sem, ↓reduceIte, Nat.reduceEqDiff, Nat.reduceAdd, Nat.reduceMul, Nat.reduceSub, Nat.reduceLT, Nat.reduceLeDiff, Nat.reduceBEq, reduceCtorEq, Int.reduceLT, Int.reduceEq, Int.reduceLE, Int.reduceAdd, Int.reduceSub, Int.reduceToNat, Int.reduceNeg]
      rw [List.take_of_length_le (by omega), List.take_of_length_le (by omega)] at heq
      exact vb_true heq

def minusOf (m : List (Dot × Bool)) (ys : List Dot) : List (Dot × Bool) := ys.foldl (fun m d => adel d m) m
theorem minusOf_keys : ∀ (ys : List Dot) (m : List (Dot × Bool)), (m.map Prod.fst).Nodup → ((minusOf m ys).map Prod.fst).Nodup ∧ ∀ d, d ∈ (minusOf m ys).map Prod.fst ↔ d ∉ ys ∧ d ∈ m.map Prod.fst
  | [], m, h => ⟨h, fun d => by simp [minusOf]⟩
  | y :: ys, m, h => by
    obtain ⟨g1, g2⟩ := adel_keys (k := y) h
    obtain ⟨h1, h2⟩ := minusOf_keys ys (adel y m) g1
    refine ⟨h1, fun d => ?_⟩
    have : minusOf m (y :: ys) = minusOf (adel y m) ys := rfl
    rw [this, h2, g2, List.mem_cons, not_or]
    constructor
    · rintro ⟨a, b, c⟩
      exact ⟨⟨b, a⟩, c⟩
    · rintro ⟨⟨b, a⟩, c⟩
      exact ⟨a, b, c⟩
theorem adel_len {k : Dot} : ∀ m : List (Dot × Bool), (adel k m).length ≤ m.length
  | [] => Nat.le_refl _
  | p :: r => by
    unfold adel
    split
    · simp
    · have := adel_len (k := k) r
      simp
      omega
theorem minusOf_len : ∀ (ys : List Dot) (m : List (Dot × Bool)), (minusOf m ys).length ≤ m.length
  | [], _ => Nat.le_refl _
  | y :: ys, m => Nat.le_trans (minusOf_len ys (adel y m)) (adel_len m)

end Go.Osj
