/- Contracts of layer 4: vectors looked at. -/
import Derived.Test.YtdabompehgancaaC1
import Derived.Test.YtdabompehgancaaC2
import Derived.Test.YtdabompehgancaaC3
import Derived.Test.YtdabompehgancaaV
set_option linter.unusedVariables false
set_option linter.unusedSimpArgs false
namespace Go.Osj
theorem SlT.dotc {S : St} {base : Option Addr} {n cap : Nat} {xs : List Dot} (h : SlT dotE S (.slice base n cap) xs) {i : Nat} (hi : i < xs.length) :
    ∃ b off, base = some ⟨b, off, none⟩ ∧ b < S.n ∧ S.loadN ⟨b, off + i * 2, none⟩ 2 = some [.int .i64 xs[i].1, .int .i64 xs[i].2] ∧ S.cell ⟨b, off + i * 2, none⟩ = some (.int .i64 xs[i].1) ∧ S.cell ⟨b, off + i * 2 + 1, none⟩ = some (.int .i64 xs[i].2) := by
  obtain ⟨b, off, h1, h2, h3, h4⟩ := h.at dotE (i := i) (x := xs[i]) (by simp)
  exact ⟨b, off, h1, h2, h3, h4 0 (by decide), h4 1 (by decide)⟩
/-- a function value of one dot that only looks -/
def FunT (S : St) (f : Value) (xs : List Dot) (p : Dot → Bool) : Prop :=
  ∃ g first captured, f = .func (.func g) first captured ∧ callable PR g = true ∧ ∀ x ∈ xs, J PR g (first.toList ++ [dotV x] ++ captured.toList) S fun v S' => v = .bool (p x) ∧ S = S'
/-- a call of a function value -/
def wcallv (P : Program) (f : Value) (args : List Value) (S : St) [k : KV] : Prop := match f with
  | .func (.func g) first captured => callable P g = true ∧ J P g (first.toList ++ args ++ captured.toList) S k.run
  | _ => False
@[go_sem] theorem wE_callv {P : Program} {fr : Fr} {S : St} {f : Operand} {args : List Operand} [k : KV] : wE P (.callv f args) fr S = wcallv P (ev fr f) (args.map (ev fr)) S := by
  unfold wE wcallv
  simp only [JE]
  cases ev fr f <;> try rfl
theorem FunT.call {S : St} {f : Value} {xs : List Dot} {p : Dot → Bool} (h : FunT S f xs p) {x : Dot} (hx : x ∈ xs) {k : KV} (hk : k.run (.bool (p x)) S) : @wcallv PR f [dotV x] S k := by
  obtain ⟨g, first, captured, rfl, hc, hj⟩ := h
  exact ⟨hc, (hj x hx).mono fun v S' ⟨h1, h2⟩ => by subst h1 h2; exact hk⟩

def idxV (p : Dot → Bool) (xs : List Dot) : Int := match xs.findIdx? p with | some i => i | none => -1
theorem findIdx_none {p : Dot → Bool} {xs : List Dot} (h : ∀ x ∈ xs, p x = false) : xs.findIdx? p = none := by
  rw [List.findIdx?_eq_none_iff]; exact h
theorem findIdx_at {p : Dot → Bool} {xs : List Dot} {i : Nat} (hi : i < xs.length) (h : ∀ x ∈ xs.take i, p x = false) (hp : p xs[i] = true) : xs.findIdx? p = some i := by
  rw [List.findIdx?_eq_some_iff_getElem]
  refine ⟨hi, hp, fun j hj => ?_⟩
  have := h xs[j] (List.mem_take_iff_getElem.2 ⟨j, by omega, rfl⟩)
  simp [this]
theorem getV_idx (xs : List Dot) (a : Int) : (xs.findIdx? (fun d => decide (d.1 = a)) = none ∧ getV xs a = 0) ∨ ∃ i, ∃ h : i < xs.length, xs.findIdx? (fun d => decide (d.1 = a)) = some i ∧ getV xs a = xs[i].2 := by
  induction xs with
  | nil => exact .inl ⟨rfl, rfl⟩
  | cons d xs ih =>
    by_cases hd : d.1 = a
    · exact .inr ⟨0, by simp, by simp [List.findIdx?_cons, hd], by simp [getV, hd]⟩
    · rcases ih with ⟨h1, h2⟩ | ⟨i, h, h1, h2⟩
      · exact .inl ⟨by simp [List.findIdx?_cons, hd, h1], by simp [getV, hd, h2]⟩
      · exact .inr ⟨i + 1, by simp; omega, by simp [List.findIdx?_cons, hd, h1], by simp [getV, hd, h2]⟩
theorem F.osierref04_Get_J {S : St} {l : Value} {xs : List Dot} {a : Int} (hl : SlT dotE S l xs) (hL : xs.length < 9223372036854775808) : J PR F.osierref04_Get [l, .int .i64 a] S fun v S' => v = .int .i64 (getV xs a) ∧ S = S' := by
  obtain ⟨base, cap, rfl⟩ := hl.len dotE
  refine J_by PR.mixed F.osierref04_Get.ok (by simp) ?_
  simp (disch := omega) only [go_sem, ↓reduceIte, Nat.reduceEqDiff, Nat.reduceAdd, Nat.reduceMul, Nat.reduceSub, Nat.reduceLT, Nat.reduceLeDiff, Nat.reduceBEq, reduceCtorEq, Int.reduceLT, Int.reduceEq, Int.reduceLE, Int.reduceAdd, Int.reduceSub, Int.reduceToNat, Int.reduceNeg]
  refine wC_loop (fun n fr S' => ∃ i, n = xs.length - i ∧ i ≤ xs.length ∧ S' = S ∧ fr 0 = .slice base xs.length cap ∧ fr 1 = .int .i64 a ∧ fr 5 = .int .i64 (i : Nat) ∧ getV xs a = getV (xs.drop i) a) xs.length ⟨0, by simp (disch := omega) only [go_sem, ↓reduceIte, Nat.reduceEqDiff, Nat.reduceAdd, Nat.reduceMul, Nat.reduceSub, Nat.reduceLT, Nat.reduceLeDiff, Nat.reduceBEq, reduceCtorEq, Int.reduceLT, Int.reduceEq, Int.reduceLE, Int.reduceAdd, Int.reduceSub, Int.reduceToNat, Int.reduceNeg]; simp⟩ ?_
  rintro n fr S' ⟨i, rfl, hi, rfl, h0, h1, h5, hn⟩
  simp (disch := omega) only [go_sem, ↓reduceIte, Nat.reduceEqDiff, Nat.reduceAdd, Nat.reduceMul, Nat.reduceSub, Nat.reduceLT, Nat.reduceLeDiff, Nat.reduceBEq, reduceCtorEq, Int.reduceLT, Int.reduceEq, Int.reduceLE, Int.reduceAdd, Int.reduceSub, Int.reduceToNat, Int.reduceNeg, F.osierref04_Get.l0, h0, h1, h5]
  refine wcond_dec (fun hlt => ?_) (fun hge => ?_)
  · have hlx : i < xs.length := by omega
    obtain ⟨b, off, rfl, hb, -, hx, hy⟩ := hl.dotc hlx
    have c1 : (0 : Int) ≤ (i : Int) ∧ (i : Int) < (xs.length : Int) := by omega
    rw [List.drop_eq_getElem_cons hlx] at hn
    simp (disch := omega) only [go_sem, ↓reduceIte, Nat.reduceEqDiff, Nat.reduceAdd, Nat.reduceMul, Nat.reduceSub, Nat.reduceLT, Nat.reduceLeDiff, Nat.reduceBEq, reduceCtorEq, Int.reduceLT, Int.reduceEq, Int.reduceLE, Int.reduceAdd, Int.reduceSub, Int.reduceToNat, Int.reduceNeg, h0, h1, h5, c1, hx]
    refine wcond_dec (fun hq => ?_) (fun hq => ?_)
    · simp (disch := omega) only [go_sem, ↓reduceIte, Nat.reduceEqDiff, Nat.reduceAdd, Nat.reduceMul, Nat.reduceSub, Nat.reduceLT, Nat.reduceLeDiff, Nat.reduceBEq, reduceCtorEq, Int.reduceLT, Int.reduceEq, Int.reduceLE, Int.reduceAdd, Int.reduceSub, Int.reduceToNat, Int.reduceNeg, h0, h1, h5, c1, hy]
      rw [hn, getV, if_pos hq]
    · simp (disch := omega) only [go_sem, ↓reduceIte, Nat.reduceEqDiff, Nat.reduceAdd, Nat.reduceMul, Nat.reduceSub, Nat.reduceLT, Nat.reduceLeDiff, Nat.reduceBEq, reduceCtorEq, Int.reduceLT, Int.reduceEq, Int.reduceLE, Int.reduceAdd, Int.reduceSub, Int.reduceToNat, Int.reduceNeg, h0, h1, h5]
      refine ⟨xs.length - (i + 1), by omega, i + 1, rfl, by omega, rfl, ?_⟩
      rw [hn, getV, if_neg hq]
  · simp (disch := omega) only [go_sem, ↓reduceIte, Nat.reduceEqDiff, Nat.reduceAdd, Nat.reduceMul, Nat.reduceSub, Nat.reduceLT, Nat.reduceLeDiff, Nat.reduceBEq, reduceCtorEq, Int.reduceLT, Int.reduceEq, Int.reduceLE, Int.reduceAdd, Int.reduceSub, Int.reduceToNat, Int.reduceNeg]
    rw [hn, List.drop_eq_nil_of_le (by omega), getV]
theorem F.osierref03_May_P {S : St} {a : Dot} : J PR F.osierref03_May [dotV a] S fun v S' => v = .bool (decide (mayP a)) ∧ S = S' := F.osierref03_May.J.back
theorem F.osierref04_Has_J {S : St} {l : Value} {xs : List Dot} {d : Dot} (hl : SlT dotE S l xs) (hL : xs.length < 9223372036854775808) : J PR F.osierref04_Has [l, dotV d] S fun v S' => v = .bool (decide (hasP xs d)) ∧ S = S' := by
  refine J.back (J_by PR.mixed F.osierref04_Has.ok (by simp) ?_)
  simp (disch := omega) only [go_sem, ↓reduceIte, Nat.reduceEqDiff, Nat.reduceAdd, Nat.reduceMul, Nat.reduceSub, Nat.reduceLT, Nat.reduceLeDiff, Nat.reduceBEq, reduceCtorEq, Int.reduceLT, Int.reduceEq, Int.reduceLE, Int.reduceAdd, Int.reduceSub, Int.reduceToNat, Int.reduceNeg]
  refine wfresh_of fun x hx => ?_
  simp (disch := omega) only [go_sem, ↓reduceIte, Nat.reduceEqDiff, Nat.reduceAdd, Nat.reduceMul, Nat.reduceSub, Nat.reduceLT, Nat.reduceLeDiff, Nat.reduceBEq, reduceCtorEq, Int.reduceLT, Int.reduceEq, Int.reduceLE, Int.reduceAdd, Int.reduceSub, Int.reduceToNat, Int.reduceNeg]
  have he := (St.Ext.refl S).put hx (.cells true 2 [.int .i64 d.1, .int .i64 d.2])
  refine wJ_of F.osierref03_May_P ?_; rintro _ _ ⟨rfl, rfl⟩
  unfold hasP
  by_cases hm : mayP d
  · simp (disch := omega) only [go_sem, ↓reduceIte, Nat.reduceEqDiff, Nat.reduceAdd, Nat.reduceMul, Nat.reduceSub, Nat.reduceLT, Nat.reduceLeDiff, Nat.reduceBEq, reduceCtorEq, Int.reduceLT, Int.reduceEq, Int.reduceLE, Int.reduceAdd, Int.reduceSub, Int.reduceToNat, Int.reduceNeg, hm]
    refine wJ_of (F.osierref04_Get_J (hl.ext dotE he) hL) ?_; rintro _ _ ⟨rfl, rfl⟩
    simp (disch := omega) only [go_sem, ↓reduceIte, Nat.reduceEqDiff, Nat.reduceAdd, Nat.reduceMul, Nat.reduceSub, Nat.reduceLT, Nat.reduceLeDiff, Nat.reduceBEq, reduceCtorEq, Int.reduceLT, Int.reduceEq, Int.reduceLE, Int.reduceAdd, Int.reduceSub, Int.reduceToNat, Int.reduceNeg]
    exact ⟨by simp [hm], he⟩
  · simp (disch := omega) only [go_sem, ↓reduceIte, Nat.reduceEqDiff, Nat.reduceAdd, Nat.reduceMul, Nat.reduceSub, Nat.reduceLT, Nat.reduceLeDiff, Nat.reduceBEq, reduceCtorEq, Int.reduceLT, Int.reduceEq, Int.reduceLE, Int.reduceAdd, Int.reduceSub, Int.reduceToNat, Int.reduceNeg, hm, false_and]
    exact he

/-! ### May -/
instance (v : List Dot) : Decidable (isV v) := inferInstanceAs (Decidable (List.Pairwise _ _ ∧ ∀ d ∈ v, _))
theorem isV_snoc {v : List Dot} {x : Dot} : isV (v ++ [x]) ↔ isV v ∧ mayP x ∧ ∀ e ∈ v, e.1 < x.1 := by
  unfold isV
  rw [List.pairwise_append]
  constructor
  · rintro ⟨⟨h1, -, h2⟩, h3⟩
    exact ⟨⟨h1, fun d hd => h3 d (by simp [hd])⟩, h3 x (by simp), fun e he => h2 e he x (by simp)⟩
  · rintro ⟨⟨h1, h2⟩, h3, h4⟩
    refine ⟨⟨h1, by simp, fun e he y hy => by simp at hy; subst hy; exact h4 e he⟩, fun d hd => ?_⟩
    rcases List.mem_append.1 hd with hd | hd
    · exact h2 d hd
    · simp at hd; subst hd; exact h3
theorem isV_take {v : List Dot} (h : isV v) (i : Nat) : isV (v.take i) := ⟨h.1.sublist (List.take_sublist i v), fun d hd => h.2 d (List.mem_of_mem_take hd)⟩
theorem not_isV_at {xs : List Dot} {i : Nat} (hi : i < xs.length) (h : ¬ mayP xs[i] ∨ ∃ e ∈ xs.take i, xs[i].1 ≤ e.1) : ¬ isV xs := by
  intro hv
  have h1 := isV_take hv (i + 1)
  rw [take_snoc (List.getElem?_eq_getElem hi), isV_snoc] at h1
  rcases h with h | ⟨e, he, hle⟩
  · exact h h1.2.1
  · have := h1.2.2 e he
    omega
theorem F.osierref04_May_J {S : St} {l : Value} {xs : List Dot} (hl : SlT dotE S l xs) (hL : xs.length < 9223372036854775808) : J PR F.osierref04_May [l] S fun v S' => v = .bool (decide (isV xs)) ∧ S = S' := by
  obtain ⟨base, cap, rfl⟩ := hl.len dotE
  refine J_by PR.mixed F.osierref04_May.ok (by simp) ?_
  simp (disch := omega) only [go_sem, ↓reduceIte, Nat.reduceEqDiff, Nat.reduceAdd, Nat.reduceMul, Nat.reduceSub, Nat.reduceLT, Nat.reduceLeDiff, Nat.reduceBEq, reduceCtorEq, Int.reduceLT, Int.reduceEq, Int.reduceLE, Int.reduceAdd, Int.reduceSub, Int.reduceToNat, Int.reduceNeg]
  refine wC_loop (fun n fr S' => ∃ (i : Nat), n = xs.length - i ∧ i ≤ xs.length ∧ S = S' ∧ fr 0 = .slice base xs.length cap ∧ fr 3 = .int .i64 (i : Nat) ∧ isV (xs.take i)) xs.length ⟨0, by simp (disch := omega) only [go_sem, ↓reduceIte, Nat.reduceEqDiff, Nat.reduceAdd, Nat.reduceMul, Nat.reduceSub, Nat.reduceLT, Nat.reduceLeDiff, Nat.reduceBEq, reduceCtorEq, Int.reduceLT, Int.reduceEq, Int.reduceLE, Int.reduceAdd, Int.reduceSub, Int.reduceToNat, Int.reduceNeg]; exact ⟨by simp, by simp, by simp [isV_nil]⟩⟩ ?_
  rintro n fr S1 ⟨i, rfl, hi, rfl, h0, h3, hv⟩
  simp (disch := omega) only [go_sem, ↓reduceIte, Nat.reduceEqDiff, Nat.reduceAdd, Nat.reduceMul, Nat.reduceSub, Nat.reduceLT, Nat.reduceLeDiff, Nat.reduceBEq, reduceCtorEq, Int.reduceLT, Int.reduceEq, Int.reduceLE, Int.reduceAdd, Int.reduceSub, Int.reduceToNat, Int.reduceNeg, F.osierref04_May.l0, h0, h3]
  refine wcond_dec (fun hlt => ?_) (fun hge => ?_)
  · have hlx : i < xs.length := by omega
    obtain ⟨b, off, rfl, hb, hx, hx1, -⟩ := hl.dotc hlx
    have c1 : (0 : Int) ≤ (i : Int) ∧ (i : Int) < (xs.length : Int) := by omega
    simp (disch := omega) only [go_sem, ↓reduceIte, Nat.reduceEqDiff, Nat.reduceAdd, Nat.reduceMul, Nat.reduceSub, Nat.reduceLT, Nat.reduceLeDiff, Nat.reduceBEq, reduceCtorEq, Int.reduceLT, Int.reduceEq, Int.reduceLE, Int.reduceAdd, Int.reduceSub, Int.reduceToNat, Int.reduceNeg, h0, h3, c1, hx]
    refine wJ_of F.osierref03_May_P ?_; rintro _ _ ⟨rfl, rfl⟩
    by_cases hm : mayP xs[i]
    · simp (disch := omega) only [go_sem, ↓reduceIte, Nat.reduceEqDiff, Nat.reduceAdd, Nat.reduceMul, Nat.reduceSub, Nat.reduceLT, Nat.reduceLeDiff, Nat.reduceBEq, reduceCtorEq, Int.reduceLT, Int.reduceEq, Int.reduceLE, Int.reduceAdd, Int.reduceSub, Int.reduceToNat, Int.reduceNeg, hm, h0, h3]
      refine wguard_dec (fun hp => ?_) (fun hp => ?_)
      · obtain ⟨j, rfl⟩ : ∃ j, i = j + 1 := ⟨i - 1, by omega⟩
        have hlj : j < xs.length := by omega
        obtain ⟨b', off', hbb, hb', hx', hx1', -⟩ := hl.dotc hlj
        simp only [Option.some.injEq, Addr.mk.injEq, and_true] at hbb
        obtain ⟨rfl, rfl⟩ := hbb
        have e1 : ((j + 1 : Nat) : Int) - 1 = (j : Int) := by omega
        have c2 : (0 : Int) ≤ (j : Int) ∧ (j : Int) < (xs.length : Int) := by omega
        simp (disch := omega) only [go_sem, ↓reduceIte, Nat.reduceEqDiff, Nat.reduceAdd, Nat.reduceMul, Nat.reduceSub, Nat.reduceLT, Nat.reduceLeDiff, Nat.reduceBEq, reduceCtorEq, Int.reduceLT, Int.reduceEq, Int.reduceLE, Int.reduceAdd, Int.reduceSub, Int.reduceToNat, Int.reduceNeg, h0, h3, hp, c1, e1, c2, hx1, hx1']
        refine wcond_dec (fun hq => ?_) (fun hq => ?_)
        · simp (disch := omega) only [go_sem, ↓reduceIte, Nat.reduceEqDiff, Nat.reduceAdd, Nat.reduceMul, Nat.reduceSub, Nat.reduceLT, Nat.reduceLeDiff, Nat.reduceBEq, reduceCtorEq, Int.reduceLT, Int.reduceEq, Int.reduceLE, Int.reduceAdd, Int.reduceSub, Int.reduceToNat, Int.reduceNeg]
          exact vb_false (not_isV_at hlx (.inr ⟨xs[j], List.mem_take_iff_getElem.2 ⟨j, by omega, rfl⟩, hq⟩))
        · simp (disch := omega) only [go_sem, ↓reduceIte, Nat.reduceEqDiff, Nat.reduceAdd, Nat.reduceMul, Nat.reduceSub, Nat.reduceLT, Nat.reduceLeDiff, Nat.reduceBEq, reduceCtorEq, Int.reduceLT, Int.reduceEq, Int.reduceLE, Int.reduceAdd, Int.reduceSub, Int.reduceToNat, Int.reduceNeg, h0, h3]
          refine ⟨xs.length - (j + 1 + 1), by omega, j + 1 + 1, rfl, by omega, rfl, ?_⟩
          rw [take_snoc (List.getElem?_eq_getElem hlx), isV_snoc]
          refine ⟨hv, hm, fun e h => ?_⟩
          rw [take_snoc (List.getElem?_eq_getElem hlj)] at h hv
          rcases List.mem_append.1 h with h | h
          · have := (isV_snoc.1 hv).2.2 e h; omega
          · simp at h; subst h; omega
      · have hi0 : i = 0 := by omega
        subst hi0
        simp (disch := omega) only [go_sem, ↓reduceIte, Nat.reduceEqDiff, Nat.reduceAdd, Nat.reduceMul, Nat.reduceSub, Nat.reduceLT, Nat.reduceLeDiff, Nat.reduceBEq, reduceCtorEq, Int.reduceLT, Int.reduceEq, Int.reduceLE, Int.reduceAdd, Int.reduceSub, Int.reduceToNat, Int.reduceNeg, h0, h3, hp]
        refine ⟨xs.length - 1, by omega, 1, rfl, by omega, rfl, ?_⟩
        rw [show (1 : Nat) = 0 + 1 from rfl, take_snoc (List.getElem?_eq_getElem hlx), isV_snoc]
        exact ⟨by simp [isV_nil], hm, by simp⟩
    · simp (disch := omega) only [go_sem, ↓reduceIte, Nat.reduceEqDiff, Nat.reduceAdd, Nat.reduceMul, Nat.reduceSub, Nat.reduceLT, Nat.reduceLeDiff, Nat.reduceBEq, reduceCtorEq, Int.reduceLT, Int.reduceEq, Int.reduceLE, Int.reduceAdd, Int.reduceSub, Int.reduceToNat, Int.reduceNeg, hm, undef]
      exact vb_false (not_isV_at hlx (.inl hm))
  · simp (disch := omega) only [go_sem, ↓reduceIte, Nat.reduceEqDiff, Nat.reduceAdd, Nat.reduceMul, Nat.reduceSub, Nat.reduceLT, Nat.reduceLeDiff, Nat.reduceBEq, reduceCtorEq, Int.reduceLT, Int.reduceEq, Int.reduceLE, Int.reduceAdd, Int.reduceSub, Int.reduceToNat, Int.reduceNeg]
    rw [List.take_of_length_le (by omega)] at hv
    exact vb_true hv

/-! ### Count -/
def sumV (xs : List Dot) : Int := (xs.map Prod.snd).sum
theorem sumV_snoc (v : List Dot) (x : Dot) : sumV (v ++ [x]) = sumV v + x.2 := by simp [sumV]
theorem sumV_range {v : List Dot} (h : isV v) : 0 ≤ sumV v ∧ sumV v ≤ v.length * 1073741824 := by
  induction v with
  | nil => simp [sumV]
  | cons d v ih =>
    obtain ⟨h1, -, h3⟩ := isV_cons.1 h
    have := ih h3
    unfold mayP at h1
    have e : sumV (d :: v) = d.2 + sumV v := by simp [sumV]
    rw [e, List.length_cons]
    omega
/-! ### Below, Same -/
theorem F.osierref04_Below_J {S : St} {l k : Value} {xs ys : List Dot} (hl : SlT dotE S l xs) (hk : SlT dotE S k ys) (hL : xs.length < 9223372036854775808) (hL2 : ys.length < 9223372036854775808) :
    J PR F.osierref04_Below [l, k] S fun v S' => v = .bool (decide (belowP xs ys)) ∧ S = S' := by
  obtain ⟨base, cap, rfl⟩ := hl.len dotE
  refine J_by PR.mixed F.osierref04_Below.ok (by simp) ?_
  simp (disch := omega) only [go_sem, ↓reduceIte, Nat.reduceEqDiff, Nat.reduceAdd, Nat.reduceMul, Nat.reduceSub, Nat.reduceLT, Nat.reduceLeDiff, Nat.reduceBEq, reduceCtorEq, Int.reduceLT, Int.reduceEq, Int.reduceLE, Int.reduceAdd, Int.reduceSub, Int.reduceToNat, Int.reduceNeg]
  refine wC_loop (fun n fr S' => ∃ (i : Nat), n = xs.length - i ∧ i ≤ xs.length ∧ S = S' ∧ fr 0 = .slice base xs.length cap ∧ fr 1 = k ∧ fr 5 = .int .i64 (i : Nat) ∧ belowP (xs.take i) ys) xs.length ⟨0, by simp (disch := omega) only [go_sem, ↓reduceIte, Nat.reduceEqDiff, Nat.reduceAdd, Nat.reduceMul, Nat.reduceSub, Nat.reduceLT, Nat.reduceLeDiff, Nat.reduceBEq, reduceCtorEq, Int.reduceLT, Int.reduceEq, Int.reduceLE, Int.reduceAdd, Int.reduceSub, Int.reduceToNat, Int.reduceNeg]; exact ⟨by simp, by simp, by simp [belowP]⟩⟩ ?_
  rintro n fr S1 ⟨i, rfl, hi, rfl, h0, h1, h5, hn⟩
  simp (disch := omega) only [go_sem, ↓reduceIte, Nat.reduceEqDiff, Nat.reduceAdd, Nat.reduceMul, Nat.reduceSub, Nat.reduceLT, Nat.reduceLeDiff, Nat.reduceBEq, reduceCtorEq, Int.reduceLT, Int.reduceEq, Int.reduceLE, Int.reduceAdd, Int.reduceSub, Int.reduceToNat, Int.reduceNeg, F.osierref04_Below.l0, h0, h1, h5]
  refine wcond_dec (fun hlt => ?_) (fun hge => ?_)
  · have hlx : i < xs.length := by omega
    obtain ⟨b, off, rfl, hb, -, hx1, hx2⟩ := hl.dotc hlx
    have c1 : (0 : Int) ≤ (i : Int) ∧ (i : Int) < (xs.length : Int) := by omega
    simp (disch := omega) only [go_sem, ↓reduceIte, Nat.reduceEqDiff, Nat.reduceAdd, Nat.reduceMul, Nat.reduceSub, Nat.reduceLT, Nat.reduceLeDiff, Nat.reduceBEq, reduceCtorEq, Int.reduceLT, Int.reduceEq, Int.reduceLE, Int.reduceAdd, Int.reduceSub, Int.reduceToNat, Int.reduceNeg, h0, h1, h5, c1, hx1, hx2]
    refine wJ_of (F.osierref04_Get_J hk hL2) ?_; rintro _ _ ⟨rfl, rfl⟩
    simp (disch := omega) only [go_sem, ↓reduceIte, Nat.reduceEqDiff, Nat.reduceAdd, Nat.reduceMul, Nat.reduceSub, Nat.reduceLT, Nat.reduceLeDiff, Nat.reduceBEq, reduceCtorEq, Int.reduceLT, Int.reduceEq, Int.reduceLE, Int.reduceAdd, Int.reduceSub, Int.reduceToNat, Int.reduceNeg, h0, h1, h5, c1, hx2]
    refine wcond_dec (fun hq => ?_) (fun hq => ?_)
    · simp (disch := omega) only [go_sem, ↓reduceIte, Nat.reduceEqDiff, Nat.reduceAdd, Nat.reduceMul, Nat.reduceSub, Nat.reduceLT, Nat.reduceLeDiff, Nat.reduceBEq, reduceCtorEq, Int.reduceLT, Int.reduceEq, Int.reduceLE, Int.reduceAdd, Int.reduceSub, Int.reduceToNat, Int.reduceNeg]
      exact vb_false fun h => by have := h xs[i] (List.getElem_mem _); omega
    · simp (disch := omega) only [go_sem, ↓reduceIte, Nat.reduceEqDiff, Nat.reduceAdd, Nat.reduceMul, Nat.reduceSub, Nat.reduceLT, Nat.reduceLeDiff, Nat.reduceBEq, reduceCtorEq, Int.reduceLT, Int.reduceEq, Int.reduceLE, Int.reduceAdd, Int.reduceSub, Int.reduceToNat, Int.reduceNeg, h0, h1, h5]
      refine ⟨xs.length - (i + 1), by omega, i + 1, rfl, by omega, rfl, fun d hd => ?_⟩
      rw [take_snoc (List.getElem?_eq_getElem hlx)] at hd
      rcases List.mem_append.1 hd with hd | hd
      · exact hn d hd
      · simp at hd; subst hd; omega
  · simp (disch := omega) only [go_sem, ↓reduceIte, Nat.reduceEqDiff, Nat.reduceAdd, Nat.reduceMul, Nat.reduceSub, Nat.reduceLT, Nat.reduceLeDiff, Nat.reduceBEq, reduceCtorEq, Int.reduceLT, Int.reduceEq, Int.reduceLE, Int.reduceAdd, Int.reduceSub, Int.reduceToNat, Int.reduceNeg]
    rw [List.take_of_length_le (by omega)] at hn
    exact vb_true hn
end Go.Osj
