/- Contracts carried over from the layers below. -/
import Derived.Test.YtdabompehgancaaW
set_option linter.unusedVariables false
/- Contracts of layer 4: vectors made. -/
set_option linter.unusedSimpArgs false
namespace Go.Osj
/-- a function value of two numbers that only counts -/
def FunI (f : Value) (c : Int → Int → Int) : Prop :=
  ∃ g first captured, f = .func (.func g) first captured ∧ callable PR g = true ∧ ∀ S x y, J PR g (first.toList ++ [.int .i64 x, .int .i64 y] ++ captured.toList) S fun v S' => v = .int .i64 (c x y) ∧ S = S'
theorem FunI.call {S : St} {f : Value} {c : Int → Int → Int} (h : FunI f c) {x y : Int} {k : KV} (hk : k.run (.int .i64 (c x y)) S) : @wcallv PR f [.int .i64 x, .int .i64 y] S k := by
  obtain ⟨g, first, captured, rfl, hc, hj⟩ := h
  exact ⟨hc, (hj S x y).mono fun v S' ⟨h1, h2⟩ => by subst h1 h2; exact hk⟩
/-! ### each -/
/-- what is made of the first so many -/
structure EachI (c : Int → Int → Int) (xs ys rs out : List Dot) : Prop where
  is : isV out
  src : ∀ e ∈ out, ∃ d ∈ rs, e.1 = d.1
  val : ∀ e ∈ out, e.2 = c (getV xs e.1) (getV ys e.1)
  all : ∀ d ∈ rs, 0 < c (getV xs d.1) (getV ys d.1) → ∃ e ∈ out, e.1 = d.1
theorem EachI.nil {c : Int → Int → Int} {xs ys : List Dot} : EachI c xs ys [] [] := ⟨isV_nil, by simp, by simp, by simp⟩
theorem choice_may {c : Int → Int → Int} (hc : Choice c) {xs ys : List Dot} (hx : isV xs) (hy : isV ys) {a : Int} (h : 0 < c (getV xs a) (getV ys a)) : mayP (a, c (getV xs a) (getV ys a)) := by
  rcases hc.one (getV xs a) (getV ys a) with h1 | h1
  · rw [h1] at h ⊢
    have h2 := getV_range hx a
    have h3 := getV_act hx (a := a) (by omega)
    unfold mayP; simp only; omega
  · rw [h1] at h ⊢
    have h2 := getV_range hy a
    have h3 := getV_act hy (a := a) (by omega)
    unfold mayP; simp only; omega
theorem EachI.put {c : Int → Int → Int} (hc : Choice c) {xs ys rs out : List Dot} (hx : isV xs) (hy : isV ys) (h : EachI c xs ys rs out) {d : Dot} (hp : 0 < c (getV xs d.1) (getV ys d.1)) (hlt : ∀ e ∈ out, e.1 < d.1) : EachI c xs ys (rs ++ [d]) (out ++ [(d.1, c (getV xs d.1) (getV ys d.1))]) := by
  refine ⟨isV_snoc.2 ⟨h.is, choice_may hc hx hy hp, hlt⟩, fun e he => ?_, fun e he => ?_, fun q hq hpos => ?_⟩
  · rcases List.mem_append.1 he with he | he
    · obtain ⟨q, h1, h2⟩ := h.src e he
      exact ⟨q, by simp [h1], h2⟩
    · simp at he; subst he; exact ⟨d, by simp, rfl⟩
  · rcases List.mem_append.1 he with he | he
    · exact h.val e he
    · simp at he; subst he; rfl
  · rcases List.mem_append.1 hq with hq | hq
    · obtain ⟨e, h1, h2⟩ := h.all q hq hpos
      exact ⟨e, by simp [h1], h2⟩
    · simp at hq; subst hq; exact ⟨_, List.mem_append_right _ (List.mem_singleton_self _), rfl⟩
theorem EachI.skip {c : Int → Int → Int} {xs ys rs out : List Dot} (h : EachI c xs ys rs out) {d : Dot} (hs : 0 < c (getV xs d.1) (getV ys d.1) → ∃ e ∈ out, e.1 = d.1) : EachI c xs ys (rs ++ [d]) out := by
  refine ⟨h.is, fun e he => ?_, h.val, fun q hq hpos => ?_⟩
  · obtain ⟨q, h1, h2⟩ := h.src e he
    exact ⟨q, by simp [h1], h2⟩
  · rcases List.mem_append.1 hq with hq | hq
    · exact h.all q hq hpos
    · simp at hq; subst hq; exact hs hpos
theorem EachI.eq {c : Int → Int → Int} (hc : Choice c) {xs ys rs out : List Dot} (hx : isV xs) (hy : isV ys) (hr : ∀ d, d ∈ xs ++ ys → ∃ r ∈ rs, r.1 = d.1) (h : EachI c xs ys rs out) : out = eachV c xs ys := by
  refine eachV_eq hc hx hy h.is fun a => ?_
  have hr1 := getV_range hx a
  have hr2 := getV_range hy a
  have hfr : 0 ≤ c (getV xs a) (getV ys a) := by rcases hc.one (getV xs a) (getV ys a) with h | h <;> omega
  by_cases hp : 0 < c (getV xs a) (getV ys a)
  · have : ∃ d ∈ rs, d.1 = a := by
      by_cases h1 : getV xs a = 0
      · by_cases h2 : getV ys a = 0
        · rw [h1, h2, hc.zero] at hp; omega
        · exact hr _ (List.mem_append_right _ (mem_getV h2))
      · exact hr _ (List.mem_append_left _ (mem_getV h1))
    obtain ⟨d, hd, rfl⟩ := this
    obtain ⟨e, he, hed⟩ := h.all d hd hp
    rw [← hed, getV_mem h.is he, h.val e he]
  · by_cases h0 : getV out a = 0
    · omega
    · have hm := mem_getV h0
      have h1 := h.val _ hm
      simp only at h1
      have h2 := h.is.2 _ hm
      unfold mayP at h2
      simp only at h2
      omega

theorem isV_last {v : List Dot} (h : isV v) {j : Nat} (hj : j < v.length) (hl : j + 1 = v.length) : ∀ e ∈ v, e.1 ≤ v[j].1 := by
  intro e he
  obtain ⟨k, hk, rfl⟩ := List.mem_iff_getElem.1 he
  by_cases hkj : k = j
  · subst hkj; exact Int.le_refl _
  · have := List.pairwise_iff_getElem.1 h.1 k j hk hj (by omega)
    omega
end Go.Osj

/- Contracts of layer 4: joins, With, Made, Missing. -/
set_option linter.unusedSimpArgs false
namespace Go.Osj
/-! ### the reference's join -/
def intE : Enc Int := ⟨fun a => [.int .i64 a], 1, fun _ => rfl, fun _ => rfl, by decide⟩
theorem SlT.int {S : St} {base : Option Addr} {n cap : Nat} {xs : List Int} (h : SlT intE S (.slice base n cap) xs) {i : Nat} (hi : i < xs.length) :
    ∃ b off, base = some ⟨b, off, none⟩ ∧ b < S.n ∧ S.cell ⟨b, off + i, none⟩ = some (.int .i64 xs[i]) := by
  obtain ⟨b, off, h1, h2, h3, h4⟩ := h.at intE (i := i) (x := xs[i]) (by simp)
  exact ⟨b, off, h1, h2, by simpa [intE] using h4 0 (by decide)⟩
/-- the actors of the first so many of both, rising -/
structure ActsI (xs ys : List Dot) (i k : Nat) (out : List Int) : Prop where
  lt : out.Pairwise (· < ·)
  mem : ∀ a, a ∈ out ↔ (∃ d ∈ xs.take i, d.1 = a) ∨ ∃ d ∈ ys.take k, d.1 = a
  ax : ∀ a ∈ out, ∀ h : i < xs.length, a < xs[i].1
  ay : ∀ a ∈ out, ∀ h : k < ys.length, a < ys[k].1
  len : out.length ≤ i + k
theorem isV_lt {v : List Dot} (h : isV v) {i j : Nat} (hj : j < v.length) (hij : i < j) : (v[i]'(by omega)).1 < v[j].1 := List.pairwise_iff_getElem.1 h.1 i j (by omega) hj hij
theorem pw_snoc {out : List Int} {a : Int} (h : out.Pairwise (· < ·)) (ha : ∀ b ∈ out, b < a) : (out ++ [a]).Pairwise (· < ·) := by
  rw [List.pairwise_append]
  exact ⟨h, by simp, fun b hb c hc => by simp at hc; subst hc; exact ha b hb⟩
theorem ActsI.left {xs ys : List Dot} {i k : Nat} {out : List Int} (hx : isV xs) (h : ActsI xs ys i k out) (hi : i < xs.length) (hlt : ∀ h : k < ys.length, xs[i].1 < ys[k].1) : ActsI xs ys (i + 1) k (out ++ [xs[i].1]) := by
  refine ⟨pw_snoc h.lt fun b hb => h.ax b hb hi, fun a => ?_, fun a ha hi2 => ?_, fun a ha hk => ?_, by have := h.len; simp; omega⟩
  · rw [List.mem_append, h.mem, take_snoc (List.getElem?_eq_getElem hi)]
    simp only [List.mem_append, List.mem_singleton]
    constructor
    · rintro ((⟨d, h1, h2⟩ | h1) | h1)
      · exact .inl ⟨d, .inl h1, h2⟩
      · exact .inr h1
      · exact .inl ⟨xs[i], .inr rfl, h1.symm⟩
    · rintro (⟨d, h1 | h1, h2⟩ | h1)
      · exact .inl (.inl ⟨d, h1, h2⟩)
      · subst h1; exact .inr h2.symm
      · exact .inl (.inr h1)
  · have h1 := isV_lt hx hi2 (Nat.lt_succ_self i)
    rcases List.mem_append.1 ha with ha | ha
    · have := h.ax a ha hi; omega
    · simp at ha; subst ha; exact h1
  · rcases List.mem_append.1 ha with ha | ha
    · exact h.ay a ha hk
    · simp at ha; subst ha; exact hlt hk
theorem ActsI.right {xs ys : List Dot} {i k : Nat} {out : List Int} (hy : isV ys) (h : ActsI xs ys i k out) (hk : k < ys.length) (hlt : ∀ h : i < xs.length, ys[k].1 < xs[i].1) : ActsI xs ys i (k + 1) (out ++ [ys[k].1]) := by
  refine ⟨pw_snoc h.lt fun b hb => h.ay b hb hk, fun a => ?_, fun a ha hi => ?_, fun a ha hk2 => ?_, by have := h.len; simp; omega⟩
  · rw [List.mem_append, h.mem, take_snoc (List.getElem?_eq_getElem hk)]
    simp only [List.mem_append, List.mem_singleton]
    constructor
    · rintro ((h1 | ⟨d, h1, h2⟩) | h1)
      · exact .inl h1
      · exact .inr ⟨d, .inl h1, h2⟩
      · exact .inr ⟨ys[k], .inr rfl, h1.symm⟩
    · rintro (h1 | ⟨d, h1 | h1, h2⟩)
      · exact .inl (.inl h1)
      · exact .inl (.inr ⟨d, h1, h2⟩)
      · subst h1; exact .inr h2.symm
  · rcases List.mem_append.1 ha with ha | ha
    · exact h.ax a ha hi
    · simp at ha; subst ha; exact hlt hi
  · have h1 := isV_lt hy hk2 (Nat.lt_succ_self k)
    rcases List.mem_append.1 ha with ha | ha
    · have := h.ay a ha hk; omega
    · simp at ha; subst ha; exact h1
theorem ActsI.both {xs ys : List Dot} {i k : Nat} {out : List Int} (hx : isV xs) (hy : isV ys) (h : ActsI xs ys i k out) (hi : i < xs.length) (hk : k < ys.length) (heq : xs[i].1 = ys[k].1) : ActsI xs ys (i + 1) (k + 1) (out ++ [xs[i].1]) := by
  refine ⟨pw_snoc h.lt fun b hb => h.ax b hb hi, fun a => ?_, fun a ha hi2 => ?_, fun a ha hk2 => ?_, by have := h.len; simp; omega⟩
  · rw [List.mem_append, h.mem, take_snoc (List.getElem?_eq_getElem hk), take_snoc (List.getElem?_eq_getElem hi)]
    simp only [List.mem_append, List.mem_singleton]
    constructor
    · rintro ((⟨d, h1, h2⟩ | ⟨d, h1, h2⟩) | h1)
      · exact .inl ⟨d, .inl h1, h2⟩
      · exact .inr ⟨d, .inl h1, h2⟩
      · exact .inl ⟨xs[i], .inr rfl, h1.symm⟩
    · rintro (⟨d, h1 | h1, h2⟩ | ⟨d, h1 | h1, h2⟩)
      · exact .inl (.inl ⟨d, h1, h2⟩)
      · subst h1; exact .inr h2.symm
      · exact .inl (.inr ⟨d, h1, h2⟩)
      · subst h1; exact .inr (by omega)
  · have h1 := isV_lt hx hi2 (Nat.lt_succ_self i)
    rcases List.mem_append.1 ha with ha | ha
    · have := h.ax a ha hi; omega
    · simp at ha; subst ha; exact h1
  · have h1 := isV_lt hy hk2 (Nat.lt_succ_self k)
    rcases List.mem_append.1 ha with ha | ha
    · have := h.ay a ha hk; omega
    · simp at ha; subst ha; omega

theorem F.osierref04_acts_J {S : St} {l k : Value} {xs ys : List Dot} (hl : SlT dotE S l xs) (hk : SlT dotE S k ys) (hx : isV xs) (hy : isV ys) (hL : xs.length < 20000) (hL2 : ys.length < 20000) :
    J PR F.osierref04_acts [l, k] S fun v S' => (∃ ks, OwnT intE S.n S' v ks ∧ ActsI xs ys xs.length ys.length ks) ∧ S.Ext S' := by
  obtain ⟨ba, ca, rfl⟩ := hl.len dotE
  obtain ⟨bb, cb, rfl⟩ := hk.len dotE
  refine J_by PR.mixed F.osierref04_acts.ok (by simp) ?_
  simp (disch := omega) only [go_sem, ↓reduceIte, Nat.reduceEqDiff, Nat.reduceAdd, Nat.reduceMul, Nat.reduceSub, Nat.reduceLT, Nat.reduceLeDiff, Nat.reduceBEq, reduceCtorEq, Int.reduceLT, Int.reduceEq, Int.reduceLE, Int.reduceAdd, Int.reduceSub, Int.reduceToNat, Int.reduceNeg]
  refine wC_loop (fun n fr S' => ∃ (i k : Nat) (v : Value) (out : List Int), n = (xs.length - i) + (ys.length - k) ∧ i ≤ xs.length ∧ k ≤ ys.length ∧ fr 0 = .slice ba xs.length ca ∧ fr 1 = .slice bb ys.length cb ∧ fr 5 = v ∧ fr 6 = .int .i64 (i : Nat) ∧ fr 7 = .int .i64 (k : Nat) ∧
    S.Ext S' ∧ OwnT intE S.n S' v out ∧ ActsI xs ys i k out) (xs.length + ys.length)
    ⟨0, 0, .slice none 0 0, [], by simp (disch := omega) only [go_sem, ↓reduceIte, Nat.reduceEqDiff, Nat.reduceAdd, Nat.reduceMul, Nat.reduceSub, Nat.reduceLT, Nat.reduceLeDiff, Nat.reduceBEq, reduceCtorEq, Int.reduceLT, Int.reduceEq, Int.reduceLE, Int.reduceAdd, Int.reduceSub, Int.reduceToNat, Int.reduceNeg]; exact ⟨by simp, by simp, by simp, St.Ext.refl _, OwnT.nil .., by simp, by simp, by simp, by simp, by simp⟩⟩ ?_
  rintro n fr S5 ⟨i, k, v, out, rfl, hi, hkk, h0, h1, h5, h6, h7, he, ho, hA⟩
  have hol := hA.len
  by_cases hli : i < xs.length
  · obtain ⟨b, off, rfl, hb, -, hxi, -⟩ := (hl.ext dotE he).dotc hli
    have c1 : (0 : Int) ≤ (i : Int) ∧ (i : Int) < (xs.length : Int) := by omega
    have ci : (i : Int) < (xs.length : Int) := by omega
    by_cases hlk : k < ys.length
    · obtain ⟨b2, off2, rfl, hb2, -, hyk, -⟩ := (hk.ext dotE he).dotc hlk
      have c2 : (0 : Int) ≤ (k : Int) ∧ (k : Int) < (ys.length : Int) := by omega
      have ck : (k : Int) < (ys.length : Int) := by omega
      have nk : ¬ ((k : Int) = (ys.length : Int)) := by omega
      have ni : ¬ ((i : Int) = (xs.length : Int)) := by omega
      simp (disch := omega) only [go_sem, ↓reduceIte, Nat.reduceEqDiff, Nat.reduceAdd, Nat.reduceMul, Nat.reduceSub, Nat.reduceLT, Nat.reduceLeDiff, Nat.reduceBEq, reduceCtorEq, Int.reduceLT, Int.reduceEq, Int.reduceLE, Int.reduceAdd, Int.reduceSub, Int.reduceToNat, Int.reduceNeg, F.osierref04_acts.l0, h0, h1, h5, h6, h7, ci, nk, c1, c2, hxi, hyk]
      refine wcond_dec (fun hq => ?_) (fun hq => ?_)
      · simp (disch := omega) only [go_sem, ↓reduceIte, Nat.reduceEqDiff, Nat.reduceAdd, Nat.reduceMul, Nat.reduceSub, Nat.reduceLT, Nat.reduceLeDiff, Nat.reduceBEq, reduceCtorEq, Int.reduceLT, Int.reduceEq, Int.reduceLE, Int.reduceAdd, Int.reduceSub, Int.reduceToNat, Int.reduceNeg, h0, h1, h5, h6, h7, c1, hxi]
        refine wfresh_of fun u hu => ?_
        simp (disch := omega) only [go_sem, ↓reduceIte, Nat.reduceEqDiff, Nat.reduceAdd, Nat.reduceMul, Nat.reduceSub, Nat.reduceLT, Nat.reduceLeDiff, Nat.reduceBEq, reduceCtorEq, Int.reduceLT, Int.reduceEq, Int.reduceLE, Int.reduceAdd, Int.reduceSub, Int.reduceToNat, Int.reduceNeg, h0, h1, h5, h6, h7]
        have he7 := (St.Ext.refl S5).put hu (.cells true 1 [.int .i64 xs[i].1])
        refine wE_app intE (ys := [xs[i].1]) (ho.ext intE he7) (SlT.lit intE (xs := [xs[i].1])) rfl rfl (he.trans he7).n (by first | omega | (simp; done) | (simp; omega)) (by first | omega | (simp; done) | (simp; omega)) fun v8 S8 ho8 hb8 hv8 => ?_
        simp (disch := omega) only [go_sem, ↓reduceIte, Nat.reduceEqDiff, Nat.reduceAdd, Nat.reduceMul, Nat.reduceSub, Nat.reduceLT, Nat.reduceLeDiff, Nat.reduceBEq, reduceCtorEq, Int.reduceLT, Int.reduceEq, Int.reduceLE, Int.reduceAdd, Int.reduceSub, Int.reduceToNat, Int.reduceNeg, h0, h1, h5, h6, h7]
        exact ⟨(xs.length - (i+1)) + (ys.length - (k)), by omega, i+1, k, _, _, rfl, by omega, by omega, rfl, rfl, rfl, (he.trans he7).but hb8 (ho.fresh intE), ho8, hA.left hx hli (fun _ => hq)⟩
      · simp (disch := omega) only [go_sem, ↓reduceIte, Nat.reduceEqDiff, Nat.reduceAdd, Nat.reduceMul, Nat.reduceSub, Nat.reduceLT, Nat.reduceLeDiff, Nat.reduceBEq, reduceCtorEq, Int.reduceLT, Int.reduceEq, Int.reduceLE, Int.reduceAdd, Int.reduceSub, Int.reduceToNat, Int.reduceNeg, h0, h1, h5, h6, h7, ni, c1, c2, hxi, hyk]
        refine wcond_dec (fun hq2 => ?_) (fun hq2 => ?_)
        · simp (disch := omega) only [go_sem, ↓reduceIte, Nat.reduceEqDiff, Nat.reduceAdd, Nat.reduceMul, Nat.reduceSub, Nat.reduceLT, Nat.reduceLeDiff, Nat.reduceBEq, reduceCtorEq, Int.reduceLT, Int.reduceEq, Int.reduceLE, Int.reduceAdd, Int.reduceSub, Int.reduceToNat, Int.reduceNeg, h0, h1, h5, h6, h7, c2, hyk]
          refine wfresh_of fun u hu => ?_
          simp (disch := omega) only [go_sem, ↓reduceIte, Nat.reduceEqDiff, Nat.reduceAdd, Nat.reduceMul, Nat.reduceSub, Nat.reduceLT, Nat.reduceLeDiff, Nat.reduceBEq, reduceCtorEq, Int.reduceLT, Int.reduceEq, Int.reduceLE, Int.reduceAdd, Int.reduceSub, Int.reduceToNat, Int.reduceNeg, h0, h1, h5, h6, h7]
          have he7 := (St.Ext.refl S5).put hu (.cells true 1 [.int .i64 ys[k].1])
          refine wE_app intE (ys := [ys[k].1]) (ho.ext intE he7) (SlT.lit intE (xs := [ys[k].1])) rfl rfl (he.trans he7).n (by first | omega | (simp; done) | (simp; omega)) (by first | omega | (simp; done) | (simp; omega)) fun v8 S8 ho8 hb8 hv8 => ?_
          simp (disch := omega) only [go_sem, ↓reduceIte, Nat.reduceEqDiff, Nat.reduceAdd, Nat.reduceMul, Nat.reduceSub, Nat.reduceLT, Nat.reduceLeDiff, Nat.reduceBEq, reduceCtorEq, Int.reduceLT, Int.reduceEq, Int.reduceLE, Int.reduceAdd, Int.reduceSub, Int.reduceToNat, Int.reduceNeg, h0, h1, h5, h6, h7]
          exact ⟨(xs.length - (i)) + (ys.length - (k+1)), by omega, i, k+1, _, _, rfl, by omega, by omega, rfl, rfl, rfl, (he.trans he7).but hb8 (ho.fresh intE), ho8, hA.right hy hlk (fun _ => hq2)⟩
        · simp (disch := omega) only [go_sem, ↓reduceIte, Nat.reduceEqDiff, Nat.reduceAdd, Nat.reduceMul, Nat.reduceSub, Nat.reduceLT, Nat.reduceLeDiff, Nat.reduceBEq, reduceCtorEq, Int.reduceLT, Int.reduceEq, Int.reduceLE, Int.reduceAdd, Int.reduceSub, Int.reduceToNat, Int.reduceNeg, h0, h1, h5, h6, h7, c1, hxi]
          refine wfresh_of fun u hu => ?_
          simp (disch := omega) only [go_sem, ↓reduceIte, Nat.reduceEqDiff, Nat.reduceAdd, Nat.reduceMul, Nat.reduceSub, Nat.reduceLT, Nat.reduceLeDiff, Nat.reduceBEq, reduceCtorEq, Int.reduceLT, Int.reduceEq, Int.reduceLE, Int.reduceAdd, Int.reduceSub, Int.reduceToNat, Int.reduceNeg, h0, h1, h5, h6, h7]
          have he7 := (St.Ext.refl S5).put hu (.cells true 1 [.int .i64 xs[i].1])
          refine wE_app intE (ys := [xs[i].1]) (ho.ext intE he7) (SlT.lit intE (xs := [xs[i].1])) rfl rfl (he.trans he7).n (by first | omega | (simp; done) | (simp; omega)) (by first | omega | (simp; done) | (simp; omega)) fun v8 S8 ho8 hb8 hv8 => ?_
          simp (disch := omega) only [go_sem, ↓reduceIte, Nat.reduceEqDiff, Nat.reduceAdd, Nat.reduceMul, Nat.reduceSub, Nat.reduceLT, Nat.reduceLeDiff, Nat.reduceBEq, reduceCtorEq, Int.reduceLT, Int.reduceEq, Int.reduceLE, Int.reduceAdd, Int.reduceSub, Int.reduceToNat, Int.reduceNeg, h0, h1, h5, h6, h7]
          exact ⟨(xs.length - (i+1)) + (ys.length - (k+1)), by omega, i+1, k+1, _, _, rfl, by omega, by omega, rfl, rfl, rfl, (he.trans he7).but hb8 (ho.fresh intE), ho8, hA.both hx hy hli hlk (by omega)⟩
    · have nk : (k : Int) = (ys.length : Int) := by omega
      simp (disch := omega) only [go_sem, ↓reduceIte, Nat.reduceEqDiff, Nat.reduceAdd, Nat.reduceMul, Nat.reduceSub, Nat.reduceLT, Nat.reduceLeDiff, Nat.reduceBEq, reduceCtorEq, Int.reduceLT, Int.reduceEq, Int.reduceLE, Int.reduceAdd, Int.reduceSub, Int.reduceToNat, Int.reduceNeg, F.osierref04_acts.l0, h0, h1, h5, h6, h7, ci, nk, c1, hxi]
      refine wfresh_of fun u hu => ?_
      simp (disch := omega) only [go_sem, ↓reduceIte, Nat.reduceEqDiff, Nat.reduceAdd, Nat.reduceMul, Nat.reduceSub, Nat.reduceLT, Nat.reduceLeDiff, Nat.reduceBEq, reduceCtorEq, Int.reduceLT, Int.reduceEq, Int.reduceLE, Int.reduceAdd, Int.reduceSub, Int.reduceToNat, Int.reduceNeg, h0, h1, h5, h6, h7]
      have he7 := (St.Ext.refl S5).put hu (.cells true 1 [.int .i64 xs[i].1])
      refine wE_app intE (ys := [xs[i].1]) (ho.ext intE he7) (SlT.lit intE (xs := [xs[i].1])) rfl rfl (he.trans he7).n (by first | omega | (simp; done) | (simp; omega)) (by first | omega | (simp; done) | (simp; omega)) fun v8 S8 ho8 hb8 hv8 => ?_
      simp (disch := omega) only [go_sem, ↓reduceIte, Nat.reduceEqDiff, Nat.reduceAdd, Nat.reduceMul, Nat.reduceSub, Nat.reduceLT, Nat.reduceLeDiff, Nat.reduceBEq, reduceCtorEq, Int.reduceLT, Int.reduceEq, Int.reduceLE, Int.reduceAdd, Int.reduceSub, Int.reduceToNat, Int.reduceNeg, h0, h1, h5, h6, h7]
      exact ⟨(xs.length - (i+1)) + (ys.length - (k)), by omega, i+1, k, _, _, rfl, by omega, by omega, rfl, rfl, rfl, (he.trans he7).but hb8 (ho.fresh intE), ho8, hA.left hx hli (fun h => absurd h hlk)⟩
  · have ni : (i : Int) = (xs.length : Int) := by omega
    by_cases hlk : k < ys.length
    · obtain ⟨b2, off2, rfl, hb2, -, hyk, -⟩ := (hk.ext dotE he).dotc hlk
      have c2 : (0 : Int) ≤ (k : Int) ∧ (k : Int) < (ys.length : Int) := by omega
      have ck : (k : Int) < (ys.length : Int) := by omega
      have nk : ¬ ((k : Int) = (ys.length : Int)) := by omega
      have ci : ¬ ((i : Int) < (xs.length : Int)) := by omega
      simp (disch := omega) only [go_sem, ↓reduceIte, Nat.reduceEqDiff, Nat.reduceAdd, Nat.reduceMul, Nat.reduceSub, Nat.reduceLT, Nat.reduceLeDiff, Nat.reduceBEq, reduceCtorEq, Int.reduceLT, Int.reduceEq, Int.reduceLE, Int.reduceAdd, Int.reduceSub, Int.reduceToNat, Int.reduceNeg, F.osierref04_acts.l0, h0, h1, h5, h6, h7, ci, ck, nk, ni, c2, hyk, Int.lt_irrefl]
      refine wfresh_of fun u hu => ?_
      simp (disch := omega) only [go_sem, ↓reduceIte, Nat.reduceEqDiff, Nat.reduceAdd, Nat.reduceMul, Nat.reduceSub, Nat.reduceLT, Nat.reduceLeDiff, Nat.reduceBEq, reduceCtorEq, Int.reduceLT, Int.reduceEq, Int.reduceLE, Int.reduceAdd, Int.reduceSub, Int.reduceToNat, Int.reduceNeg, h0, h1, h5, h6, h7]
      have he7 := (St.Ext.refl S5).put hu (.cells true 1 [.int .i64 ys[k].1])
      refine wE_app intE (ys := [ys[k].1]) (ho.ext intE he7) (SlT.lit intE (xs := [ys[k].1])) rfl rfl (he.trans he7).n (by first | omega | (simp; done) | (simp; omega)) (by first | omega | (simp; done) | (simp; omega)) fun v8 S8 ho8 hb8 hv8 => ?_
      simp (disch := omega) only [go_sem, ↓reduceIte, Nat.reduceEqDiff, Nat.reduceAdd, Nat.reduceMul, Nat.reduceSub, Nat.reduceLT, Nat.reduceLeDiff, Nat.reduceBEq, reduceCtorEq, Int.reduceLT, Int.reduceEq, Int.reduceLE, Int.reduceAdd, Int.reduceSub, Int.reduceToNat, Int.reduceNeg, h0, h1, h5, h6, h7]
      exact ⟨(xs.length - (i)) + (ys.length - (k+1)), by omega, i, k+1, _, _, rfl, by omega, by omega, rfl, rfl, rfl, (he.trans he7).but hb8 (ho.fresh intE), ho8, hA.right hy hlk (fun h => absurd h hli)⟩
    · have ci : ¬ ((i : Int) < (xs.length : Int)) := by omega
      have ck : ¬ ((k : Int) < (ys.length : Int)) := by omega
      simp (disch := omega) only [go_sem, ↓reduceIte, Nat.reduceEqDiff, Nat.reduceAdd, Nat.reduceMul, Nat.reduceSub, Nat.reduceLT, Nat.reduceLeDiff, Nat.reduceBEq, reduceCtorEq, Int.reduceLT, Int.reduceEq, Int.reduceLE, Int.reduceAdd, Int.reduceSub, Int.reduceToNat, Int.reduceNeg, F.osierref04_acts.l0, h0, h1, h5, h6, h7, ci, ck]
      have hi1 : i = xs.length := by omega
      have hk1 : k = ys.length := by omega
      subst hi1 hk1
      exact ⟨⟨out, ho, hA⟩, he⟩
end Go.Osj

/- Contracts of layer 4: the reference's Join, With, Made; Missing. -/
set_option linter.unusedSimpArgs false
namespace Go.Osj
def chooseV (meet : Bool) : Int → Int → Int := if meet then min else max
theorem chooseV_choice (meet : Bool) : Choice (chooseV meet) := by cases meet <;> simp only [chooseV] <;> first | exact choice_min | exact choice_max
theorem F.osierref04_Join_J {S : St} {l k : Value} {meet : Bool} {xs ys : List Dot} (hl : SlT dotE S l xs) (hk : SlT dotE S k ys) (hx : isV xs) (hy : isV ys) (hL : xs.length < 20000) (hL2 : ys.length < 20000) :
    J PR F.osierref04_Join [l, k, .bool meet] S fun v S' => OwnT dotE S.n S' v (eachV (chooseV meet) xs ys) ∧ S.Ext S' := by
  refine J_by PR.mixed F.osierref04_Join.ok (by simp) ?_
  simp (disch := omega) only [go_sem, ↓reduceIte, Nat.reduceEqDiff, Nat.reduceAdd, Nat.reduceMul, Nat.reduceSub, Nat.reduceLT, Nat.reduceLeDiff, Nat.reduceBEq, reduceCtorEq, Int.reduceLT, Int.reduceEq, Int.reduceLE, Int.reduceAdd, Int.reduceSub, Int.reduceToNat, Int.reduceNeg]
  refine wJ_of (F.osierref04_acts_J hl hk hx hy hL hL2) ?_; rintro v1 S1 ⟨⟨ks, hok, hA⟩, he1⟩
  have hkl := hA.len
  obtain ⟨bq, cq, rfl⟩ := (hok.sl intE).len intE
  simp (disch := omega) only [go_sem, ↓reduceIte, Nat.reduceEqDiff, Nat.reduceAdd, Nat.reduceMul, Nat.reduceSub, Nat.reduceLT, Nat.reduceLeDiff, Nat.reduceBEq, reduceCtorEq, Int.reduceLT, Int.reduceEq, Int.reduceLE, Int.reduceAdd, Int.reduceSub, Int.reduceToNat, Int.reduceNeg]
  refine wC_loop (fun n fr S' => ∃ (i : Nat) (v : Value) (out : List Dot), n = ks.length - i ∧ i ≤ ks.length ∧ fr 0 = l ∧ fr 1 = k ∧ fr 2 = .bool meet ∧ fr 7 = v ∧ fr 8 = .slice bq ks.length cq ∧ fr 9 = .int .i64 (i : Nat) ∧ S1.Ext S' ∧ OwnT dotE S1.n S' v out ∧
    EachI (chooseV meet) xs ys ((ks.take i).map fun a => (a, 0)) out ∧ out.length ≤ i) ks.length ⟨0, .slice none 0 0, [], by simp (disch := omega) only [go_sem, ↓reduceIte, Nat.reduceEqDiff, Nat.reduceAdd, Nat.reduceMul, Nat.reduceSub, Nat.reduceLT, Nat.reduceLeDiff, Nat.reduceBEq, reduceCtorEq, Int.reduceLT, Int.reduceEq, Int.reduceLE, Int.reduceAdd, Int.reduceSub, Int.reduceToNat, Int.reduceNeg]; exact ⟨by simp, by simp, St.Ext.refl _, OwnT.nil .., EachI.nil⟩⟩ ?_
  rintro n fr S5 ⟨i, v, out, rfl, hi, h0, h1, h2, h7, h8, h9, he, ho, hI, hol⟩
  have e5 := he1.trans he
  simp (disch := omega) only [go_sem, ↓reduceIte, Nat.reduceEqDiff, Nat.reduceAdd, Nat.reduceMul, Nat.reduceSub, Nat.reduceLT, Nat.reduceLeDiff, Nat.reduceBEq, reduceCtorEq, Int.reduceLT, Int.reduceEq, Int.reduceLE, Int.reduceAdd, Int.reduceSub, Int.reduceToNat, Int.reduceNeg, F.osierref04_Join.l0, h0, h1, h2, h7, h8, h9]
  refine wcond_dec (fun hlt => ?_) (fun hge => ?_)
  · have hlx : i < ks.length := by omega
    obtain ⟨b, off, rfl, hb, hx0⟩ := ((hok.sl intE).ext intE he).int hlx
    have c1 : (0 : Int) ≤ (i : Int) ∧ (i : Int) < (ks.length : Int) := by omega
    simp (disch := omega) only [go_sem, ↓reduceIte, Nat.reduceEqDiff, Nat.reduceAdd, Nat.reduceMul, Nat.reduceSub, Nat.reduceLT, Nat.reduceLeDiff, Nat.reduceBEq, reduceCtorEq, Int.reduceLT, Int.reduceEq, Int.reduceLE, Int.reduceAdd, Int.reduceSub, Int.reduceToNat, Int.reduceNeg, h0, h1, h2, h7, h8, h9, c1, hx0, Nat.mul_one]
    refine wJ_of (F.osierref04_Get_J (hl.ext dotE e5) (by omega)) ?_; rintro _ _ ⟨rfl, rfl⟩
    simp (disch := omega) only [go_sem, ↓reduceIte, Nat.reduceEqDiff, Nat.reduceAdd, Nat.reduceMul, Nat.reduceSub, Nat.reduceLT, Nat.reduceLeDiff, Nat.reduceBEq, reduceCtorEq, Int.reduceLT, Int.reduceEq, Int.reduceLE, Int.reduceAdd, Int.reduceSub, Int.reduceToNat, Int.reduceNeg, h0, h1, h2, h7, h8, h9, c1, hx0, Nat.mul_one]
    refine wJ_of (F.osierref04_Get_J (hk.ext dotE e5) (by omega)) ?_; rintro _ _ ⟨rfl, rfl⟩
    have htk : (ks.take (i + 1)).map (fun a => ((a, 0) : Dot)) = (ks.take i).map (fun a => (a, 0)) ++ [(ks[i], 0)] := by rw [take_snoc (List.getElem?_eq_getElem hlx), List.map_append]; rfl
    have hmono : ∀ e ∈ out, e.1 < ks[i] := by
      intro e he
      obtain ⟨d, hd, hde⟩ := hI.src e he
      obtain ⟨a, ha, rfl⟩ := List.mem_map.1 hd
      obtain ⟨q, hq, rfl⟩ := List.mem_iff_getElem.1 ha
      simp only [List.length_take] at hq
      have := List.pairwise_iff_getElem.1 hA.lt q i (by omega) hlx (by omega)
      simp only [List.getElem_take] at hde
      omega
    have hg1 := getV_range hx ks[i]
    have hg2 := getV_range hy ks[i]
    simp (disch := omega) only [go_sem, ↓reduceIte, Nat.reduceEqDiff, Nat.reduceAdd, Nat.reduceMul, Nat.reduceSub, Nat.reduceLT, Nat.reduceLeDiff, Nat.reduceBEq, reduceCtorEq, Int.reduceLT, Int.reduceEq, Int.reduceLE, Int.reduceAdd, Int.reduceSub, Int.reduceToNat, Int.reduceNeg, h0, h1, h2, h7, h8, h9]
    by_cases hyx : getV xs ks[i] < getV ys ks[i]
    · cases meet with
      | false =>
        have hcv : chooseV false (getV xs ks[i]) (getV ys ks[i]) = getV ys ks[i] := by simp [chooseV]; omega
        simp (disch := omega) only [go_sem, ↓reduceIte, Nat.reduceEqDiff, Nat.reduceAdd, Nat.reduceMul, Nat.reduceSub, Nat.reduceLT, Nat.reduceLeDiff, Nat.reduceBEq, reduceCtorEq, Int.reduceLT, Int.reduceEq, Int.reduceLE, Int.reduceAdd, Int.reduceSub, Int.reduceToNat, Int.reduceNeg, h0, h1, h2, h7, h8, h9, hyx, Bool.not_true]
        have key2 : ∀ e ∈ out, e.1 < ks[i] := hmono
        refine wcond_dec (fun hp => ?_) (fun hp => ?_)
        · simp (disch := omega) only [go_sem, ↓reduceIte, Nat.reduceEqDiff, Nat.reduceAdd, Nat.reduceMul, Nat.reduceSub, Nat.reduceLT, Nat.reduceLeDiff, Nat.reduceBEq, reduceCtorEq, Int.reduceLT, Int.reduceEq, Int.reduceLE, Int.reduceAdd, Int.reduceSub, Int.reduceToNat, Int.reduceNeg, h0, h1, h2, h7, h8, h9, c1, hx0, Nat.mul_one]
          refine wfresh_of fun u hu => ?_
          simp (disch := omega) only [go_sem, ↓reduceIte, Nat.reduceEqDiff, Nat.reduceAdd, Nat.reduceMul, Nat.reduceSub, Nat.reduceLT, Nat.reduceLeDiff, Nat.reduceBEq, reduceCtorEq, Int.reduceLT, Int.reduceEq, Int.reduceLE, Int.reduceAdd, Int.reduceSub, Int.reduceToNat, Int.reduceNeg, h0, h1, h2, h7, h8, h9]
          have he7 := (St.Ext.refl S5).put hu (.cells true 2 [.int .i64 ks[i], .int .i64 (getV ys ks[i])])
          refine wE_app dotE (ys := [(ks[i], getV ys ks[i])]) (ho.ext dotE he7) (SlT.lit dotE (xs := [(ks[i], getV ys ks[i])])) rfl rfl (he.trans he7).n (by first | omega | (simp; done) | (simp; omega)) (by first | omega | (simp; done) | (simp; omega)) fun v8 S8 ho8 hb8 hv8 => ?_
          simp (disch := omega) only [go_sem, ↓reduceIte, Nat.reduceEqDiff, Nat.reduceAdd, Nat.reduceMul, Nat.reduceSub, Nat.reduceLT, Nat.reduceLeDiff, Nat.reduceBEq, reduceCtorEq, Int.reduceLT, Int.reduceEq, Int.reduceLE, Int.reduceAdd, Int.reduceSub, Int.reduceToNat, Int.reduceNeg, h0, h1, h2, h7, h8, h9]
          have hI2 := hI.put (chooseV_choice _) hx hy (d := (ks[i], 0)) (by rw [hcv]; exact hp) key2
          rw [hcv, ← htk] at hI2
          exact ⟨ks.length - (i + 1), by omega, i + 1, _, _, rfl, by omega, rfl, rfl, (he.trans he7).but hb8 (ho.fresh dotE), ho8, hI2, (by first | omega | (simp; done) | (simp; omega))⟩
        · have hI2 := hI.skip (d := (ks[i], 0)) fun h => absurd (by rw [hcv] at h; exact h) hp
          rw [← htk] at hI2
          first
          | omega
          | simp (disch := omega) only [go_sem, ↓reduceIte, Nat.reduceEqDiff, Nat.reduceAdd, Nat.reduceMul, Nat.reduceSub, Nat.reduceLT, Nat.reduceLeDiff, Nat.reduceBEq, reduceCtorEq, Int.reduceLT, Int.reduceEq, Int.reduceLE, Int.reduceAdd, Int.reduceSub, Int.reduceToNat, Int.reduceNeg, h0, h1, h2, h7, h8, h9]
            exact ⟨ks.length - (i + 1), by omega, i + 1, _, _, rfl, by omega, rfl, rfl, he, ho, hI2, by omega⟩
      | true =>
        have hcv : chooseV true (getV xs ks[i]) (getV ys ks[i]) = getV xs ks[i] := by simp [chooseV]; omega
        simp (disch := omega) only [go_sem, ↓reduceIte, Nat.reduceEqDiff, Nat.reduceAdd, Nat.reduceMul, Nat.reduceSub, Nat.reduceLT, Nat.reduceLeDiff, Nat.reduceBEq, reduceCtorEq, Int.reduceLT, Int.reduceEq, Int.reduceLE, Int.reduceAdd, Int.reduceSub, Int.reduceToNat, Int.reduceNeg, h0, h1, h2, h7, h8, h9, hyx, Bool.not_true]
        have key2 : ∀ e ∈ out, e.1 < ks[i] := hmono
        refine wcond_dec (fun hp => ?_) (fun hp => ?_)
        · simp (disch := omega) only [go_sem, ↓reduceIte, Nat.reduceEqDiff, Nat.reduceAdd, Nat.reduceMul, Nat.reduceSub, Nat.reduceLT, Nat.reduceLeDiff, Nat.reduceBEq, reduceCtorEq, Int.reduceLT, Int.reduceEq, Int.reduceLE, Int.reduceAdd, Int.reduceSub, Int.reduceToNat, Int.reduceNeg, h0, h1, h2, h7, h8, h9, c1, hx0, Nat.mul_one]
          refine wfresh_of fun u hu => ?_
          simp (disch := omega) only [go_sem, ↓reduceIte, Nat.reduceEqDiff, Nat.reduceAdd, Nat.reduceMul, Nat.reduceSub, Nat.reduceLT, Nat.reduceLeDiff, Nat.reduceBEq, reduceCtorEq, Int.reduceLT, Int.reduceEq, Int.reduceLE, Int.reduceAdd, Int.reduceSub, Int.reduceToNat, Int.reduceNeg, h0, h1, h2, h7, h8, h9]
          have he7 := (St.Ext.refl S5).put hu (.cells true 2 [.int .i64 ks[i], .int .i64 (getV xs ks[i])])
          refine wE_app dotE (ys := [(ks[i], getV xs ks[i])]) (ho.ext dotE he7) (SlT.lit dotE (xs := [(ks[i], getV xs ks[i])])) rfl rfl (he.trans he7).n (by first | omega | (simp; done) | (simp; omega)) (by first | omega | (simp; done) | (simp; omega)) fun v8 S8 ho8 hb8 hv8 => ?_
          simp (disch := omega) only [go_sem, ↓reduceIte, Nat.reduceEqDiff, Nat.reduceAdd, Nat.reduceMul, Nat.reduceSub, Nat.reduceLT, Nat.reduceLeDiff, Nat.reduceBEq, reduceCtorEq, Int.reduceLT, Int.reduceEq, Int.reduceLE, Int.reduceAdd, Int.reduceSub, Int.reduceToNat, Int.reduceNeg, h0, h1, h2, h7, h8, h9]
          have hI2 := hI.put (chooseV_choice _) hx hy (d := (ks[i], 0)) (by rw [hcv]; exact hp) key2
          rw [hcv, ← htk] at hI2
          exact ⟨ks.length - (i + 1), by omega, i + 1, _, _, rfl, by omega, rfl, rfl, (he.trans he7).but hb8 (ho.fresh dotE), ho8, hI2, (by first | omega | (simp; done) | (simp; omega))⟩
        · have hI2 := hI.skip (d := (ks[i], 0)) fun h => absurd (by rw [hcv] at h; exact h) hp
          rw [← htk] at hI2
          first
          | omega
          | simp (disch := omega) only [go_sem, ↓reduceIte, Nat.reduceEqDiff, Nat.reduceAdd, Nat.reduceMul, Nat.reduceSub, Nat.reduceLT, Nat.reduceLeDiff, Nat.reduceBEq, reduceCtorEq, Int.reduceLT, Int.reduceEq, Int.reduceLE, Int.reduceAdd, Int.reduceSub, Int.reduceToNat, Int.reduceNeg, h0, h1, h2, h7, h8, h9]
            exact ⟨ks.length - (i + 1), by omega, i + 1, _, _, rfl, by omega, rfl, rfl, he, ho, hI2, by omega⟩
    · cases meet with
      | false =>
        have hcv : chooseV false (getV xs ks[i]) (getV ys ks[i]) = getV xs ks[i] := by simp [chooseV]; omega
        simp (disch := omega) only [go_sem, ↓reduceIte, Nat.reduceEqDiff, Nat.reduceAdd, Nat.reduceMul, Nat.reduceSub, Nat.reduceLT, Nat.reduceLeDiff, Nat.reduceBEq, reduceCtorEq, Int.reduceLT, Int.reduceEq, Int.reduceLE, Int.reduceAdd, Int.reduceSub, Int.reduceToNat, Int.reduceNeg, h0, h1, h2, h7, h8, h9, hyx, Bool.not_false]
        have key2 : ∀ e ∈ out, e.1 < ks[i] := hmono
        refine wcond_dec (fun hp => ?_) (fun hp => ?_)
        · simp (disch := omega) only [go_sem, ↓reduceIte, Nat.reduceEqDiff, Nat.reduceAdd, Nat.reduceMul, Nat.reduceSub, Nat.reduceLT, Nat.reduceLeDiff, Nat.reduceBEq, reduceCtorEq, Int.reduceLT, Int.reduceEq, Int.reduceLE, Int.reduceAdd, Int.reduceSub, Int.reduceToNat, Int.reduceNeg, h0, h1, h2, h7, h8, h9, c1, hx0, Nat.mul_one]
          refine wfresh_of fun u hu => ?_
          simp (disch := omega) only [go_sem, ↓reduceIte, Nat.reduceEqDiff, Nat.reduceAdd, Nat.reduceMul, Nat.reduceSub, Nat.reduceLT, Nat.reduceLeDiff, Nat.reduceBEq, reduceCtorEq, Int.reduceLT, Int.reduceEq, Int.reduceLE, Int.reduceAdd, Int.reduceSub, Int.reduceToNat, Int.reduceNeg, h0, h1, h2, h7, h8, h9]
          have he7 := (St.Ext.refl S5).put hu (.cells true 2 [.int .i64 ks[i], .int .i64 (getV xs ks[i])])
          refine wE_app dotE (ys := [(ks[i], getV xs ks[i])]) (ho.ext dotE he7) (SlT.lit dotE (xs := [(ks[i], getV xs ks[i])])) rfl rfl (he.trans he7).n (by first | omega | (simp; done) | (simp; omega)) (by first | omega | (simp; done) | (simp; omega)) fun v8 S8 ho8 hb8 hv8 => ?_
          simp (disch := omega) only [go_sem, ↓reduceIte, Nat.reduceEqDiff, Nat.reduceAdd, Nat.reduceMul, Nat.reduceSub, Nat.reduceLT, Nat.reduceLeDiff, Nat.reduceBEq, reduceCtorEq, Int.reduceLT, Int.reduceEq, Int.reduceLE, Int.reduceAdd, Int.reduceSub, Int.reduceToNat, Int.reduceNeg, h0, h1, h2, h7, h8, h9]
          have hI2 := hI.put (chooseV_choice _) hx hy (d := (ks[i], 0)) (by rw [hcv]; exact hp) key2
          rw [hcv, ← htk] at hI2
          exact ⟨ks.length - (i + 1), by omega, i + 1, _, _, rfl, by omega, rfl, rfl, (he.trans he7).but hb8 (ho.fresh dotE), ho8, hI2, (by first | omega | (simp; done) | (simp; omega))⟩
        · have hI2 := hI.skip (d := (ks[i], 0)) fun h => absurd (by rw [hcv] at h; exact h) hp
          rw [← htk] at hI2
          first
          | omega
          | simp (disch := omega) only [go_sem, ↓reduceIte, Nat.reduceEqDiff, Nat.reduceAdd, Nat.reduceMul, Nat.reduceSub, Nat.reduceLT, Nat.reduceLeDiff, Nat.reduceBEq, reduceCtorEq, Int.reduceLT, Int.reduceEq, Int.reduceLE, Int.reduceAdd, Int.reduceSub, Int.reduceToNat, Int.reduceNeg, h0, h1, h2, h7, h8, h9]
            exact ⟨ks.length - (i + 1), by omega, i + 1, _, _, rfl, by omega, rfl, rfl, he, ho, hI2, by omega⟩
      | true =>
        have hcv : chooseV true (getV xs ks[i]) (getV ys ks[i]) = getV ys ks[i] := by simp [chooseV]; omega
        simp (disch := omega) only [go_sem, ↓reduceIte, Nat.reduceEqDiff, Nat.reduceAdd, Nat.reduceMul, Nat.reduceSub, Nat.reduceLT, Nat.reduceLeDiff, Nat.reduceBEq, reduceCtorEq, Int.reduceLT, Int.reduceEq, Int.reduceLE, Int.reduceAdd, Int.reduceSub, Int.reduceToNat, Int.reduceNeg, h0, h1, h2, h7, h8, h9, hyx, Bool.not_false]
        have key2 : ∀ e ∈ out, e.1 < ks[i] := hmono
        refine wcond_dec (fun hp => ?_) (fun hp => ?_)
        · simp (disch := omega) only [go_sem, ↓reduceIte, Nat.reduceEqDiff, Nat.reduceAdd, Nat.reduceMul, Nat.reduceSub, Nat.reduceLT, Nat.reduceLeDiff, Nat.reduceBEq, reduceCtorEq, Int.reduceLT, Int.reduceEq, Int.reduceLE, Int.reduceAdd, Int.reduceSub, Int.reduceToNat, Int.reduceNeg, h0, h1, h2, h7, h8, h9, c1, hx0, Nat.mul_one]
          refine wfresh_of fun u hu => ?_
          simp (disch := omega) only [go_sem, ↓reduceIte, Nat.reduceEqDiff, Nat.reduceAdd, Nat.reduceMul, Nat.reduceSub, Nat.reduceLT, Nat.reduceLeDiff, Nat.reduceBEq, reduceCtorEq, Int.reduceLT, Int.reduceEq, Int.reduceLE, Int.reduceAdd, Int.reduceSub, Int.reduceToNat, Int.reduceNeg, h0, h1, h2, h7, h8, h9]
          have he7 := (St.Ext.refl S5).put hu (.cells true 2 [.int .i64 ks[i], .int .i64 (getV ys ks[i])])
          refine wE_app dotE (ys := [(ks[i], getV ys ks[i])]) (ho.ext dotE he7) (SlT.lit dotE (xs := [(ks[i], getV ys ks[i])])) rfl rfl (he.trans he7).n (by first | omega | (simp; done) | (simp; omega)) (by first | omega | (simp; done) | (simp; omega)) fun v8 S8 ho8 hb8 hv8 => ?_
          simp (disch := omega) only [go_sem, ↓reduceIte, Nat.reduceEqDiff, Nat.reduceAdd, Nat.reduceMul, Nat.reduceSub, Nat.reduceLT, Nat.reduceLeDiff, Nat.reduceBEq, reduceCtorEq, Int.reduceLT, Int.reduceEq, Int.reduceLE, Int.reduceAdd, Int.reduceSub, Int.reduceToNat, Int.reduceNeg, h0, h1, h2, h7, h8, h9]
          have hI2 := hI.put (chooseV_choice _) hx hy (d := (ks[i], 0)) (by rw [hcv]; exact hp) key2
          rw [hcv, ← htk] at hI2
          exact ⟨ks.length - (i + 1), by omega, i + 1, _, _, rfl, by omega, rfl, rfl, (he.trans he7).but hb8 (ho.fresh dotE), ho8, hI2, (by first | omega | (simp; done) | (simp; omega))⟩
        · have hI2 := hI.skip (d := (ks[i], 0)) fun h => absurd (by rw [hcv] at h; exact h) hp
          rw [← htk] at hI2
          first
          | omega
          | simp (disch := omega) only [go_sem, ↓reduceIte, Nat.reduceEqDiff, Nat.reduceAdd, Nat.reduceMul, Nat.reduceSub, Nat.reduceLT, Nat.reduceLeDiff, Nat.reduceBEq, reduceCtorEq, Int.reduceLT, Int.reduceEq, Int.reduceLE, Int.reduceAdd, Int.reduceSub, Int.reduceToNat, Int.reduceNeg, h0, h1, h2, h7, h8, h9]
            exact ⟨ks.length - (i + 1), by omega, i + 1, _, _, rfl, by omega, rfl, rfl, he, ho, hI2, by omega⟩
  · simp (disch := omega) only [go_sem, ↓reduceIte, Nat.reduceEqDiff, Nat.reduceAdd, Nat.reduceMul, Nat.reduceSub, Nat.reduceLT, Nat.reduceLeDiff, Nat.reduceBEq, reduceCtorEq, Int.reduceLT, Int.reduceEq, Int.reduceLE, Int.reduceAdd, Int.reduceSub, Int.reduceToNat, Int.reduceNeg, h7]
    rw [List.take_of_length_le (by omega)] at hI
    have := hI.eq (chooseV_choice meet) hx hy fun d hd => ⟨(d.1, 0), List.mem_map.2 ⟨d.1, (hA.mem _).2 (by
      rcases List.mem_append.1 hd with h | h
      · exact .inl ⟨d, by rw [List.take_length]; exact h, rfl⟩
      · exact .inr ⟨d, by rw [List.take_length]; exact h, rfl⟩), rfl⟩, rfl⟩
    rw [this] at ho
    exact ⟨ho.mono dotE he1.n, e5⟩
theorem F.osierref04_With_J {S : St} {l : Value} {xs : List Dot} {d : Dot} (hl : SlT dotE S l xs) (hx : isV xs) (hL : xs.length < 20000) :
    J PR F.osierref04_With [l, dotV d] S fun v S' => SlT dotE S' v (withV xs d) ∧ S.Ext S' := by
  refine J_by PR.mixed F.osierref04_With.ok (by simp) ?_
  simp (disch := omega) only [go_sem, ↓reduceIte, Nat.reduceEqDiff, Nat.reduceAdd, Nat.reduceMul, Nat.reduceSub, Nat.reduceLT, Nat.reduceLeDiff, Nat.reduceBEq, reduceCtorEq, Int.reduceLT, Int.reduceEq, Int.reduceLE, Int.reduceAdd, Int.reduceSub, Int.reduceToNat, Int.reduceNeg]
  refine wfresh_of fun x hx' => ?_
  simp (disch := omega) only [go_sem, ↓reduceIte, Nat.reduceEqDiff, Nat.reduceAdd, Nat.reduceMul, Nat.reduceSub, Nat.reduceLT, Nat.reduceLeDiff, Nat.reduceBEq, reduceCtorEq, Int.reduceLT, Int.reduceEq, Int.reduceLE, Int.reduceAdd, Int.reduceSub, Int.reduceToNat, Int.reduceNeg]
  have he := (St.Ext.refl S).put hx' (.cells true 2 [.int .i64 d.1, .int .i64 d.2])
  refine wJ_of F.osierref03_May_P ?_; rintro _ _ ⟨rfl, rfl⟩
  unfold withV
  by_cases hm : mayP d
  · simp (disch := omega) only [go_sem, ↓reduceIte, Nat.reduceEqDiff, Nat.reduceAdd, Nat.reduceMul, Nat.reduceSub, Nat.reduceLT, Nat.reduceLeDiff, Nat.reduceBEq, reduceCtorEq, Int.reduceLT, Int.reduceEq, Int.reduceLE, Int.reduceAdd, Int.reduceSub, Int.reduceToNat, Int.reduceNeg, hm]
    refine wfresh_of fun y hy => ?_
    simp (disch := omega) only [go_sem, ↓reduceIte, Nat.reduceEqDiff, Nat.reduceAdd, Nat.reduceMul, Nat.reduceSub, Nat.reduceLT, Nat.reduceLeDiff, Nat.reduceBEq, reduceCtorEq, Int.reduceLT, Int.reduceEq, Int.reduceLE, Int.reduceAdd, Int.reduceSub, Int.reduceToNat, Int.reduceNeg]
    have he2 := he.put hy (.cells true 2 [.int .i64 d.1, .int .i64 d.2])
    refine wJ_of (F.osierref04_Join_J (ys := [d]) (meet := false) (hl.ext dotE he2) (SlT.lit dotE (xs := [d])) hx (isV_one hm) hL (by simp)) ?_; rintro v S1 ⟨ho, he3⟩
    simp (disch := omega) only [go_sem, ↓reduceIte, Nat.reduceEqDiff, Nat.reduceAdd, Nat.reduceMul, Nat.reduceSub, Nat.reduceLT, Nat.reduceLeDiff, Nat.reduceBEq, reduceCtorEq, Int.reduceLT, Int.reduceEq, Int.reduceLE, Int.reduceAdd, Int.reduceSub, Int.reduceToNat, Int.reduceNeg]
    rw [if_pos hm]
    exact ⟨ho.sl dotE, he2.trans he3⟩
  · simp (disch := omega) only [go_sem, ↓reduceIte, Nat.reduceEqDiff, Nat.reduceAdd, Nat.reduceMul, Nat.reduceSub, Nat.reduceLT, Nat.reduceLeDiff, Nat.reduceBEq, reduceCtorEq, Int.reduceLT, Int.reduceEq, Int.reduceLE, Int.reduceAdd, Int.reduceSub, Int.reduceToNat, Int.reduceNeg, hm]
    exact ⟨hl.ext dotE he, he⟩
end Go.Osj
