/- Contracts of layer 4: joins, With, Made, Missing. -/
import Derived.Test.YtnofakkcipcphaaX
set_option linter.unusedSimpArgs false
namespace Go.Osj
theorem F.vector_Join_J {S : St} {l k : Value} {xs ys : List Dot} (hl : SlT dotE S l xs) (hk : SlT dotE S k ys) (hx : isV xs) (hy : isV ys) (hL : xs.length < 20000) (hL2 : ys.length < 20000) :
    J PR F.vector_Join [l, k] S fun v S' => OwnT dotE S.n S' v (joinV xs ys) ∧ S.Ext S' := by
  refine J_by PR.mixed F.vector_Join.ok (by simp) ?_
  simp (disch := omega) only [go_sem, ↓reduceIte, Nat.reduceEqDiff, Nat.reduceAdd, Nat.reduceMul, Nat.reduceSub, Nat.reduceLT, Nat.reduceLeDiff, Nat.reduceBEq, Nat.reduceLeDiff, reduceCtorEq, Int.reduceLT, Int.reduceEq, Int.reduceLE, Int.reduceAdd, Int.reduceSub, Int.reduceToNat, Int.reduceNeg, Int.toNat_natCast, beq_self_eq_true, wrap64, undef, Nat.zero_add, Nat.add_zero, Int.zero_add, Int.add_zero, Int.sub_zero, St.loadN_other, St.cell_other]
  refine wJ_of (F.vector_each_J choice_max funI_join hl hk hx hy hL hL2) ?_; rintro v S1 ⟨ho, he⟩
  simp (disch := omega) only [go_sem, ↓reduceIte, Nat.reduceEqDiff, Nat.reduceAdd, Nat.reduceMul, Nat.reduceSub, Nat.reduceLT, Nat.reduceLeDiff, Nat.reduceBEq, Nat.reduceLeDiff, reduceCtorEq, Int.reduceLT, Int.reduceEq, Int.reduceLE, Int.reduceAdd, Int.reduceSub, Int.reduceToNat, Int.reduceNeg, Int.toNat_natCast, beq_self_eq_true, wrap64, undef, Nat.zero_add, Nat.add_zero, Int.zero_add, Int.add_zero, Int.sub_zero, St.loadN_other, St.cell_other]
  exact ⟨ho, he⟩
theorem F.vector_Meet_J {S : St} {l k : Value} {xs ys : List Dot} (hl : SlT dotE S l xs) (hk : SlT dotE S k ys) (hx : isV xs) (hy : isV ys) (hL : xs.length < 20000) (hL2 : ys.length < 20000) :
    J PR F.vector_Meet [l, k] S fun v S' => OwnT dotE S.n S' v (meetV xs ys) ∧ S.Ext S' := by
  refine J_by PR.mixed F.vector_Meet.ok (by simp) ?_
  simp (disch := omega) only [go_sem, ↓reduceIte, Nat.reduceEqDiff, Nat.reduceAdd, Nat.reduceMul, Nat.reduceSub, Nat.reduceLT, Nat.reduceLeDiff, Nat.reduceBEq, Nat.reduceLeDiff, reduceCtorEq, Int.reduceLT, Int.reduceEq, Int.reduceLE, Int.reduceAdd, Int.reduceSub, Int.reduceToNat, Int.reduceNeg, Int.toNat_natCast, beq_self_eq_true, wrap64, undef, Nat.zero_add, Nat.add_zero, Int.zero_add, Int.add_zero, Int.sub_zero, St.loadN_other, St.cell_other]
  refine wJ_of (F.vector_each_J choice_min funI_meet hl hk hx hy hL hL2) ?_; rintro v S1 ⟨ho, he⟩
  simp (disch := omega) only [go_sem, ↓reduceIte, Nat.reduceEqDiff, Nat.reduceAdd, Nat.reduceMul, Nat.reduceSub, Nat.reduceLT, Nat.reduceLeDiff, Nat.reduceBEq, Nat.reduceLeDiff, reduceCtorEq, Int.reduceLT, Int.reduceEq, Int.reduceLE, Int.reduceAdd, Int.reduceSub, Int.reduceToNat, Int.reduceNeg, Int.toNat_natCast, beq_self_eq_true, wrap64, undef, Nat.zero_add, Nat.add_zero, Int.zero_add, Int.add_zero, Int.sub_zero, St.loadN_other, St.cell_other]
  exact ⟨ho, he⟩
theorem F.vector_With_J {S : St} {l : Value} {xs : List Dot} {d : Dot} (hl : SlT dotE S l xs) (hx : isV xs) (hL : xs.length < 20000) :
    J PR F.vector_With [l, dotV d] S fun v S' => OwnT dotE S.n S' v (withV xs d) ∧ S.Ext S' := by
  refine J_by PR.mixed F.vector_With.ok (by simp) ?_
  simp (disch := omega) only [go_sem, ↓reduceIte, Nat.reduceEqDiff, Nat.reduceAdd, Nat.reduceMul, Nat.reduceSub, Nat.reduceLT, Nat.reduceLeDiff, Nat.reduceBEq, Nat.reduceLeDiff, reduceCtorEq, Int.reduceLT, Int.reduceEq, Int.reduceLE, Int.reduceAdd, Int.reduceSub, Int.reduceToNat, Int.reduceNeg, Int.toNat_natCast, beq_self_eq_true, wrap64, undef, Nat.zero_add, Nat.add_zero, Int.zero_add, Int.add_zero, Int.sub_zero, St.loadN_other, St.cell_other]
  refine wfresh_of fun x hx' => ?_
  simp (disch := omega) only [go_sem, ↓reduceIte, Nat.reduceEqDiff, Nat.reduceAdd, Nat.reduceMul, Nat.reduceSub, Nat.reduceLT, Nat.reduceLeDiff, Nat.reduceBEq, Nat.reduceLeDiff, reduceCtorEq, Int.reduceLT, Int.reduceEq, Int.reduceLE, Int.reduceAdd, Int.reduceSub, Int.reduceToNat, Int.reduceNeg, Int.toNat_natCast, beq_self_eq_true, wrap64, undef, Nat.zero_add, Nat.add_zero, Int.zero_add, Int.add_zero, Int.sub_zero, St.loadN_other, St.cell_other]
  have he := (St.Ext.refl S).put hx' (.cells true 2 [.int .i64 d.1, .int .i64 d.2])
  refine wJ_of F.dots_May_P ?_; rintro _ _ ⟨rfl, rfl⟩
  unfold withV
  by_cases hm : mayP d
  · simp (disch := omega) only [go_sem, ↓reduceIte, Nat.reduceEqDiff, Nat.reduceAdd, Nat.reduceMul, Nat.reduceSub, Nat.reduceLT, Nat.reduceLeDiff, Nat.reduceBEq, Nat.reduceLeDiff, reduceCtorEq, Int.reduceLT, Int.reduceEq, Int.reduceLE, Int.reduceAdd, Int.reduceSub, Int.reduceToNat, Int.reduceNeg, Int.toNat_natCast, beq_self_eq_true, wrap64, undef, Nat.zero_add, Nat.add_zero, Int.zero_add, Int.add_zero, Int.sub_zero, St.loadN_other, St.cell_other, hm]
    refine wfresh_of fun y hy => ?_
    simp (disch := omega) only [go_sem, ↓reduceIte, Nat.reduceEqDiff, Nat.reduceAdd, Nat.reduceMul, Nat.reduceSub, Nat.reduceLT, Nat.reduceLeDiff, Nat.reduceBEq, Nat.reduceLeDiff, reduceCtorEq, Int.reduceLT, Int.reduceEq, Int.reduceLE, Int.reduceAdd, Int.reduceSub, Int.reduceToNat, Int.reduceNeg, Int.toNat_natCast, beq_self_eq_true, wrap64, undef, Nat.zero_add, Nat.add_zero, Int.zero_add, Int.add_zero, Int.sub_zero, St.loadN_other, St.cell_other]
    have he2 := he.put hy (.cells true 2 [.int .i64 d.1, .int .i64 d.2])
    refine wJ_of (F.vector_Join_J (ys := [d]) (hl.ext dotE he2) (SlT.lit dotE (xs := [d])) hx (isV_one hm) hL (by simp)) ?_; rintro v S1 ⟨ho, he3⟩
    simp (disch := omega) only [go_sem, ↓reduceIte, Nat.reduceEqDiff, Nat.reduceAdd, Nat.reduceMul, Nat.reduceSub, Nat.reduceLT, Nat.reduceLeDiff, Nat.reduceBEq, Nat.reduceLeDiff, reduceCtorEq, Int.reduceLT, Int.reduceEq, Int.reduceLE, Int.reduceAdd, Int.reduceSub, Int.reduceToNat, Int.reduceNeg, Int.toNat_natCast, beq_self_eq_true, wrap64, undef, Nat.zero_add, Nat.add_zero, Int.zero_add, Int.add_zero, Int.sub_zero, St.loadN_other, St.cell_other]
    rw [if_pos hm]
    exact ⟨ho.mono dotE he2.n, he2.trans he3⟩
  · simp (disch := omega) only [go_sem, ↓reduceIte, Nat.reduceEqDiff, Nat.reduceAdd, Nat.reduceMul, Nat.reduceSub, Nat.reduceLT, Nat.reduceLeDiff, Nat.reduceBEq, Nat.reduceLeDiff, reduceCtorEq, Int.reduceLT, Int.reduceEq, Int.reduceLE, Int.reduceAdd, Int.reduceSub, Int.reduceToNat, Int.reduceNeg, Int.toNat_natCast, beq_self_eq_true, wrap64, undef, Nat.zero_add, Nat.add_zero, Int.zero_add, Int.add_zero, Int.sub_zero, St.loadN_other, St.cell_other, hm]
    refine wJ_of (F.slices_Clone_api_Vector_api_Dot_J (hl.ext dotE he) (by omega)) ?_; rintro v S1 ⟨ho, he3⟩
    simp (disch := omega) only [go_sem, ↓reduceIte, Nat.reduceEqDiff, Nat.reduceAdd, Nat.reduceMul, Nat.reduceSub, Nat.reduceLT, Nat.reduceLeDiff, Nat.reduceBEq, Nat.reduceLeDiff, reduceCtorEq, Int.reduceLT, Int.reduceEq, Int.reduceLE, Int.reduceAdd, Int.reduceSub, Int.reduceToNat, Int.reduceNeg, Int.toNat_natCast, beq_self_eq_true, wrap64, undef, Nat.zero_add, Nat.add_zero, Int.zero_add, Int.add_zero, Int.sub_zero, St.loadN_other, St.cell_other]
    rw [if_neg hm]
    exact ⟨ho.mono dotE he.n, he.trans he3⟩

/-! ### the reference's join -/
def intE : Enc Int := ⟨fun a => [.int .i64 a], 1, fun _ => rfl, fun _ => rfl, by decide⟩
theorem SlT.int {S : St} {base : Option Addr} {n cap : Nat} {xs : List Int} (h : SlT intE S (.slice base n cap) xs) {i : Nat} (hi : i < xs.length) :
    ∃ b off, base = some ⟨b, off, none⟩ ∧ b < S.n ∧ S.cell ⟨b, off + i, none⟩ = some (.int .i64 xs[i]) := by
  obtain ⟨b, off, h1, h2, h3, h4⟩ := h.at intE (i := i) (x := xs[i]) (by simp)
  exact ⟨b, off, h1, h2, by simpa [intE] using h4 0 (by decide)⟩
/-- the actors of the first so many of both, rising -/
structure ActsI (xs ys : List Dot) (i k : Nat) (out : List Int) : Prop where
  lt : out.Pairwise (· < ·)
  mem : ∀ a, a ∈ out ↔ (∃ d ∈ xs.take i, d.1 = a) ∨ ∃ d ∈ ys.take k, d.1 = a
  ax : ∀ a ∈ out, ∀ h : i < xs.length, a < xs[i].1
  ay : ∀ a ∈ out, ∀ h : k < ys.length, a < ys[k].1
  len : out.length ≤ i + k
theorem isV_lt {v : List Dot} (h : isV v) {i j : Nat} (hj : j < v.length) (hij : i < j) : (v[i]'(by omega)).1 < v[j].1 := List.pairwise_iff_getElem.1 h.1 i j (by omega) hj hij
theorem pw_snoc {out : List Int} {a : Int} (h : out.Pairwise (· < ·)) (ha : ∀ b ∈ out, b < a) : (out ++ [a]).Pairwise (· < ·) := by
  rw [List.pairwise_append]
  exact ⟨h, by simp, fun b hb c hc => by simp at hc; subst hc; exact ha b hb⟩
theorem ActsI.left {xs ys : List Dot} {i k : Nat} {out : List Int} (hx : isV xs) (h : ActsI xs ys i k out) (hi : i < xs.length) (hlt : ∀ h : k < ys.length, xs[i].1 < ys[k].1) : ActsI xs ys (i + 1) k (out ++ [xs[i].1]) := by
  refine ⟨pw_snoc h.lt fun b hb => h.ax b hb hi, fun a => ?_, fun a ha hi2 => ?_, fun a ha hk => ?_, by have := h.len; simp; omega⟩
  · rw [List.mem_append, h.mem, take_snoc (List.getElem?_eq_getElem hi)]
    simp only [List.mem_append, List.mem_singleton]
    constructor
    · rintro ((⟨d, h1, h2⟩ | h1) | h1)
      · exact .inl ⟨d, .inl h1, h2⟩
      · exact .inr h1
      · exact .inl ⟨xs[i], .inr rfl, h1.symm⟩
    · rintro (⟨d, h1 | h1, h2⟩ | h1)
      · exact .inl (.inl ⟨d, h1, h2⟩)
      · subst h1; exact .inr h2.symm
      · exact .inl (.inr h1)
  · have h1 := isV_lt hx hi2 (Nat.lt_succ_self i)
    rcases List.mem_append.1 ha with ha | ha
    · have := h.ax a ha hi; omega
    · simp at ha; subst ha; exact h1
  · rcases List.mem_append.1 ha with ha | ha
    · exact h.ay a ha hk
    · simp at ha; subst ha; exact hlt hk
theorem ActsI.right {xs ys : List Dot} {i k : Nat} {out : List Int} (hy : isV ys) (h : ActsI xs ys i k out) (hk : k < ys.length) (hlt : ∀ h : i < xs.length, ys[k].1 < xs[i].1) : ActsI xs ys i (k + 1) (out ++ [ys[k].1]) := by
  refine ⟨pw_snoc h.lt fun b hb => h.ay b hb hk, fun a => ?_, fun a ha hi => ?_, fun a ha hk2 => ?_, by have := h.len; simp; omega⟩
  · rw [List.mem_append, h.mem, take_snoc (List.getElem?_eq_getElem hk)]
    simp only [List.mem_append, List.mem_singleton]
    constructor
    · rintro ((h1 | ⟨d, h1, h2⟩) | h1)
      · exact .inl h1
      · exact .inr ⟨d, .inl h1, h2⟩
      · exact .inr ⟨ys[k], .inr rfl, h1.symm⟩
    · rintro (h1 | ⟨d, h1 | h1, h2⟩)
      · exact .inl (.inl h1)
      · exact .inl (.inr ⟨d, h1, h2⟩)
      · subst h1; exact .inr h2.symm
  · rcases List.mem_append.1 ha with ha | ha
    · exact h.ax a ha hi
    · simp at ha; subst ha; exact hlt hi
  · have h1 := isV_lt hy hk2 (Nat.lt_succ_self k)
    rcases List.mem_append.1 ha with ha | ha
    · have := h.ay a ha hk; omega
    · simp at ha; subst ha; exact h1
theorem ActsI.both {xs ys : List Dot} {i k : Nat} {out : List Int} (hx : isV xs) (hy : isV ys) (h : ActsI xs ys i k out) (hi : i < xs.length) (hk : k < ys.length) (heq : xs[i].1 = ys[k].1) : ActsI xs ys (i + 1) (k + 1) (out ++ [xs[i].1]) := by
  refine ⟨pw_snoc h.lt fun b hb => h.ax b hb hi, fun a => ?_, fun a ha hi2 => ?_, fun a ha hk2 => ?_, by have := h.len; simp; omega⟩
  · rw [List.mem_append, h.mem, take_snoc (List.getElem?_eq_getElem hk), take_snoc (List.getElem?_eq_getElem hi)]
    simp only [List.mem_append, List.mem_singleton]
    constructor
    · rintro ((⟨d, h1, h2⟩ | ⟨d, h1, h2⟩) | h1)
      · exact .inl ⟨d, .inl h1, h2⟩
      · exact .inr ⟨d, .inl h1, h2⟩
      · exact .inl ⟨xs[i], .inr rfl, h1.symm⟩
    · rintro (⟨d, h1 | h1, h2⟩ | ⟨d, h1 | h1, h2⟩)
      · exact .inl (.inl ⟨d, h1, h2⟩)
      · subst h1; exact .inr h2.symm
      · exact .inl (.inr ⟨d, h1, h2⟩)
      · subst h1; exact .inr (by omega)
  · have h1 := isV_lt hx hi2 (Nat.lt_succ_self i)
    rcases List.mem_append.1 ha with ha | ha
    · have := h.ax a ha hi; omega
    · simp at ha; subst ha; exact h1
  · have h1 := isV_lt hy hk2 (Nat.lt_succ_self k)
    rcases List.mem_append.1 ha with ha | ha
    · have := h.ay a ha hk; omega
    · simp at ha; subst ha; omega

theorem F.osierref04_acts_J {S : St} {l k : Value} {xs ys : List Dot} (hl : SlT dotE S l xs) (hk : SlT dotE S k ys) (hx : isV xs) (hy : isV ys) (hL : xs.length < 20000) (hL2 : ys.length < 20000) :
    J PR F.osierref04_acts [l, k] S fun v S' => (∃ ks, OwnT intE S.n S' v ks ∧ ActsI xs ys xs.length ys.length ks) ∧ S.Ext S' := by
  obtain ⟨ba, ca, rfl⟩ := hl.len dotE
  obtain ⟨bb, cb, rfl⟩ := hk.len dotE
  refine J_by PR.mixed F.osierref04_acts.ok (by simp) ?_
  simp (disch := omega) only [go_sem, ↓reduceIte, Nat.reduceEqDiff, Nat.reduceAdd, Nat.reduceMul, Nat.reduceSub, Nat.reduceLT, Nat.reduceLeDiff, Nat.reduceBEq, Nat.reduceLeDiff, reduceCtorEq, Int.reduceLT, Int.reduceEq, Int.reduceLE, Int.reduceAdd, Int.reduceSub, Int.reduceToNat, Int.reduceNeg, Int.toNat_natCast, beq_self_eq_true, wrap64, undef, Nat.zero_add, Nat.add_zero, Int.zero_add, Int.add_zero, Int.sub_zero, St.loadN_other, St.cell_other]
  refine wC_loop (fun n fr S' => ∃ (i k : Nat) (v : Value) (out : List Int), n = (xs.length - i) + (ys.length - k) ∧ i ≤ xs.length ∧ k ≤ ys.length ∧ fr 0 = .slice ba xs.length ca ∧ fr 1 = .slice bb ys.length cb ∧ fr 5 = v ∧ fr 6 = .int .i64 (i : Nat) ∧ fr 7 = .int .i64 (k : Nat) ∧
    S.Ext S' ∧ OwnT intE S.n S' v out ∧ ActsI xs ys i k out) (xs.length + ys.length)
    ⟨0, 0, .slice none 0 0, [], by simp (disch := omega) only [go_sem, ↓reduceIte, Nat.reduceEqDiff, Nat.reduceAdd, Nat.reduceMul, Nat.reduceSub, Nat.reduceLT, Nat.reduceLeDiff, Nat.reduceBEq, Nat.reduceLeDiff, reduceCtorEq, Int.reduceLT, Int.reduceEq, Int.reduceLE, Int.reduceAdd, Int.reduceSub, Int.reduceToNat, Int.reduceNeg, Int.toNat_natCast, beq_self_eq_true, wrap64, undef, Nat.zero_add, Nat.add_zero, Int.zero_add, Int.add_zero, Int.sub_zero, St.loadN_other, St.cell_other]; exact ⟨by simp, by simp, by simp, St.Ext.refl _, OwnT.nil .., by simp, by simp, by simp, by simp, by simp⟩⟩ ?_
  rintro n fr S5 ⟨i, k, v, out, rfl, hi, hkk, h0, h1, h5, h6, h7, he, ho, hA⟩
  have hol := hA.len
  by_cases hli : i < xs.length
  · obtain ⟨b, off, rfl, hb, -, hxi, -⟩ := (hl.ext dotE he).dotc hli
    have c1 : (0 : Int) ≤ (i : Int) ∧ (i : Int) < (xs.length : Int) := by omega
    have ci : (i : Int) < (xs.length : Int) := by omega
    by_cases hlk : k < ys.length
    · obtain ⟨b2, off2, rfl, hb2, -, hyk, -⟩ := (hk.ext dotE he).dotc hlk
      have c2 : (0 : Int) ≤ (k : Int) ∧ (k : Int) < (ys.length : Int) := by omega
      have ck : (k : Int) < (ys.length : Int) := by omega
      have nk : ¬ ((k : Int) = (ys.length : Int)) := by omega
      have ni : ¬ ((i : Int) = (xs.length : Int)) := by omega
      simp (disch := omega) only [go_sem, ↓reduceIte, Nat.reduceEqDiff, Nat.reduceAdd, Nat.reduceMul, Nat.reduceSub, Nat.reduceLT, Nat.reduceLeDiff, Nat.reduceBEq, Nat.reduceLeDiff, reduceCtorEq, Int.reduceLT, Int.reduceEq, Int.reduceLE, Int.reduceAdd, Int.reduceSub, Int.reduceToNat, Int.reduceNeg, Int.toNat_natCast, beq_self_eq_true, wrap64, undef, Nat.zero_add, Nat.add_zero, Int.zero_add, Int.add_zero, Int.sub_zero, St.loadN_other, St.cell_other, F.osierref04_acts.l0, h0, h1, h5, h6, h7, ci, nk, c1, c2, hxi, hyk]
      refine wcond_dec (fun hq => ?_) (fun hq => ?_)
      · simp (disch := omega) only [go_sem, ↓reduceIte, Nat.reduceEqDiff, Nat.reduceAdd, Nat.reduceMul, Nat.reduceSub, Nat.reduceLT, Nat.reduceLeDiff, Nat.reduceBEq, Nat.reduceLeDiff, reduceCtorEq, Int.reduceLT, Int.reduceEq, Int.reduceLE, Int.reduceAdd, Int.reduceSub, Int.reduceToNat, Int.reduceNeg, Int.toNat_natCast, beq_self_eq_true, wrap64, undef, Nat.zero_add, Nat.add_zero, Int.zero_add, Int.add_zero, Int.sub_zero, St.loadN_other, St.cell_other, h0, h1, h5, h6, h7, c1, hxi]
        refine wfresh_of fun u hu => ?_
        simp (disch := omega) only [go_sem, ↓reduceIte, Nat.reduceEqDiff, Nat.reduceAdd, Nat.reduceMul, Nat.reduceSub, Nat.reduceLT, Nat.reduceLeDiff, Nat.reduceBEq, Nat.reduceLeDiff, reduceCtorEq, Int.reduceLT, Int.reduceEq, Int.reduceLE, Int.reduceAdd, Int.reduceSub, Int.reduceToNat, Int.reduceNeg, Int.toNat_natCast, beq_self_eq_true, wrap64, undef, Nat.zero_add, Nat.add_zero, Int.zero_add, Int.add_zero, Int.sub_zero, St.loadN_other, St.cell_other, h0, h1, h5, h6, h7]
        have he7 := (St.Ext.refl S5).put hu (.cells true 1 [.int .i64 xs[i].1])
        refine wE_app intE (ys := [xs[i].1]) (ho.ext intE he7) (SlT.lit intE (xs := [xs[i].1])) rfl rfl (he.trans he7).n (by first | omega | (simp; done) | (simp; omega)) (by first | omega | (simp; done) | (simp; omega)) fun v8 S8 ho8 hb8 hv8 => ?_
        simp (disch := omega) only [go_sem, ↓reduceIte, Nat.reduceEqDiff, Nat.reduceAdd, Nat.reduceMul, Nat.reduceSub, Nat.reduceLT, Nat.reduceLeDiff, Nat.reduceBEq, Nat.reduceLeDiff, reduceCtorEq, Int.reduceLT, Int.reduceEq, Int.reduceLE, Int.reduceAdd, Int.reduceSub, Int.reduceToNat, Int.reduceNeg, Int.toNat_natCast, beq_self_eq_true, wrap64, undef, Nat.zero_add, Nat.add_zero, Int.zero_add, Int.add_zero, Int.sub_zero, St.loadN_other, St.cell_other, h0, h1, h5, h6, h7]
        exact ⟨(xs.length - (i+1)) + (ys.length - (k)), by omega, i+1, k, _, _, rfl, by omega, by omega, rfl, rfl, rfl, (he.trans he7).but hb8 (ho.fresh intE), ho8, hA.left hx hli (fun _ => hq)⟩
      · simp (disch := omega) only [go_sem, ↓reduceIte, Nat.reduceEqDiff, Nat.reduceAdd, Nat.reduceMul, Nat.reduceSub, Nat.reduceLT, Nat.reduceLeDiff, Nat.reduceBEq, Nat.reduceLeDiff, reduceCtorEq, Int.reduceLT, Int.reduceEq, Int.reduceLE, Int.reduceAdd, Int.reduceSub, Int.reduceToNat, Int.reduceNeg, Int.toNat_natCast, beq_self_eq_true, wrap64, undef, Nat.zero_add, Nat.add_zero, Int.zero_add, Int.add_zero, Int.sub_zero, St.loadN_other, St.cell_other, h0, h1, h5, h6, h7, ni, c1, c2, hxi, hyk]
        refine wcond_dec (fun hq2 => ?_) (fun hq2 => ?_)
        · simp (disch := omega) only [go_sem, ↓reduceIte, Nat.reduceEqDiff, Nat.reduceAdd, Nat.reduceMul, Nat.reduceSub, Nat.reduceLT, Nat.reduceLeDiff, Nat.reduceBEq, Nat.reduceLeDiff, reduceCtorEq, Int.reduceLT, Int.reduceEq, Int.reduceLE, Int.reduceAdd, Int.reduceSub, Int.reduceToNat, Int.reduceNeg, Int.toNat_natCast, beq_self_eq_true, wrap64, undef, Nat.zero_add, Nat.add_zero, Int.zero_add, Int.add_zero, Int.sub_zero, St.loadN_other, St.cell_other, h0, h1, h5, h6, h7, c2, hyk]
          refine wfresh_of fun u hu => ?_
          simp (disch := omega) only [go_sem, ↓reduceIte, Nat.reduceEqDiff, Nat.reduceAdd, Nat.reduceMul, Nat.reduceSub, Nat.reduceLT, Nat.reduceLeDiff, Nat.reduceBEq, Nat.reduceLeDiff, reduceCtorEq, Int.reduceLT, Int.reduceEq, Int.reduceLE, Int.reduceAdd, Int.reduceSub, Int.reduceToNat, Int.reduceNeg, Int.toNat_natCast, beq_self_eq_true, wrap64, undef, Nat.zero_add, Nat.add_zero, Int.zero_add, Int.add_zero, Int.sub_zero, St.loadN_other, St.cell_other, h0, h1, h5, h6, h7]
          have he7 := (St.Ext.refl S5).put hu (.cells true 1 [.int .i64 ys[k].1])
          refine wE_app intE (ys := [ys[k].1]) (ho.ext intE he7) (SlT.lit intE (xs := [ys[k].1])) rfl rfl (he.trans he7).n (by first | omega | (simp; done) | (simp; omega)) (by first | omega | (simp; done) | (simp; omega)) fun v8 S8 ho8 hb8 hv8 => ?_
          simp (disch := omega) only [go_sem, ↓reduceIte, Nat.reduceEqDiff, Nat.reduceAdd, Nat.reduceMul, Nat.reduceSub, Nat.reduceLT, Nat.reduceLeDiff, Nat.reduceBEq, Nat.reduceLeDiff, reduceCtorEq, Int.reduceLT, Int.reduceEq, Int.reduceLE, Int.reduceAdd, Int.reduceSub, Int.reduceToNat, Int.reduceNeg, Int.toNat_natCast, beq_self_eq_true, wrap64, undef, Nat.zero_add, Nat.add_zero, Int.zero_add, Int.add_zero, Int.sub_zero, St.loadN_other, St.cell_other, h0, h1, h5, h6, h7]
          exact ⟨(xs.length - (i)) + (ys.length - (k+1)), by omega, i, k+1, _, _, rfl, by omega, by omega, rfl, rfl, rfl, (he.trans he7).but hb8 (ho.fresh intE), ho8, hA.right hy hlk (fun _ => hq2)⟩
        · simp (disch := omega) only [go_sem, ↓reduceIte, Nat.reduceEqDiff, Nat.reduceAdd, Nat.reduceMul, Nat.reduceSub, Nat.reduceLT, Nat.reduceLeDiff, Nat.reduceBEq, Nat.reduceLeDiff, reduceCtorEq, Int.reduceLT, Int.reduceEq, Int.reduceLE, Int.reduceAdd, Int.reduceSub, Int.reduceToNat, Int.reduceNeg, Int.toNat_natCast, beq_self_eq_true, wrap64, undef, Nat.zero_add, Nat.add_zero, Int.zero_add, Int.add_zero, Int.sub_zero, St.loadN_other, St.cell_other, h0, h1, h5, h6, h7, c1, hxi]
          refine wfresh_of fun u hu => ?_
          simp (disch := omega) only [go_sem, ↓reduceIte, Nat.reduceEqDiff, Nat.reduceAdd, Nat.reduceMul, Nat.reduceSub, Nat.reduceLT, Nat.reduceLeDiff, Nat.reduceBEq, Nat.reduceLeDiff, reduceCtorEq, Int.reduceLT, Int.reduceEq, Int.reduceLE, Int.reduceAdd, Int.reduceSub, Int.reduceToNat, Int.reduceNeg, Int.toNat_natCast, beq_self_eq_true, wrap64, undef, Nat.zero_add, Nat.add_zero, Int.zero_add, Int.add_zero, Int.sub_zero, St.loadN_other, St.cell_other, h0, h1, h5, h6, h7]
          have he7 := (St.Ext.refl S5).put hu (.cells true 1 [.int .i64 xs[i].1])
          refine wE_app intE (ys := [xs[i].1]) (ho.ext intE he7) (SlT.lit intE (xs := [xs[i].1])) rfl rfl (he.trans he7).n (by first | omega | (simp; done) | (simp; omega)) (by first | omega | (simp; done) | (simp; omega)) fun v8 S8 ho8 hb8 hv8 => ?_
          simp (disch := omega) only [go_sem, ↓reduceIte, Nat.reduceEqDiff, Nat.reduceAdd, Nat.reduceMul, Nat.reduceSub, Nat.reduceLT, Nat.reduceLeDiff, Nat.reduceBEq, Nat.reduceLeDiff, reduceCtorEq, Int.reduceLT, Int.reduceEq, Int.reduceLE, Int.reduceAdd, Int.reduceSub, Int.reduceToNat, Int.reduceNeg, Int.toNat_natCast, beq_self_eq_true, wrap64, undef, Nat.zero_add, Nat.add_zero, Int.zero_add, Int.add_zero, Int.sub_zero, St.loadN_other, St.cell_other, h0, h1, h5, h6, h7]
          exact ⟨(xs.length - (i+1)) + (ys.length - (k+1)), by omega, i+1, k+1, _, _, rfl, by omega, by omega, rfl, rfl, rfl, (he.trans he7).but hb8 (ho.fresh intE), ho8, hA.both hx hy hli hlk (by omega)⟩
    · have nk : (k : Int) = (ys.length : Int) := by omega
      simp (disch := omega) only [go_sem, ↓reduceIte, Nat.reduceEqDiff, Nat.reduceAdd, Nat.reduceMul, Nat.reduceSub, Nat.reduceLT, Nat.reduceLeDiff, Nat.reduceBEq, Nat.reduceLeDiff, reduceCtorEq, Int.reduceLT, Int.reduceEq, Int.reduceLE, Int.reduceAdd, Int.reduceSub, Int.reduceToNat, Int.reduceNeg, Int.toNat_natCast, beq_self_eq_true, wrap64, undef, Nat.zero_add, Nat.add_zero, Int.zero_add, Int.add_zero, Int.sub_zero, St.loadN_other, St.cell_other, F.osierref04_acts.l0, h0, h1, h5, h6, h7, ci, nk, c1, hxi]
      refine wfresh_of fun u hu => ?_
      simp (disch := omega) only [go_sem, ↓reduceIte, Nat.reduceEqDiff, Nat.reduceAdd, Nat.reduceMul, Nat.reduceSub, Nat.reduceLT, Nat.reduceLeDiff, Nat.reduceBEq, Nat.reduceLeDiff, reduceCtorEq, Int.reduceLT, Int.reduceEq, Int.reduceLE, Int.reduceAdd, Int.reduceSub, Int.reduceToNat, Int.reduceNeg, Int.toNat_natCast, beq_self_eq_true, wrap64, undef, Nat.zero_add, Nat.add_zero, Int.zero_add, Int.add_zero, Int.sub_zero, St.loadN_other, St.cell_other, h0, h1, h5, h6, h7]
      have he7 := (St.Ext.refl S5).put hu (.cells true 1 [.int .i64 xs[i].1])
      refine wE_app intE (ys := [xs[i].1]) (ho.ext intE he7) (SlT.lit intE (xs := [xs[i].1])) rfl rfl (he.trans he7).n (by first | omega | (simp; done) | (simp; omega)) (by first | omega | (simp; done) | (simp; omega)) fun v8 S8 ho8 hb8 hv8 => ?_
      simp (disch := omega) only [go_sem, ↓reduceIte, Nat.reduceEqDiff, Nat.reduceAdd, Nat.reduceMul, Nat.reduceSub, Nat.reduceLT, Nat.reduceLeDiff, Nat.reduceBEq, Nat.reduceLeDiff, reduceCtorEq, Int.reduceLT, Int.reduceEq, Int.reduceLE, Int.reduceAdd, Int.reduceSub, Int.reduceToNat, Int.reduceNeg, Int.toNat_natCast, beq_self_eq_true, wrap64, undef, Nat.zero_add, Nat.add_zero, Int.zero_add, Int.add_zero, Int.sub_zero, St.loadN_other, St.cell_other, h0, h1, h5, h6, h7]
      exact ⟨(xs.length - (i+1)) + (ys.length - (k)), by omega, i+1, k, _, _, rfl, by omega, by omega, rfl, rfl, rfl, (he.trans he7).but hb8 (ho.fresh intE), ho8, hA.left hx hli (fun h => absurd h hlk)⟩
  · have ni : (i : Int) = (xs.length : Int) := by omega
    by_cases hlk : k < ys.length
    · obtain ⟨b2, off2, rfl, hb2, -, hyk, -⟩ := (hk.ext dotE he).dotc hlk
      have c2 : (0 : Int) ≤ (k : Int) ∧ (k : Int) < (ys.length : Int) := by omega
      have ck : (k : Int) < (ys.length : Int) := by omega
      have nk : ¬ ((k : Int) = (ys.length : Int)) := by omega
      have ci : ¬ ((i : Int) < (xs.length : Int)) := by omega
      simp (disch := omega) only [go_sem, ↓reduceIte, Nat.reduceEqDiff, Nat.reduceAdd, Nat.reduceMul, Nat.reduceSub, Nat.reduceLT, Nat.reduceLeDiff, Nat.reduceBEq, Nat.reduceLeDiff, reduceCtorEq, Int.reduceLT, Int.reduceEq, Int.reduceLE, Int.reduceAdd, Int.reduceSub, Int.reduceToNat, Int.reduceNeg, Int.toNat_natCast, beq_self_eq_true, wrap64, undef, Nat.zero_add, Nat.add_zero, Int.zero_add, Int.add_zero, Int.sub_zero, St.loadN_other, St.cell_other, F.osierref04_acts.l0, h0, h1, h5, h6, h7, ci, ck, nk, ni, c2, hyk, Int.lt_irrefl]
      refine wfresh_of fun u hu => ?_
      simp (disch := omega) only [go_sem, ↓reduceIte, Nat.reduceEqDiff, Nat.reduceAdd, Nat.reduceMul, Nat.reduceSub, Nat.reduceLT, Nat.reduceLeDiff, Nat.reduceBEq, Nat.reduceLeDiff, reduceCtorEq, Int.reduceLT, Int.reduceEq, Int.reduceLE, Int.reduceAdd, Int.reduceSub, Int.reduceToNat, Int.reduceNeg, Int.toNat_natCast, beq_self_eq_true, wrap64, undef, Nat.zero_add, Nat.add_zero, Int.zero_add, Int.add_zero, Int.sub_zero, St.loadN_other, St.cell_other, h0, h1, h5, h6, h7]
      have he7 := (St.Ext.refl S5).put hu (.cells true 1 [.int .i64 ys[k].1])
      refine wE_app intE (ys := [ys[k].1]) (ho.ext intE he7) (SlT.lit intE (xs := [ys[k].1])) rfl rfl (he.trans he7).n (by first | omega | (simp; done) | (simp; omega)) (by first | omega | (simp; done) | (simp; omega)) fun v8 S8 ho8 hb8 hv8 => ?_
      simp (disch := omega) only [go_sem, ↓reduceIte, Nat.reduceEqDiff, Nat.reduceAdd, Nat.reduceMul, Nat.reduceSub, Nat.reduceLT, Nat.reduceLeDiff, Nat.reduceBEq, Nat.reduceLeDiff, reduceCtorEq, Int.reduceLT, Int.reduceEq, Int.reduceLE, Int.reduceAdd, Int.reduceSub, Int.reduceToNat, Int.reduceNeg, Int.toNat_natCast, beq_self_eq_true, wrap64, undef, Nat.zero_add, Nat.add_zero, Int.zero_add, Int.add_zero, Int.sub_zero, St.loadN_other, St.cell_other, h0, h1, h5, h6, h7]
      exact ⟨(xs.length - (i)) + (ys.length - (k+1)), by omega, i, k+1, _, _, rfl, by omega, by omega, rfl, rfl, rfl, (he.trans he7).but hb8 (ho.fresh intE), ho8, hA.right hy hlk (fun h => absurd h hli)⟩
    · have ci : ¬ ((i : Int) < (xs.length : Int)) := by omega
      have ck : ¬ ((k : Int) < (ys.length : Int)) := by omega
      simp (disch := omega) only [go_sem, ↓reduceIte, Nat.reduceEqDiff, Nat.reduceAdd, Nat.reduceMul, Nat.reduceSub, Nat.reduceLT, Nat.reduceLeDiff, Nat.reduceBEq, Nat.reduceLeDiff, reduceCtorEq, Int.reduceLT, Int.reduceEq, Int.reduceLE, Int.reduceAdd, Int.reduceSub, Int.reduceToNat, Int.reduceNeg, Int.toNat_natCast, beq_self_eq_true, wrap64, undef, Nat.zero_add, Nat.add_zero, Int.zero_add, Int.add_zero, Int.sub_zero, St.loadN_other, St.cell_other, F.osierref04_acts.l0, h0, h1, h5, h6, h7, ci, ck]
      have hi1 : i = xs.length := by omega
      have hk1 : k = ys.length := by omega
      subst hi1 hk1
      exact ⟨⟨out, ho, hA⟩, he⟩
end Go.Osj
