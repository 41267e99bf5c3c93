/- Contracts carried over from the layers below. -/
import Derived.Test.YtfadbihdmohdiaaGreatDoorC1
import Derived.Test.YtfadbihdmohdiaaGreatDoorC2
import Derived.Test.YtfadbihdmohdiaaGreatDoorC3
import Derived.Test.YtfadbihdmohdiaaGreatDoorOsjR
import Derived.Test.YtfadbihdmohdiaaGreatDoorOsjQ
import Derived.Shelf.SlSortCmp.WholeK
import Derived.Shelf.Lay
import Derived.Ground.SlsfProg
set_option linter.unusedVariables false
/- slices.SortFunc at dots: the shelf's contract, laid at this translation. -/
namespace Go.Proofs
open Go.Shelf Go.RowKit Go.Lib Go.Sort
shelf_lay_g SlLaysF0.n6 Slsf 6 at Tryz 74 as Tryz.sortDot
end Go.Proofs
namespace Go.Osj
open Go.RowKit

abbrev Dot : Type := Int × Int
abbrev dotV (d : Dot) : Value := .agg #[.int .i64 d.1, .int .i64 d.2]
def dotE : Enc Dot := ⟨fun d => [.int .i64 d.1, .int .i64 d.2], 2, fun _ => rfl, fun _ => rfl, by decide⟩
def lessP (a b : Dot) : Prop := a.1 < b.1 ∨ (a.1 = b.1 ∧ a.2 < b.2)
instance (a b : Dot) : Decidable (lessP a b) := inferInstanceAs (Decidable (_ ∨ _))
def compareD (a b : Dot) : Int := if a.1 < b.1 then -1 else if b.1 < a.1 then 1 else if a.2 < b.2 then -1 else if b.2 < a.2 then 1 else 0
theorem compareD_neg (a b : Dot) : compareD a b < 0 ↔ lessP a b := by
  unfold compareD lessP
  repeat' split
  all_goals omega
theorem compareD_ltOf (a b : Dot) : Go.Proofs.ltOf compareD a b = decide (lessP a b) := by
  unfold Go.Proofs.ltOf
  rw [decide_eq_decide]
  exact compareD_neg a b
theorem compareD_swo : Go.Sort.SWO (Go.Proofs.ltOf compareD) where
  irrefl x := by rw [compareD_ltOf]; simp [lessP]
  trans x y z h1 h2 := by
    rw [compareD_ltOf, decide_eq_true_eq] at *
    unfold lessP at *
    omega
  ntrans x y z h1 h2 := by
    rw [compareD_ltOf, decide_eq_false_iff_not] at *
    unfold lessP at *
    omega

theorem eqV_dot (a b : Dot) : eqV [.i .i64, .i .i64] true (dotV a) (dotV b) = some (decide (a = b)) := by
  simp [eqV, eqC, Prod.ext_iff]
/-- the sort's order of dots, told by parts -/
abbrev dotKE : KeyE Dot := ⟨dotV, [.i .i64, .i .i64], true, eqV_dot⟩
theorem dot_ne {a b : Dot} : a ≠ b ↔ a.1 ≠ b.1 ∨ a.2 ≠ b.2 := by
  rw [Ne, Prod.ext_iff]
  omega

/-- The sort, at dots. -/
theorem sortDot_J (hc : ∀ S x y, J PR F.dots_compare [dotV x, dotV y] S fun v S' => v = .int .i64 (compareD x y) ∧ S.Ext S') {S : St} {b cap c : Nat} {xs : List Dot} (ho : S.obj b = some (.cells true cap (dotE.flat xs))) (hb : xs.length < 4611686018427387904) :
    J PR F.slices_SortFunc_s_api_Dot_api_Dot [.slice (some ⟨b, 0, none⟩) xs.length c, .func (.func F.dots_compare) #[] #[]] S
      fun v S' => v = .tuple #[] ∧ ∃ ys : List Dot, ys.Perm xs ∧ ys.Pairwise (fun x y => ¬ lessP y x) ∧ S' = S.put b (.cells true cap (dotE.flat ys)) := by
  intro c0 w hr
  obtain ⟨hH, hblk⟩ := holdsK_of dotE hr (d := xs.toArray) (by simpa using ho)
  have eg : ∀ args w, (callFunc F.dots_compare args).run PR w = .ok (.enter F.dots_compare args) w := by
    intro args w
    have h : PR.funcs[F.dots_compare]? = some Go.Proofs.Tryz.f75 := by kernel_rfl
    have hn : ¬ (Go.Proofs.Tryz.f75.name = "runtime.NumGoroutine") := by decide
    have hbd : Go.Proofs.Tryz.f75.body ≠ none := by simp [Go.Proofs.Tryz.f75]
    simp [callFunc, h, hn, hbd]
  have hag : isAggT PR (Go.Proofs.Tryz.sortDot_ren.t 24) = some true := by kernel_rfl
  have hsz : ∀ w, (Go.sizeOf (Go.Proofs.Tryz.sortDot_ren.t 24)).run PR w = .ok 2 w := by
    intro w
    have h : (PR.info? (Go.Proofs.Tryz.sortDot_ren.t 24)).map (·.size) = some 2 := by kernel_rfl
    obtain ⟨i, hi, hs⟩ := Option.map_eq_some_iff.1 h
    rw [run_sizeOf hi, hs]
  have hcon := Go.Proofs.AnyQ.slices_SortFunc Go.Proofs.Tryz.sortDot 2 (fun w => run_isAgg hag w) hsz
    dotE.enc dotE.len (fun x v hv => oneC_mem (dotE.one x) v hv) compareD compareD_swo F.dots_compare #[] b 0 c xs.toArray w eg (cmpLays_of dotE hc b 0 _ w) hH hblk (by simpa using hb)
  refine Calls.mono hcon ?_
  rintro e w' ⟨rfl, d', n, os, hp, hs, rfl⟩
  refine ⟨_, _, rfl, rel_sorted dotE hr ho (by simpa using hp.1) n os, rfl, d'.toList, ?_, ?_, rfl⟩
  · have h := hp.2.2
    have h1 : d'.size = xs.toArray.size := hp.1
    rw [← h1, Array.extract_size, h1, Array.extract_size] at h
    simpa using h
  · rw [List.pairwise_iff_getElem]
    intro i j hi hj hij
    have h1 : d'.size = xs.toArray.size := hp.1
    simp only [Array.length_toList] at hi hj
    have := hs i j (Nat.zero_le _) hij (by omega)
    rw [compareD_ltOf, decide_eq_false_iff_not, getElem!_pos d' j hj, getElem!_pos d' i hi] at this
    simpa using this
end Go.Osj

/- Plain facts about rows of dots. -/
namespace Go.Osj

theorem lessP_irrefl (a : Dot) : ¬ lessP a a := by unfold lessP; omega
theorem lessP_trans {a b c : Dot} (h1 : lessP a b) (h2 : lessP b c) : lessP a c := by unfold lessP at *; omega
theorem lessP_total {a b : Dot} (h1 : ¬ lessP a b) (h2 : ¬ lessP b a) : a = b := by
  unfold lessP at *
  apply Prod.ext <;> omega
theorem lessP_asymm {a b : Dot} (h1 : lessP a b) : ¬ lessP b a := by unfold lessP at *; omega

/-- in order, and just these -/
def Ris (xs ys : List Dot) : Prop := ys.Pairwise lessP ∧ ∀ d, d ∈ ys ↔ d ∈ xs

theorem sorted_unique : ∀ {ys zs : List Dot}, ys.Pairwise lessP → zs.Pairwise lessP → (∀ d, d ∈ ys ↔ d ∈ zs) → ys = zs
  | [], [], _, _, _ => rfl
  | [], z :: zs, _, _, h => by have := (h z).2 (by simp); simp at this
  | y :: ys, [], _, _, h => by have := (h y).1 (by simp); simp at this
  | y :: ys, z :: zs, hy, hz, h => by
    rw [List.pairwise_cons] at hy hz
    have hyz : y = z := by
      rcases List.mem_cons.1 ((h y).1 (by simp)) with h1 | h1
      · exact h1
      · rcases List.mem_cons.1 ((h z).2 (by simp)) with h2 | h2
        · exact h2.symm
        · exact absurd (hz.1 y h1) (lessP_asymm (hy.1 z h2))
    subst hyz
    congr 1
    refine sorted_unique hy.2 hz.2 fun d => ?_
    constructor
    · intro hd
      rcases List.mem_cons.1 ((h d).1 (by simp [hd])) with h1 | h1
      · subst h1; exact absurd (hy.1 d hd) (lessP_irrefl d)
      · exact h1
    · intro hd
      rcases List.mem_cons.1 ((h d).2 (by simp [hd])) with h1 | h1
      · subst h1; exact absurd (hz.1 d hd) (lessP_irrefl d)
      · exact h1

/-- put in where it belongs -/
def put1 (d : Dot) : List Dot → List Dot
  | [] => [d]
  | x :: r => if lessP x d then x :: put1 d r else if x = d then x :: r else d :: x :: r
theorem mem_put1 (d e : Dot) : ∀ l : List Dot, e ∈ put1 d l ↔ e = d ∨ e ∈ l
  | [] => by simp [put1]
  | x :: r => by
    unfold put1
    split
    · rw [List.mem_cons, mem_put1 d e r, List.mem_cons]
      constructor
      · rintro (h | h | h)
        · exact .inr (.inl h)
        · exact .inl h
        · exact .inr (.inr h)
      · rintro (h | h | h)
        · exact .inr (.inl h)
        · exact .inl h
        · exact .inr (.inr h)
    · split
      · rename_i h; subst h; simp
      · simp
theorem put1_sorted (d : Dot) : ∀ {l : List Dot}, l.Pairwise lessP → (put1 d l).Pairwise lessP
  | [], _ => by simp [put1]
  | x :: r, h => by
    rw [List.pairwise_cons] at h
    unfold put1
    split
    · rename_i hx
      rw [List.pairwise_cons]
      refine ⟨fun e he => ?_, put1_sorted d h.2⟩
      rcases (mem_put1 d e r).1 he with h1 | h1
      · subst h1; exact hx
      · exact h.1 e h1
    · rename_i hx
      split
      · rw [List.pairwise_cons]; exact h
      · rename_i hne
        have hdx : lessP d x := by
          by_cases hq : lessP d x
          · exact hq
          · exact absurd (lessP_total hx hq) hne
        rw [List.pairwise_cons, List.pairwise_cons]
        refine ⟨fun e he => ?_, h⟩
        rcases List.mem_cons.1 he with h1 | h1
        · subst h1; exact hdx
        · exact lessP_trans hdx (h.1 e h1)
def risen (xs : List Dot) : List Dot := xs.foldl (fun out d => put1 d out) []
theorem risen_ris (xs : List Dot) : Ris xs (risen xs) := by
  have key : ∀ (xs out : List Dot), out.Pairwise lessP → (xs.foldl (fun out d => put1 d out) out).Pairwise lessP ∧ ∀ d, d ∈ xs.foldl (fun out d => put1 d out) out ↔ d ∈ xs ∨ d ∈ out := by
    intro xs
    induction xs with
    | nil => intro out h; exact ⟨h, by simp⟩
    | cons x xs ih =>
      intro out h
      obtain ⟨h1, h2⟩ := ih (put1 x out) (put1_sorted x h)
      refine ⟨h1, fun d => ?_⟩
      rw [List.foldl_cons, h2, mem_put1, List.mem_cons]
      constructor
      · rintro (h | h | h)
        · exact .inl (.inr h)
        · exact .inl (.inl h)
        · exact .inr h
      · rintro ((h | h) | h)
        · exact .inr (.inl h)
        · exact .inl h
        · exact .inr (.inr h)
  obtain ⟨h1, h2⟩ := key xs [] (by simp)
  exact ⟨h1, fun d => by rw [risen, h2]; simp⟩
theorem Ris.eq {xs ys : List Dot} (h : Ris xs ys) : ys = risen xs :=
  sorted_unique h.1 (risen_ris xs).1 fun d => (h.2 d).trans ((risen_ris xs).2 d).symm
theorem risen_congr {xs ys : List Dot} (h : ∀ d, d ∈ xs ↔ d ∈ ys) : risen xs = risen ys :=
  Ris.eq (xs := ys) ⟨(risen_ris xs).1, fun d => ((risen_ris xs).2 d).trans (h d)⟩

def setOf (xs : List Dot) : List (Dot × Bool) := xs.foldl (fun m d => aset d true m) []
theorem setOf_keys (xs : List Dot) : ((setOf xs).map Prod.fst).Nodup ∧ ∀ d, d ∈ (setOf xs).map Prod.fst ↔ d ∈ xs := by
  have key : ∀ (xs : List Dot) (m : List (Dot × Bool)), (m.map Prod.fst).Nodup → ((xs.foldl (fun m d => aset d true m) m).map Prod.fst).Nodup ∧
      ∀ d, d ∈ (xs.foldl (fun m d => aset d true m) m).map Prod.fst ↔ d ∈ xs ∨ d ∈ m.map Prod.fst := by
    intro xs
    induction xs with
    | nil => intro m h; exact ⟨h, by simp⟩
    | cons x xs ih =>
      intro m h
      obtain ⟨g1, g2⟩ := aset_keys (k := x) (v := true) h
      obtain ⟨h1, h2⟩ := ih (aset x true m) g1
      refine ⟨h1, fun d => ?_⟩
      rw [List.foldl_cons, h2, g2, List.mem_cons]
      constructor
      · rintro (h | h | h)
        · exact .inl (.inr h)
        · exact .inl (.inl h)
        · exact .inr h
      · rintro ((h | h) | h)
        · exact .inr (.inl h)
        · exact .inl h
        · exact .inr (.inr h)
  obtain ⟨h1, h2⟩ := key xs [] (by simp)
  exact ⟨h1, fun d => by rw [setOf, h2]; simp⟩

theorem sort_strict {ys keys : List Dot} (hp : ys.Perm keys) (hn : keys.Nodup) (hs : ys.Pairwise fun x y => ¬ lessP y x) : ys.Pairwise lessP := by
  have hy : ys.Nodup := hp.nodup_iff.2 hn
  refine (List.Pairwise.and hs hy).imp fun {x y} h => ?_
  by_cases hq : lessP x y
  · exact hq
  · exact absurd (lessP_total hq h.1) h.2
theorem row_risen {xs ys : List Dot} (hp : ys.Perm ((setOf xs).map Prod.fst)) (hs : ys.Pairwise fun x y => ¬ lessP y x) : ys = risen xs :=
  Ris.eq ⟨sort_strict hp (setOf_keys xs).1 hs, fun d => hp.mem_iff.trans ((setOf_keys xs).2 d)⟩
theorem setOf_len (xs : List Dot) : (setOf xs).length ≤ xs.length := by
  have h := (setOf_keys xs).1.length_le_of_subset fun d hd => ((setOf_keys xs).2 d).1 hd
  simpa using h
theorem risen_len (xs : List Dot) : (risen xs).length ≤ xs.length := by
  have hn : (risen xs).Nodup := (risen_ris xs).1.imp fun {a b} h e => by subst e; exact lessP_irrefl a h
  exact hn.length_le_of_subset fun d hd => ((risen_ris xs).2 d).1 hd
end Go.Osj

/- Contracts of the functions of layer 3: dots. -/
set_option linter.unusedSimpArgs false
namespace Go.Osj
theorem F.cmp_isNaN_int.J {S : St} {a : Int} : J PR F.cmp_isNaN_int [.int .i64 a] S fun v S' => v = .bool false ∧ S' = S := by
  refine J_by PR.mixed F.cmp_isNaN_int.ok (by simp) ?_
  simp (disch := omega) only [go_sem, simprocAttr]
theorem F.cmp_Compare_int.J {S : St} {a b : Int} : J PR F.cmp_Compare_int [.int .i64 a, .int .i64 b] S fun v S' => v = .int .i64 (if a < b then -1 else if b < a then 1 else 0) ∧ S' = S := by
  refine J_by PR.mixed F.cmp_Compare_int.ok (by simp) ?_
  simp (disch := omega) only [go_sem, simprocAttr]
  refine wJ_of F.cmp_isNaN_int.J ?_; rintro _ _ ⟨rfl, rfl⟩
  simp (disch := omega) only [go_sem, simprocAttr]
  refine wJ_of F.cmp_isNaN_int.J ?_; rintro _ _ ⟨rfl, rfl⟩
  simp (disch := omega) only [go_sem, simprocAttr]
  refine wcond_dec (fun h => ?_) (fun h => ?_)
  · simp (disch := omega) only [go_sem, simprocAttr, h]
  · simp (disch := omega) only [go_sem, simprocAttr]
    refine wcond_dec (fun h => ?_) (fun h => ?_)
    · simp (disch := omega) only [go_sem, simprocAttr]
      simp [*]
    · simp (disch := omega) only [go_sem, simprocAttr]
      simp [*]
theorem F.cmp_Or_int.J {S : St} {b : Nat} {x y : Int} (hb : S.obj b = some (.cells true 2 [.int .i64 x, .int .i64 y])) : J PR F.cmp_Or_int [.slice (some ⟨b, 0, none⟩) 2 2] S fun v S' => v = .int .i64 (if x ≠ 0 then x else y) ∧ S' = S := by
  refine J_by PR.mixed F.cmp_Or_int.ok (by simp) ?_
  simp (disch := omega) only [go_sem, simprocAttr]
  refine wC_unroll ?_
  simp (disch := omega) only [go_sem, simprocAttr, F.cmp_Or_int.l0, St.cell_def, hb]
  refine wcond_ndec (fun h => ?_) (fun h => ?_)
  · simp (disch := omega) only [go_sem, simprocAttr]
    simp [h]
  · simp (disch := omega) only [go_sem, simprocAttr]
    refine wC_unroll ?_
    simp (disch := omega) only [go_sem, simprocAttr, F.cmp_Or_int.l0, St.cell_def, hb]
    refine wcond_ndec (fun h2 => ?_) (fun h2 => ?_)
    · simp (disch := omega) only [go_sem, simprocAttr]
      simp [h]
    · simp (disch := omega) only [go_sem, simprocAttr]
      refine wC_unroll ?_
      simp (disch := omega) only [go_sem, simprocAttr, F.cmp_Or_int.l0, St.cell_def, hb]
      simp [h, h2]
theorem F.dots_compare.J {S : St} {a b : Int × Int} : J PR F.dots_compare [dotV a, dotV b] S fun v S' => v = .int .i64 (compareD a b) ∧ S.Ext S' := by
  refine J_by PR.mixed F.dots_compare.ok (by simp) ?_
  simp (disch := omega) only [go_sem, simprocAttr]
  refine wfresh_of fun x hx => ?_
  simp (disch := omega) only [go_sem, simprocAttr]
  refine wfresh_of fun y hy => ?_
  simp (disch := omega) only [go_sem, simprocAttr]
  refine wJ_of F.cmp_Compare_int.J ?_; rintro _ _ ⟨rfl, rfl⟩
  simp (disch := omega) only [go_sem, simprocAttr]
  refine wJ_of F.cmp_Compare_int.J ?_; rintro _ _ ⟨rfl, rfl⟩
  simp (disch := omega) only [go_sem, simprocAttr]
  refine wfresh_of fun z hz => ?_
  simp (disch := omega) only [go_sem, simprocAttr]
  refine wJ_of (F.cmp_Or_int.J (St.put_same ..)) ?_; rintro _ _ ⟨rfl, rfl⟩
  simp (disch := omega) only [go_sem, simprocAttr]
  refine ⟨?_, (((St.Ext.refl S).put hx _).put (by rw [St.put_n]; exact hy) _).put (by rw [St.put_n, St.put_n]; exact hz) _⟩
  unfold compareD
  repeat' split
  all_goals first | rfl | omega | contradiction

def mayP (a : Dot) : Prop := 0 ≤ a.1 ∧ a.1 < 16777216 ∧ 1 ≤ a.2 ∧ a.2 ≤ 1073741824
instance (a : Dot) : Decidable (mayP a) := inferInstanceAs (Decidable (_ ∧ _))
theorem F.dots_May.J {S : St} {a : Dot} : J PR F.dots_May [dotV a] S fun v S' => v = .bool (decide (mayP a)) ∧ S.Ext S' := by
  refine J_by PR.mixed F.dots_May.ok (by simp) ?_
  simp (disch := omega) only [go_sem, simprocAttr]
  refine wfresh_of fun x hx => ?_
  simp (disch := omega) only [go_sem, simprocAttr]
  have he := (St.Ext.refl S).put hx (.cells true 2 [.int .i64 a.1, .int .i64 a.2])
  unfold mayP
  refine wguard_dec (fun h1 => ?_) (fun h1 => ?_)
  · simp (disch := omega) only [go_sem, simprocAttr, h1]
    refine wguard_dec (fun h2 => ?_) (fun h2 => ?_)
    · simp (disch := omega) only [go_sem, simprocAttr, h2]
      refine wguard_dec (fun h3 => ?_) (fun h3 => ?_)
      · simp (disch := omega) only [go_sem, simprocAttr, h3]
        exact ⟨by first | exact vb_dec (by omega) | exact vb_true (by omega) | exact vb_false (by omega) | exact vb_not (by omega) | (simp; done) | (simp; omega), he⟩
      · simp (disch := omega) only [go_sem, simprocAttr, h3]
        exact ⟨by first | exact vb_dec (by omega) | exact vb_true (by omega) | exact vb_false (by omega) | exact vb_not (by omega) | (simp; done) | (simp; omega), he⟩
    · simp (disch := omega) only [go_sem, simprocAttr, h2]
      exact ⟨by first | exact vb_dec (by omega) | exact vb_true (by omega) | exact vb_false (by omega) | exact vb_not (by omega) | (simp; done) | (simp; omega), he⟩
  · simp (disch := omega) only [go_sem, simprocAttr, h1]
    exact ⟨by first | exact vb_dec (by omega) | exact vb_true (by omega) | exact vb_false (by omega) | exact vb_not (by omega) | (simp; done) | (simp; omega), he⟩
theorem F.osierref03_May.J {S : St} {a : Dot} : J PR F.osierref03_May [dotV a] S fun v S' => v = .bool (decide (mayP a)) ∧ S.Ext S' := by
  refine J_by PR.mixed F.osierref03_May.ok (by simp) ?_
  simp (disch := omega) only [go_sem, simprocAttr]
  refine wfresh_of fun x hx => ?_
  simp (disch := omega) only [go_sem, simprocAttr]
  have he := (St.Ext.refl S).put hx (.cells true 2 [.int .i64 a.1, .int .i64 a.2])
  unfold mayP
  refine wguard_dec (fun h1 => ?_) (fun h1 => ?_)
  · simp (disch := omega) only [go_sem, simprocAttr, h1]
    refine wguard_dec (fun h2 => ?_) (fun h2 => ?_)
    · simp (disch := omega) only [go_sem, simprocAttr, h2]
      refine wguard_dec (fun h3 => ?_) (fun h3 => ?_)
      · simp (disch := omega) only [go_sem, simprocAttr, h3]
        exact ⟨by first | exact vb_dec (by omega) | exact vb_true (by omega) | exact vb_false (by omega) | exact vb_not (by omega) | (simp; done) | (simp; omega), he⟩
      · simp (disch := omega) only [go_sem, simprocAttr, h3]
        exact ⟨by first | exact vb_dec (by omega) | exact vb_true (by omega) | exact vb_false (by omega) | exact vb_not (by omega) | (simp; done) | (simp; omega), he⟩
    · simp (disch := omega) only [go_sem, simprocAttr, h2]
      exact ⟨by first | exact vb_dec (by omega) | exact vb_true (by omega) | exact vb_false (by omega) | exact vb_not (by omega) | (simp; done) | (simp; omega), he⟩
  · simp (disch := omega) only [go_sem, simprocAttr, h1]
    exact ⟨by first | exact vb_dec (by omega) | exact vb_true (by omega) | exact vb_false (by omega) | exact vb_not (by omega) | (simp; done) | (simp; omega), he⟩
theorem F.dots_Less.J {S : St} {a b : Dot} : J PR F.dots_Less [dotV a, dotV b] S fun v S' => v = .bool (decide (lessP a b)) ∧ S.Ext S' := by
  refine J_by PR.mixed F.dots_Less.ok (by simp) ?_
  simp (disch := omega) only [go_sem, simprocAttr]
  refine wfresh_of fun x hx => ?_
  simp (disch := omega) only [go_sem, simprocAttr]
  refine wfresh_of fun y hy => ?_
  simp (disch := omega) only [go_sem, simprocAttr, eqV_dot]
  have he := ((St.Ext.refl S).put hx (.cells true 2 [.int .i64 a.1, .int .i64 a.2])).put (by rw [St.put_n]; exact hy) (.cells true 2 [.int .i64 b.1, .int .i64 b.2])
  refine wguard_ndec (fun h1 => ?_) (fun h1 => ?_)
  · simp (disch := omega) only [go_sem, simprocAttr, h1]
    refine wJ_of F.dots_compare.J ?_; rintro _ S' ⟨rfl, he'⟩
    simp (disch := omega) only [go_sem, simprocAttr, h1]
    exact ⟨vb_dec (compareD_neg a b), he.trans he'⟩
  · subst h1
    simp (disch := omega) only [go_sem, simprocAttr]
    exact ⟨vb_false (by unfold lessP; omega), he⟩
theorem F.osierref03_Less.J {S : St} {a b : Dot} : J PR F.osierref03_Less [dotV a, dotV b] S fun v S' => v = .bool (decide (lessP a b)) ∧ S.Ext S' := by
  refine J_by PR.mixed F.osierref03_Less.ok (by simp) ?_
  simp (disch := omega) only [go_sem, simprocAttr]
  refine wfresh_of fun x hx => ?_
  simp (disch := omega) only [go_sem, simprocAttr]
  refine wfresh_of fun y hy => ?_
  simp (disch := omega) only [go_sem, simprocAttr]
  have he := ((St.Ext.refl S).put hx (.cells true 2 [.int .i64 a.1, .int .i64 a.2])).put (by rw [St.put_n]; exact hy) (.cells true 2 [.int .i64 b.1, .int .i64 b.2])
  unfold lessP
  refine wcond_ndec (fun h1 => ?_) (fun h1 => ?_)
  · simp (disch := omega) only [go_sem, simprocAttr]
    exact ⟨by first | exact vb_dec (by omega) | exact vb_true (by omega) | exact vb_false (by omega) | exact vb_not (by omega) | (simp; done) | (simp; omega), he⟩
  · simp (disch := omega) only [go_sem, simprocAttr]
    exact ⟨by first | exact vb_dec (by omega) | exact vb_true (by omega) | exact vb_false (by omega) | exact vb_not (by omega) | (simp; done) | (simp; omega), he⟩
theorem F.osierref03_In.J {S : St} {l : Value} {xs : List Dot} {d : Dot} (hl : SlT dotE S l xs) (hL : xs.length < 4611686018427387904) : J PR F.osierref03_In [l, dotV d] S fun v S' => v = .bool (decide (d ∈ xs)) ∧ S.Ext S' := by
  obtain ⟨base, cap, rfl⟩ := hl.len dotE
  refine J_by PR.mixed F.osierref03_In.ok (by simp) ?_
  simp (disch := omega) only [go_sem, simprocAttr]
  refine wfresh_of fun x hx => ?_
  simp (disch := omega) only [go_sem, simprocAttr]
  have he := (St.Ext.refl S).put hx (.cells true 2 [.int .i64 d.1, .int .i64 d.2])
  refine wC_loop (fun n fr S' => ∃ i, n = xs.length - i ∧ i ≤ xs.length ∧ S' = S.put x (.cells true 2 [.int .i64 d.1, .int .i64 d.2]) ∧ fr 0 = .slice base xs.length cap ∧ fr 3 = .pointer (some ⟨x, 0, none⟩) ∧ fr 5 = .int .i64 (i : Nat) ∧ d ∉ xs.take i) xs.length ⟨0, by simp (disch := omega) only [go_sem, simprocAttr]; simp⟩ ?_
  rintro n fr S' ⟨i, rfl, hi, rfl, h0, h3, h5, hn⟩
  simp (disch := omega) only [go_sem, simprocAttr, F.osierref03_In.l0, h0, h3, h5]
  refine wcond_dec (fun hlt => ?_) (fun hge => ?_)
  · have hxi : xs[i]? = some xs[i] := by simp
    obtain ⟨b, off, rfl, hb, hld, -⟩ := hl.at dotE hxi
    have hld' : S.loadN ⟨b, off + i * 2, none⟩ 2 = some [.int .i64 xs[i].1, .int .i64 xs[i].2] := hld
    have hc : (0 : Int) ≤ (i : Int) ∧ (i : Int) < (xs.length : Int) := by omega
    simp (disch := omega) only [go_sem, simprocAttr, h0, h3, h5, hc, hld', eqV_dot]
    refine wcond_dec (fun hq => ?_) (fun hq => ?_)
    · simp (disch := omega) only [go_sem, simprocAttr]
      exact ⟨vb_true (hq ▸ List.getElem_mem _), he⟩
    · simp (disch := omega) only [go_sem, simprocAttr, h0, h3, h5]
      refine ⟨xs.length - (i + 1), by omega, i + 1, rfl, by omega, rfl, ?_⟩
      rw [take_snoc hxi, List.mem_append]
      rintro (h | h)
      · exact hn h
      · simp at h
        exact hq h.symm
  · simp (disch := omega) only [go_sem, simprocAttr]
    rw [List.take_of_length_le (by omega)] at hn
    exact ⟨vb_false hn, he⟩

abbrev boolV (b : Bool) : Value := .bool b
theorem F.dots_set.J {S : St} {l : Value} {xs : List Dot} (hl : SlT dotE S l xs) (hL : xs.length < 4611686018427387904) :
    J PR F.dots_set [l] S fun v S' => ∃ b, v = .map (some b) ∧ S.n ≤ b ∧ MapT dotKE boolV true S' b (setOf xs) ∧ S.Ext S' := by
  obtain ⟨base, cap, rfl⟩ := hl.len dotE
  refine J_by PR.mixed F.dots_set.ok (by simp) ?_
  simp (disch := omega) only [go_sem, simprocAttr]
  refine wfresh_of fun b hb => ?_
  simp (disch := omega) only [go_sem, simprocAttr]
  have he := (St.Ext.refl S).put hb (.map true [] 0)
  refine wC_loop (fun n fr S' => ∃ i, n = xs.length - i ∧ i ≤ xs.length ∧ fr 7 = .slice base xs.length cap ∧ fr 8 = .int .i64 xs.length ∧ fr 3 = .map (some b) ∧ fr 9 = .int .i64 (i : Nat) ∧ S.Ext S' ∧ MapT dotKE boolV true S' b (setOf (xs.take i))) xs.length ⟨0, by simp (disch := omega) only [go_sem, simprocAttr]; exact ⟨by simp, by simp, he, MapT.new _ _⟩⟩ ?_
  rintro n fr S1 ⟨i, rfl, hi, h7, h8, h3, h9, he1, hm⟩
  simp (disch := omega) only [go_sem, simprocAttr, F.dots_set.l0, h7, h8, h9]
  refine wcond_dec (fun hlt => ?_) (fun hge => ?_)
  · have hxi : xs[i]? = some xs[i] := by simp
    obtain ⟨c, off, rfl, hc, hld, -⟩ := (hl.ext dotE he1).at dotE hxi
    have hld' : S1.loadN ⟨c, off + i * 2, none⟩ 2 = some [.int .i64 xs[i].1, .int .i64 xs[i].2] := hld
    have hcc : (0 : Int) ≤ (i : Int) ∧ (i : Int) < (xs.length : Int) := by omega
    simp (disch := omega) only [go_sem, simprocAttr, h7, h8, h9, hcc, hld']
    refine wfresh_of fun x hx => ?_
    simp (disch := omega) only [go_sem, simprocAttr, h3]
    have he2 := (St.Ext.refl S1).put hx (.cells true 2 [.int .i64 xs[i].1, .int .i64 xs[i].2])
    refine wE_mset dotKE boolV (k := xs[i]) (v := true) (hm.ext _ _ he2) rfl rfl rfl fun S2 hm2 hbut => ?_
    simp (disch := omega) only [go_sem, simprocAttr, h3, h7, h8, h9]
    refine ⟨xs.length - (i + 1), by omega, i + 1, rfl, by omega, rfl, (he1.trans he2).but hbut (by simpa [blkOf] using hb), ?_⟩
    rw [take_snoc hxi, setOf, List.foldl_append]
    exact hm2
  · simp (disch := omega) only [go_sem, simprocAttr, h3]
    rw [List.take_of_length_le (by omega)] at hm
    exact ⟨b, rfl, hb, hm, he1⟩

theorem F.dots_row.J {S : St} {rw : Bool} {b : Nat} {m : List (Dot × Bool)} (hm : MapT dotKE boolV rw S b m) (hL : m.length < 100000) :
    J PR F.dots_row [.map (some b)] S fun v S' => ∃ ys, OwnT dotE S.n S' v ys ∧ S.Ext S' ∧ ys.Perm (m.map Prod.fst) ∧ ys.Pairwise (fun x y => ¬ lessP y x) := by
  refine J_by PR.mixed F.dots_row.ok (by simp) ?_
  simp (disch := omega) only [go_sem, simprocAttr]
  refine wfresh_of fun c hc => ?_
  simp (disch := omega) only [go_sem, simprocAttr]
  have he := (St.Ext.refl S).put hc (.cells true 0 [])
  refine wE_rng dotKE boolV (hm.ext _ _ he) rfl fun r S1 hr hit he1 => ?_
  simp (disch := omega) only [go_sem, simprocAttr]
  have hown : OwnT dotE S.n S1 (.slice (some ⟨c, 0, none⟩) 0 0) [] := OwnT.ext dotE (OwnT.mk dotE hc (St.lt_put_self _ _ _) (Nat.le_refl 0) (St.put_same _ _ _)) he1
  have hrc : c < r := by rw [St.put_n] at hr; omega
  refine wC_loop (fun n fr S' => ∃ vis v, n = m.length - vis.length ∧ fr 7 = .pointer (some ⟨r, 0, none⟩) ∧ fr 3 = v ∧ IterT dotKE boolV rw S' r b m vis ∧ OwnT dotE S.n S' v (vis.map Prod.fst) ∧ S.Ext S' ∧ ∃ q, blkOf v = some q ∧ q ≠ r) m.length ⟨[], .slice (some ⟨c, 0, none⟩) 0 0, by simp (disch := omega) only [go_sem, simprocAttr]; exact ⟨by simp, hit, hown, he.trans he1, c, rfl, by omega⟩⟩ ?_
  rintro n fr S2 ⟨vis, v, rfl, h7, h3, hit2, hown2, he2, q, hq, hqr⟩
  simp (disch := omega) only [go_sem, simprocAttr, F.dots_row.l0, h7]
  refine wE_nxt dotKE boolV hit2 h7 (fun hperm => ?_) (fun p S3 hp hpv hit3 hbut => ?_)
  · simp (disch := omega) only [go_sem, simprocAttr, h3]
    rcases hown2 with ⟨_, rfl⟩ | ⟨c2, k2, rfl, hB, hb2, hk2, ho2⟩
    · simp [blkOf] at hq
    · refine wJ_of (sortDot_J (fun S x y => F.dots_compare.J) ho2 (by have := hit2.len; simp; omega)) ?_
      rintro _ S3 ⟨rfl, ys, hp, hs, rfl⟩
      simp (disch := omega) only [go_sem, simprocAttr, h3]
      have hl : (vis.map Prod.fst).length = ys.length := hp.length_eq.symm
      rw [hl]
      refine ⟨ys, OwnT.mk dotE hB (St.lt_put_self _ _ _) (by omega) (St.put_same _ _ _), ⟨Nat.le_trans he2.n (by rw [St.put_n]; omega), fun i hi => ?_⟩, hp.trans (hperm.map _), hs⟩
      rw [St.put_other _ _ _ (by omega)]
      exact he2.obj i hi
  · simp (disch := omega) only [go_sem, simprocAttr, h7]
    refine wE_ent dotKE boolV hit3 h7 ?_
    simp (disch := omega) only [go_sem, simprocAttr]
    refine wfresh_of fun x hx => ?_
    simp (disch := omega) only [go_sem, simprocAttr, h3]
    refine wfresh_of fun y hy => ?_
    simp (disch := omega) only [go_sem, simprocAttr]
    have e1 := (St.Ext.refl S3).put hx (.cells true 2 [.int .i64 p.1.1, .int .i64 p.1.2])
    have e2 := e1.put (b := y) (by rw [St.put_n]; exact hy) (.cells true 2 [.int .i64 p.1.1, .int .i64 p.1.2])
    have hown3 : OwnT dotE S.n S3 v (vis.map Prod.fst) := hown2.but dotE hbut (by intro i hi; rw [hq] at hi; simp at hi; subst hi; simp [blkOf]; exact fun e => hqr e.symm)
    have hlen := hit3.len
    simp at hlen
    refine wE_app dotE (ys := [p.1]) (hown3.ext dotE e2) (SlT.lit dotE (xs := [p.1])) rfl rfl ?_ (by simp; omega) (by simp; omega) fun v2 S4 ho4 hb4 hv4 => ?_
    · have g1 := he2.n
      have g2 := hbut.n
      have g3 := e2.n
      omega
    · simp (disch := omega) only [go_sem, simprocAttr, h7]
      have hqb := hown2.blk dotE q hq
      have hr3 := hit3.1
      have hb3 := hm.1
      have g1 := he2.n
      have g2 := hbut.n
      have g3 := e2.n
      have hre : S.n ≤ r := by have := he.n; omega
      have e3 : S.Ext S4 := ((he2.but hbut (by simp only [blkOf]; rintro i ⟨⟩; omega)).trans e2).but hb4 (by rw [hq]; rintro i ⟨⟩; omega)
      refine ⟨m.length - (vis.length + 1), by omega, vis ++ [p], v2, by simp, rfl, hit3.congr _ _ (Nat.le_trans e2.n hb4.n) ?_ ?_, by simpa using ho4, e3, ?_⟩
      · rw [hb4.obj b (by omega) (by rw [hq]; simp; omega), e2.obj b (by omega)]
      · rw [hb4.obj r (by omega) (by rw [hq]; simp; omega), e2.obj r (by omega)]
      · rcases hv4 with h | ⟨j, h, hj⟩
        · exact ⟨q, by rw [h, hq], hqr⟩
        · exact ⟨j, h, by omega⟩

theorem F.dots_Rising.J {S : St} {l : Value} {xs : List Dot} (hl : SlT dotE S l xs) (hL : xs.length < 100000) :
    J PR F.dots_Rising [l] S fun v S' => OwnT dotE S.n S' v (risen xs) ∧ S.Ext S' := by
  refine J_by PR.mixed F.dots_Rising.ok (by simp) ?_
  simp (disch := omega) only [go_sem, simprocAttr]
  refine wJ_of (F.dots_set.J hl (by omega)) ?_
  rintro _ S1 ⟨b, rfl, hb, hm, he⟩
  simp (disch := omega) only [go_sem, simprocAttr]
  refine wJ_of (F.dots_row.J hm (by have := setOf_len xs; omega)) ?_
  rintro v S2 ⟨ys, ho, he2, hp, hs⟩
  simp (disch := omega) only [go_sem, simprocAttr]
  rw [row_risen hp hs] at ho
  exact ⟨ho.mono dotE he.n, he.trans he2⟩

def placesN (xs : List Dot) : Nat → List (Dot × Nat)
  | 0 => []
  | i + 1 => match xs[i]? with
    | some d => if (alook d (placesN xs i)).isSome then placesN xs i else aset d i (placesN xs i)
    | none => placesN xs i
abbrev natV (n : Nat) : Value := .int .i64 n
end Go.Osj

/- Contracts of layer 3, more: Same, Minus. -/
set_option linter.unusedSimpArgs false
namespace Go.Osj

theorem SlT.dot {S : St} {base : Option Addr} {n cap : Nat} {xs : List Dot} (h : SlT dotE S (.slice base n cap) xs) {i : Nat} (hi : i < xs.length) :
    ∃ b off, base = some ⟨b, off, none⟩ ∧ b < S.n ∧ S.loadN ⟨b, off + i * 2, none⟩ 2 = some [.int .i64 xs[i].1, .int .i64 xs[i].2] := by
  obtain ⟨b, off, h1, h2, h3, -⟩ := h.at dotE (i := i) (x := xs[i]) (by simp)
  exact ⟨b, off, h1, h2, h3⟩

def minusOf (m : List (Dot × Bool)) (ys : List Dot) : List (Dot × Bool) := ys.foldl (fun m d => adel d m) m
theorem minusOf_keys : ∀ (ys : List Dot) (m : List (Dot × Bool)), (m.map Prod.fst).Nodup → ((minusOf m ys).map Prod.fst).Nodup ∧ ∀ d, d ∈ (minusOf m ys).map Prod.fst ↔ d ∉ ys ∧ d ∈ m.map Prod.fst
  | [], m, h => ⟨h, fun d => by simp [minusOf]⟩
  | y :: ys, m, h => by
    obtain ⟨g1, g2⟩ := adel_keys (k := y) h
    obtain ⟨h1, h2⟩ := minusOf_keys ys (adel y m) g1
    refine ⟨h1, fun d => ?_⟩
    have : minusOf m (y :: ys) = minusOf (adel y m) ys := rfl
    rw [this, h2, g2, List.mem_cons, not_or]
    constructor
    · rintro ⟨a, b, c⟩
      exact ⟨⟨b, a⟩, c⟩
    · rintro ⟨⟨b, a⟩, c⟩
      exact ⟨a, b, c⟩
theorem adel_len {k : Dot} : ∀ m : List (Dot × Bool), (adel k m).length ≤ m.length
  | [] => Nat.le_refl _
  | p :: r => by
    unfold adel
    split
    · simp
    · have := adel_len (k := k) r
      simp
      omega
theorem minusOf_len : ∀ (ys : List Dot) (m : List (Dot × Bool)), (minusOf m ys).length ≤ m.length
  | [], _ => Nat.le_refl _
  | y :: ys, m => Nat.le_trans (minusOf_len ys (adel y m)) (adel_len m)

end Go.Osj

/- Contracts of layer 3, more: the reference's Put1, Rising, Choose. -/
set_option linter.unusedSimpArgs false
namespace Go.Osj
theorem F.osierref03_Less_P {S : St} {a b : Dot} : J PR F.osierref03_Less [dotV a, dotV b] S fun v S' => v = .bool (decide (lessP a b)) ∧ S = S' := F.osierref03_Less.J.back
theorem F.osierref03_In_P {S : St} {l : Value} {xs : List Dot} {d : Dot} (hl : SlT dotE S l xs) (hL : xs.length < 4611686018427387904) : J PR F.osierref03_In [l, dotV d] S fun v S' => v = .bool (decide (d ∈ xs)) ∧ S = S' := (F.osierref03_In.J hl hL).back
theorem put1_split (d : Dot) : ∀ (xs : List Dot) (i : Nat), (∀ y ∈ xs.take i, lessP y d) → put1 d xs = xs.take i ++ put1 d (xs.drop i)
  | xs, 0, _ => by simp
  | [], i + 1, _ => by simp
  | x :: r, i + 1, h => by
    have hx : lessP x d := h x (by simp)
    rw [List.take_succ_cons, List.drop_succ_cons, put1, if_pos hx, put1_split d r i fun y hy => h y (by simp [hy])]
    rfl
theorem put1_len (d : Dot) : ∀ xs : List Dot, (put1 d xs).length ≤ xs.length + 1
  | [] => by simp [put1]
  | x :: r => by
    have := put1_len d r
    unfold put1
    split
    · simp; omega
    · split <;> simp

theorem risen_take_succ {xs : List Dot} {i : Nat} (h : i < xs.length) : risen (xs.take (i + 1)) = put1 xs[i] (risen (xs.take i)) := by
  rw [take_snoc (List.getElem?_eq_getElem h), risen, List.foldl_append]
  rfl
def chosen (xs ys : List Dot) (t : Bool) : List Dot := risen (xs.filter fun d => decide (d ∈ ys) == t)
theorem chosen_take_succ {xs ys : List Dot} {t : Bool} {i : Nat} (h : i < xs.length) : chosen (xs.take (i + 1)) ys t = if (decide (xs[i] ∈ ys)) == t then put1 xs[i] (chosen (xs.take i) ys t) else chosen (xs.take i) ys t := by
  unfold chosen
  rw [take_snoc (List.getElem?_eq_getElem h), List.filter_append, List.filter_cons]
  split
  · rw [risen, List.foldl_append]; rfl
  · simp
end Go.Osj

/- Plain facts about version vectors. -/
namespace Go.Osj

def getV : List Dot → Int → Int
  | [], _ => 0
  | d :: r, a => if d.1 = a then d.2 else getV r a
/-- what may be a vector -/
def isV (v : List Dot) : Prop := v.Pairwise (fun a b => a.1 < b.1) ∧ ∀ d ∈ v, mayP d
def hasP (v : List Dot) (d : Dot) : Prop := mayP d ∧ d.2 ≤ getV v d.1
instance (v : List Dot) (d : Dot) : Decidable (hasP v d) := inferInstanceAs (Decidable (_ ∧ _))
def belowP (v w : List Dot) : Prop := ∀ d ∈ v, d.2 ≤ getV w d.1
instance (v w : List Dot) : Decidable (belowP v w) := inferInstanceAs (Decidable (∀ d ∈ v, _))

theorem isV_nil : isV [] := ⟨List.Pairwise.nil, by simp⟩
theorem isV_cons {d : Dot} {v : List Dot} : isV (d :: v) ↔ mayP d ∧ (∀ e ∈ v, d.1 < e.1) ∧ isV v := by
  unfold isV
  rw [List.pairwise_cons]
  constructor
  · rintro ⟨⟨h1, h2⟩, h3⟩
    exact ⟨h3 d (by simp), h1, h2, fun e he => h3 e (by simp [he])⟩
  · rintro ⟨h1, h2, h3, h4⟩
    refine ⟨⟨h2, h3⟩, fun e he => ?_⟩
    rcases List.mem_cons.1 he with h | h
    · subst h; exact h1
    · exact h4 e h
theorem getV_none {v : List Dot} {a : Int} (h : ∀ d ∈ v, d.1 ≠ a) : getV v a = 0 := by
  induction v with
  | nil => rfl
  | cons d v ih =>
    rw [getV, if_neg (h d (by simp))]
    exact ih fun e he => h e (by simp [he])
theorem getV_mem {v : List Dot} (h : isV v) {d : Dot} (hd : d ∈ v) : getV v d.1 = d.2 := by
  induction v with
  | nil => simp at hd
  | cons e v ih =>
    obtain ⟨h1, h2, h3⟩ := isV_cons.1 h
    unfold getV
    rcases List.mem_cons.1 hd with hq | hq
    · subst hq; rw [if_pos rfl]
    · rw [if_neg (by have := h2 d hq; omega)]
      exact ih h3 hq
theorem mem_getV {v : List Dot} {a : Int} (h : getV v a ≠ 0) : (a, getV v a) ∈ v := by
  induction v with
  | nil => exact absurd rfl h
  | cons e v ih =>
    unfold getV at h ⊢
    split
    · rename_i hq; subst hq; simp
    · rename_i hq
      rw [if_neg hq] at h
      exact List.mem_cons_of_mem _ (ih h)
theorem getV_range {v : List Dot} (h : isV v) (a : Int) : 0 ≤ getV v a ∧ getV v a ≤ 1073741824 := by
  by_cases h0 : getV v a = 0
  · omega
  · have := h.2 _ (mem_getV h0)
    unfold mayP at this
    simp only at this
    omega
theorem getV_act {v : List Dot} (h : isV v) {a : Int} (h0 : getV v a ≠ 0) : 0 ≤ a ∧ a < 16777216 := by
  have := h.2 _ (mem_getV h0)
  unfold mayP at this
  simp only at this
  omega
theorem isV_mem {v : List Dot} (h : isV v) (d : Dot) : d ∈ v ↔ getV v d.1 = d.2 ∧ d.2 ≠ 0 := by
  constructor
  · intro hd
    refine ⟨getV_mem h hd, ?_⟩
    have := h.2 d hd
    unfold mayP at this
    omega
  · rintro ⟨h1, h2⟩
    have := mem_getV (v := v) (a := d.1) (by omega)
    rw [h1] at this
    exact this
theorem isV_less {v : List Dot} (h : isV v) : v.Pairwise lessP := h.1.imp fun {a b} hab => .inl hab
theorem isV_ext {v w : List Dot} (hv : isV v) (hw : isV w) (h : ∀ a, getV v a = getV w a) : v = w :=
  sorted_unique (isV_less hv) (isV_less hw) fun d => by rw [isV_mem hv, isV_mem hw, h]
theorem hasP_iff {v : List Dot} (h : isV v) {d : Dot} : hasP v d ↔ 1 ≤ d.2 ∧ d.2 ≤ getV v d.1 := by
  unfold hasP
  constructor
  · rintro ⟨h1, h2⟩
    unfold mayP at h1
    omega
  · rintro ⟨h1, h2⟩
    refine ⟨?_, h2⟩
    have h3 := getV_act h (a := d.1) (by omega)
    have h4 := getV_range h d.1
    unfold mayP
    omega
theorem belowP_iff {v w : List Dot} (hv : isV v) (hw : isV w) : belowP v w ↔ ∀ a, getV v a ≤ getV w a := by
  constructor
  · intro h a
    by_cases h0 : getV v a = 0
    · have := getV_range hw a
      omega
    · exact h _ (mem_getV h0)
  · intro h d hd
    have := h d.1
    rw [getV_mem hv hd] at this
    exact this

/-! ### what a choice makes of two -/
def actsV (v w : List Dot) : List Dot := risen ((v ++ w).map fun d => (d.1, 0))
def eachV (f : Int → Int → Int) (v w : List Dot) : List Dot := (actsV v w).filterMap fun d => if 0 < f (getV v d.1) (getV w d.1) then some (d.1, f (getV v d.1) (getV w d.1)) else none
theorem mem_actsV {v w : List Dot} {d : Dot} : d ∈ actsV v w ↔ d.2 = 0 ∧ ∃ e, (e ∈ v ∨ e ∈ w) ∧ e.1 = d.1 := by
  unfold actsV
  rw [(risen_ris _).2, List.mem_map]
  constructor
  · rintro ⟨e, he, rfl⟩
    exact ⟨rfl, e, List.mem_append.1 he, rfl⟩
  · rintro ⟨h1, e, he, h2⟩
    exact ⟨e, List.mem_append.2 he, Prod.ext h2 h1.symm⟩
theorem actsV_lt (v w : List Dot) : (actsV v w).Pairwise fun a b => a.1 < b.1 := by
  have h := (risen_ris ((v ++ w).map fun d => ((d.1, 0) : Dot))).1
  refine List.Pairwise.imp_of_mem (fun ha hb hab => ?_) h
  have h1 := (mem_actsV (v := v) (w := w)).1 ha
  have h2 := (mem_actsV (v := v) (w := w)).1 hb
  unfold lessP at hab
  omega
structure Choice (f : Int → Int → Int) : Prop where
  one : ∀ x y, f x y = x ∨ f x y = y
  zero : f 0 0 = 0
theorem choice_max : Choice max := ⟨fun x y => by omega, rfl⟩
theorem choice_min : Choice min := ⟨fun x y => by omega, rfl⟩
theorem eachV_is {f : Int → Int → Int} (hf : Choice f) {v w : List Dot} (hv : isV v) (hw : isV w) : isV (eachV f v w) := by
  constructor
  · unfold eachV
    rw [List.pairwise_filterMap]
    refine (actsV_lt v w).imp fun hab x hx y hy => ?_
    split at hx <;> simp at hx
    split at hy <;> simp at hy
    subst hx hy
    exact hab
  · intro d hd
    unfold eachV at hd
    rw [List.mem_filterMap] at hd
    obtain ⟨e, he, hq⟩ := hd
    split at hq <;> simp at hq
    rename_i hpos
    subst hq
    rcases hf.one (getV v e.1) (getV w e.1) with h | h
    · rw [h] at hpos ⊢
      have h1 := getV_range hv e.1
      have h2 := getV_act hv (a := e.1) (by omega)
      unfold mayP; simp only; omega
    · rw [h] at hpos ⊢
      have h1 := getV_range hw e.1
      have h2 := getV_act hw (a := e.1) (by omega)
      unfold mayP; simp only; omega
theorem getV_eachV {f : Int → Int → Int} (hf : Choice f) {v w : List Dot} (hv : isV v) (hw : isV w) (a : Int) : getV (eachV f v w) a = f (getV v a) (getV w a) := by
  have hr1 := getV_range hv a
  have hr2 := getV_range hw a
  have hfr : 0 ≤ f (getV v a) (getV w a) := by rcases hf.one (getV v a) (getV w a) with h | h <;> omega
  by_cases hp : 0 < f (getV v a) (getV w a)
  · have hin : (a, f (getV v a) (getV w a)) ∈ eachV f v w := by
      unfold eachV
      rw [List.mem_filterMap]
      refine ⟨(a, 0), mem_actsV.2 ⟨rfl, ?_⟩, by simp [hp]⟩
      by_cases h1 : getV v a = 0
      · by_cases h2 : getV w a = 0
        · rw [h1, h2, hf.zero] at hp; omega
        · exact ⟨_, .inr (mem_getV h2), rfl⟩
      · exact ⟨_, .inl (mem_getV h1), rfl⟩
    exact getV_mem (eachV_is hf hv hw) hin
  · have h0 : f (getV v a) (getV w a) = 0 := by omega
    rw [h0]
    refine getV_none fun d hd he => ?_
    unfold eachV at hd
    rw [List.mem_filterMap] at hd
    obtain ⟨e, -, hq⟩ := hd
    split at hq <;> simp at hq
    subst hq
    simp only at he
    subst he
    omega
theorem eachV_eq {f : Int → Int → Int} (hf : Choice f) {v w u : List Dot} (hv : isV v) (hw : isV w) (hu : isV u) (h : ∀ a, getV u a = f (getV v a) (getV w a)) : u = eachV f v w :=
  isV_ext hu (eachV_is hf hv hw) fun a => by rw [h, getV_eachV hf hv hw]
abbrev joinV := eachV max
abbrev meetV := eachV min
theorem joinV_is {v w : List Dot} (hv : isV v) (hw : isV w) : isV (joinV v w) := eachV_is choice_max hv hw
theorem meetV_is {v w : List Dot} (hv : isV v) (hw : isV w) : isV (meetV v w) := eachV_is choice_min hv hw
theorem getV_join {v w : List Dot} (hv : isV v) (hw : isV w) (a : Int) : getV (joinV v w) a = max (getV v a) (getV w a) := getV_eachV choice_max hv hw a
theorem getV_meet {v w : List Dot} (hv : isV v) (hw : isV w) (a : Int) : getV (meetV v w) a = min (getV v a) (getV w a) := getV_eachV choice_min hv hw a
theorem isV_one {d : Dot} (h : mayP d) : isV [d] := isV_cons.2 ⟨h, by simp, isV_nil⟩
/-- with an operation -/
def withV (v : List Dot) (d : Dot) : List Dot := if mayP d then joinV v [d] else v
theorem withV_is {v : List Dot} (hv : isV v) (d : Dot) : isV (withV v d) := by
  unfold withV
  split
  · exact joinV_is hv (isV_one (by assumption))
  · exact hv
theorem getV_with {v : List Dot} (hv : isV v) {d : Dot} (hd : mayP d) (a : Int) : getV (withV v d) a = if d.1 = a then max (getV v a) d.2 else getV v a := by
  have hr := getV_range hv a
  rw [withV, if_pos hd, getV_join hv (isV_one hd)]
  simp only [getV]
  split
  · rfl
  · omega
theorem eachV_len (f : Int → Int → Int) (v w : List Dot) : (eachV f v w).length ≤ v.length + w.length := by
  refine Nat.le_trans (List.length_filterMap_le _ _) (Nat.le_trans (risen_len _) ?_)
  simp
theorem withV_len (v : List Dot) (d : Dot) : (withV v d).length ≤ v.length + 1 := by
  unfold withV
  split
  · exact eachV_len _ _ _
  · omega
/-- a vector, made of raw dots -/
def madeV (l : List Dot) : List Dot := (l.take 50).foldl withV []
theorem madeV_is (l : List Dot) : isV (madeV l) := by
  have key : ∀ (l v : List Dot), isV v → isV (l.foldl withV v) := by
    intro l
    induction l with
    | nil => exact fun v h => h
    | cons d l ih => exact fun v h => ih _ (withV_is h d)
  exact key _ _ isV_nil
theorem madeV_len (l : List Dot) : (madeV l).length ≤ 50 := by
  have key : ∀ (l v : List Dot), (l.foldl withV v).length ≤ v.length + l.length := by
    intro l
    induction l with
    | nil => exact fun v => by simp
    | cons d l ih =>
      intro v
      have h1 := ih (withV v d)
      have h2 := withV_len v d
      simp only [List.foldl_cons, List.length_cons]
      omega
  have := key (l.take 50) []
  simp only [List.length_nil, List.length_take] at this
  unfold madeV
  omega
end Go.Osj

/- Contracts of layer 4: vectors looked at. -/
set_option linter.unusedSimpArgs false
namespace Go.Osj
theorem SlT.dotc {S : St} {base : Option Addr} {n cap : Nat} {xs : List Dot} (h : SlT dotE S (.slice base n cap) xs) {i : Nat} (hi : i < xs.length) :
    ∃ b off, base = some ⟨b, off, none⟩ ∧ b < S.n ∧ S.loadN ⟨b, off + i * 2, none⟩ 2 = some [.int .i64 xs[i].1, .int .i64 xs[i].2] ∧ S.cell ⟨b, off + i * 2, none⟩ = some (.int .i64 xs[i].1) ∧ S.cell ⟨b, off + i * 2 + 1, none⟩ = some (.int .i64 xs[i].2) := by
  obtain ⟨b, off, h1, h2, h3, h4⟩ := h.at dotE (i := i) (x := xs[i]) (by simp)
  exact ⟨b, off, h1, h2, h3, h4 0 (by decide), h4 1 (by decide)⟩
/-- a function value of one dot that only looks -/
def FunT (S : St) (f : Value) (xs : List Dot) (p : Dot → Bool) : Prop :=
  ∃ g first captured, f = .func (.func g) first captured ∧ callable PR g = true ∧ ∀ x ∈ xs, J PR g (first.toList ++ [dotV x] ++ captured.toList) S fun v S' => v = .bool (p x) ∧ S = S'
/-- a call of a function value -/
def wcallv (P : Program) (f : Value) (args : List Value) (S : St) [k : KV] : Prop := match f with
  | .func (.func g) first captured => callable P g = true ∧ J P g (first.toList ++ args ++ captured.toList) S k.run
  | _ => False
@[go_sem] theorem wE_callv {P : Program} {fr : Fr} {S : St} {f : Operand} {args : List Operand} [k : KV] : wE P (.callv f args) fr S = wcallv P (ev fr f) (args.map (ev fr)) S := by
  unfold wE wcallv
  simp only [JE]
  cases ev fr f <;> try rfl
theorem FunT.call {S : St} {f : Value} {xs : List Dot} {p : Dot → Bool} (h : FunT S f xs p) {x : Dot} (hx : x ∈ xs) {k : KV} (hk : k.run (.bool (p x)) S) : @wcallv PR f [dotV x] S k := by
  obtain ⟨g, first, captured, rfl, hc, hj⟩ := h
  exact ⟨hc, (hj x hx).mono fun v S' ⟨h1, h2⟩ => by subst h1 h2; exact hk⟩

def idxV (p : Dot → Bool) (xs : List Dot) : Int := match xs.findIdx? p with | some i => i | none => -1
theorem findIdx_none {p : Dot → Bool} {xs : List Dot} (h : ∀ x ∈ xs, p x = false) : xs.findIdx? p = none := by
  rw [List.findIdx?_eq_none_iff]; exact h
theorem findIdx_at {p : Dot → Bool} {xs : List Dot} {i : Nat} (hi : i < xs.length) (h : ∀ x ∈ xs.take i, p x = false) (hp : p xs[i] = true) : xs.findIdx? p = some i := by
  rw [List.findIdx?_eq_some_iff_getElem]
  refine ⟨hi, hp, fun j hj => ?_⟩
  have := h xs[j] (List.mem_take_iff_getElem.2 ⟨j, by omega, rfl⟩)
  simp [this]
theorem F.slices_IndexFunc_J {S : St} {l f : Value} {xs : List Dot} {p : Dot → Bool} (hl : SlT dotE S l xs) (hf : FunT S f xs p) (hL : xs.length < 9223372036854775808) :
    J PR F.slices_IndexFunc_api_Vector_api_Dot [l, f] S fun v S' => v = .int .i64 (idxV p xs) ∧ S = S' := by
  obtain ⟨base, cap, rfl⟩ := hl.len dotE
  refine J_by PR.mixed F.slices_IndexFunc_api_Vector_api_Dot.ok (by simp) ?_
  simp (disch := omega) only [go_sem, simprocAttr]
  refine wC_loop (fun n fr S' => ∃ i, n = xs.length - i ∧ i ≤ xs.length ∧ S' = S ∧ fr 0 = .slice base xs.length cap ∧ fr 1 = f ∧ fr 6 = .slice base xs.length cap ∧ fr 7 = .int .i64 xs.length ∧ fr 8 = .int .i64 (i : Nat) ∧ ∀ x ∈ xs.take i, p x = false) xs.length ⟨0, by simp (disch := omega) only [go_sem, simprocAttr]; simp⟩ ?_
  rintro n fr S' ⟨i, rfl, hi, rfl, h0, h1, h6, h7, h8, hn⟩
  simp (disch := omega) only [go_sem, simprocAttr, F.slices_IndexFunc_api_Vector_api_Dot.l0, h0, h1, h6, h7, h8]
  refine wcond_dec (fun hlt => ?_) (fun hge => ?_)
  · have hlx : i < xs.length := by omega
    obtain ⟨b, off, rfl, hb, hx⟩ := hl.dot hlx
    have c1 : (0 : Int) ≤ (i : Int) ∧ (i : Int) < (xs.length : Int) := by omega
    simp (disch := omega) only [go_sem, simprocAttr, h0, h1, h6, h7, h8, c1, hx]
    refine hf.call (x := xs[i]) (List.getElem_mem _) ?_
    simp (disch := omega) only [go_sem, simprocAttr]
    refine wcond_of (fun hq => ?_) (fun hq => ?_)
    · simp (disch := omega) only [go_sem, simprocAttr, h8]
      rw [idxV, findIdx_at hlx hn hq]
    · simp (disch := omega) only [go_sem, simprocAttr, h0, h1, h6, h7, h8]
      refine ⟨xs.length - (i + 1), by omega, i + 1, rfl, by omega, rfl, ?_⟩
      rw [take_snoc (List.getElem?_eq_getElem hlx)]
      intro x hx
      rcases List.mem_append.1 hx with hx | hx
      · exact hn x hx
      · simp at hx; subst hx; exact hq
  · simp (disch := omega) only [go_sem, simprocAttr]
    rw [List.take_of_length_le (by omega)] at hn
    rw [idxV, findIdx_none hn]
theorem F.slices_ContainsFunc_J {S : St} {l f : Value} {xs : List Dot} {p : Dot → Bool} (hl : SlT dotE S l xs) (hf : FunT S f xs p) (hL : xs.length < 9223372036854775808) :
    J PR F.slices_ContainsFunc_api_Vector_api_Dot [l, f] S fun v S' => v = .bool (xs.any p) ∧ S = S' := by
  refine J_by PR.mixed F.slices_ContainsFunc_api_Vector_api_Dot.ok (by simp) ?_
  simp (disch := omega) only [go_sem, simprocAttr]
  refine wJ_of (F.slices_IndexFunc_J hl hf hL) ?_; rintro _ _ ⟨rfl, rfl⟩
  simp (disch := omega) only [go_sem, simprocAttr]
  congr 1
  unfold idxV
  cases h : xs.findIdx? p with
  | none =>
    rw [List.findIdx?_eq_none_iff] at h
    have : xs.any p = false := by rw [List.any_eq_false]; intro x hx; simp [h x hx]
    rw [this]
    rfl
  | some i =>
    rw [List.findIdx?_eq_some_iff_getElem] at h
    obtain ⟨h1, h2, -⟩ := h
    have : xs.any p = true := List.any_eq_true.2 ⟨_, List.getElem_mem h1, h2⟩
    rw [this]
    simp

theorem F.vector_Get_c1_J {S : St} {q : Nat} {d : Dot} {a : Int} (hq : S.cell ⟨q, 0, none⟩ = some (.int .i64 a)) (hqn : q < S.n) : J PR F.vector_Get_c1 [dotV d, .pointer (some ⟨q, 0, none⟩)] S fun v S' => v = .bool (decide (d.1 = a)) ∧ S = S' := by
  refine J.back (J_by PR.mixed F.vector_Get_c1.ok (by simp) ?_)
  simp (disch := omega) only [go_sem, simprocAttr]
  refine wfresh_of fun x hx => ?_
  simp (disch := omega) only [go_sem, simprocAttr, hq]
  exact (St.Ext.refl S).put hx _
theorem getV_idx (xs : List Dot) (a : Int) : (xs.findIdx? (fun d => decide (d.1 = a)) = none ∧ getV xs a = 0) ∨ ∃ i, ∃ h : i < xs.length, xs.findIdx? (fun d => decide (d.1 = a)) = some i ∧ getV xs a = xs[i].2 := by
  induction xs with
  | nil => exact .inl ⟨rfl, rfl⟩
  | cons d xs ih =>
    by_cases hd : d.1 = a
    · exact .inr ⟨0, by simp, by simp [List.findIdx?_cons, hd], by simp [getV, hd]⟩
    · rcases ih with ⟨h1, h2⟩ | ⟨i, h, h1, h2⟩
      · exact .inl ⟨by simp [List.findIdx?_cons, hd, h1], by simp [getV, hd, h2]⟩
      · exact .inr ⟨i + 1, by simp; omega, by simp [List.findIdx?_cons, hd, h1], by simp [getV, hd, h2]⟩
theorem F.vector_Get_J {S : St} {l : Value} {xs : List Dot} {a : Int} (hl : SlT dotE S l xs) (hL : xs.length < 9223372036854775808) : J PR F.vector_Get [l, .int .i64 a] S fun v S' => v = .int .i64 (getV xs a) ∧ S = S' := by
  obtain ⟨base, cap, rfl⟩ := hl.len dotE
  refine J.back (J_by PR.mixed F.vector_Get.ok (by simp) ?_)
  simp (disch := omega) only [go_sem, simprocAttr]
  refine wfresh_of fun x hx => ?_
  simp (disch := omega) only [go_sem, simprocAttr]
  have he := (St.Ext.refl S).put hx (.cells true 1 [.int .i64 a])
  refine wJ_of (F.slices_IndexFunc_J (p := fun d => decide (d.1 = a)) (hl.ext dotE he) ⟨_, _, _, rfl, F.vector_Get_c1.cl, fun y _ => F.vector_Get_c1_J (by simp (disch := omega) only [go_sem, simprocAttr]) (St.lt_put_self ..)⟩ hL) ?_; rintro _ _ ⟨rfl, rfl⟩
  simp (disch := omega) only [go_sem, simprocAttr]
  unfold idxV
  rcases getV_idx xs a with ⟨h1, h2⟩ | ⟨i, h, h1, h2⟩
  · rw [h1, h2]
    simp (disch := omega) only [go_sem, simprocAttr]
    exact he
  · rw [h1, h2]
    obtain ⟨b, off, rfl, hb, -, -, hx⟩ := hl.dotc h
    have c1 : (0 : Int) ≤ (i : Int) ∧ (i : Int) < (xs.length : Int) := by omega
    simp (disch := omega) only [go_sem, simprocAttr, c1, hx]
    exact he
theorem F.osierref04_Get_J {S : St} {l : Value} {xs : List Dot} {a : Int} (hl : SlT dotE S l xs) (hL : xs.length < 9223372036854775808) : J PR F.osierref04_Get [l, .int .i64 a] S fun v S' => v = .int .i64 (getV xs a) ∧ S = S' := by
  obtain ⟨base, cap, rfl⟩ := hl.len dotE
  refine J_by PR.mixed F.osierref04_Get.ok (by simp) ?_
  simp (disch := omega) only [go_sem, simprocAttr]
  refine wC_loop (fun n fr S' => ∃ i, n = xs.length - i ∧ i ≤ xs.length ∧ S' = S ∧ fr 0 = .slice base xs.length cap ∧ fr 1 = .int .i64 a ∧ fr 5 = .int .i64 (i : Nat) ∧ getV xs a = getV (xs.drop i) a) xs.length ⟨0, by simp (disch := omega) only [go_sem, simprocAttr]; simp⟩ ?_
  rintro n fr S' ⟨i, rfl, hi, rfl, h0, h1, h5, hn⟩
  simp (disch := omega) only [go_sem, simprocAttr, F.osierref04_Get.l0, h0, h1, h5]
  refine wcond_dec (fun hlt => ?_) (fun hge => ?_)
  · have hlx : i < xs.length := by omega
    obtain ⟨b, off, rfl, hb, -, hx, hy⟩ := hl.dotc hlx
    have c1 : (0 : Int) ≤ (i : Int) ∧ (i : Int) < (xs.length : Int) := by omega
    rw [List.drop_eq_getElem_cons hlx] at hn
    simp (disch := omega) only [go_sem, simprocAttr, h0, h1, h5, c1, hx]
    refine wcond_dec (fun hq => ?_) (fun hq => ?_)
    · simp (disch := omega) only [go_sem, simprocAttr, h0, h1, h5, c1, hy]
      rw [hn, getV, if_pos hq]
    · simp (disch := omega) only [go_sem, simprocAttr, h0, h1, h5]
      refine ⟨xs.length - (i + 1), by omega, i + 1, rfl, by omega, rfl, ?_⟩
      rw [hn, getV, if_neg hq]
  · simp (disch := omega) only [go_sem, simprocAttr]
    rw [hn, List.drop_eq_nil_of_le (by omega), getV]
theorem F.dots_May_P {S : St} {a : Dot} : J PR F.dots_May [dotV a] S fun v S' => v = .bool (decide (mayP a)) ∧ S = S' := F.dots_May.J.back
theorem F.osierref03_May_P {S : St} {a : Dot} : J PR F.osierref03_May [dotV a] S fun v S' => v = .bool (decide (mayP a)) ∧ S = S' := F.osierref03_May.J.back
theorem F.vector_Has_J {S : St} {l : Value} {xs : List Dot} {d : Dot} (hl : SlT dotE S l xs) (hL : xs.length < 9223372036854775808) : J PR F.vector_Has [l, dotV d] S fun v S' => v = .bool (decide (hasP xs d)) ∧ S = S' := by
  refine J.back (J_by PR.mixed F.vector_Has.ok (by simp) ?_)
  simp (disch := omega) only [go_sem, simprocAttr]
  refine wfresh_of fun x hx => ?_
  simp (disch := omega) only [go_sem, simprocAttr]
  have he := (St.Ext.refl S).put hx (.cells true 2 [.int .i64 d.1, .int .i64 d.2])
  refine wJ_of F.dots_May_P ?_; rintro _ _ ⟨rfl, rfl⟩
  unfold hasP
  by_cases hm : mayP d
  · simp (disch := omega) only [go_sem, simprocAttr, hm]
    refine wJ_of (F.vector_Get_J (hl.ext dotE he) hL) ?_; rintro _ _ ⟨rfl, rfl⟩
    simp (disch := omega) only [go_sem, simprocAttr]
    exact ⟨by simp [hm], he⟩
  · simp (disch := omega) only [go_sem, simprocAttr, hm, false_and]
    exact he
theorem F.osierref04_Has_J {S : St} {l : Value} {xs : List Dot} {d : Dot} (hl : SlT dotE S l xs) (hL : xs.length < 9223372036854775808) : J PR F.osierref04_Has [l, dotV d] S fun v S' => v = .bool (decide (hasP xs d)) ∧ S = S' := by
  refine J.back (J_by PR.mixed F.osierref04_Has.ok (by simp) ?_)
  simp (disch := omega) only [go_sem, simprocAttr]
  refine wfresh_of fun x hx => ?_
  simp (disch := omega) only [go_sem, simprocAttr]
  have he := (St.Ext.refl S).put hx (.cells true 2 [.int .i64 d.1, .int .i64 d.2])
  refine wJ_of F.osierref03_May_P ?_; rintro _ _ ⟨rfl, rfl⟩
  unfold hasP
  by_cases hm : mayP d
  · simp (disch := omega) only [go_sem, simprocAttr, hm]
    refine wJ_of (F.osierref04_Get_J (hl.ext dotE he) hL) ?_; rintro _ _ ⟨rfl, rfl⟩
    simp (disch := omega) only [go_sem, simprocAttr]
    exact ⟨by simp [hm], he⟩
  · simp (disch := omega) only [go_sem, simprocAttr, hm, false_and]
    exact he

/-! ### May -/
instance (v : List Dot) : Decidable (isV v) := inferInstanceAs (Decidable (List.Pairwise _ _ ∧ ∀ d ∈ v, _))
theorem isV_snoc {v : List Dot} {x : Dot} : isV (v ++ [x]) ↔ isV v ∧ mayP x ∧ ∀ e ∈ v, e.1 < x.1 := by
  unfold isV
  rw [List.pairwise_append]
  constructor
  · rintro ⟨⟨h1, -, h2⟩, h3⟩
    exact ⟨⟨h1, fun d hd => h3 d (by simp [hd])⟩, h3 x (by simp), fun e he => h2 e he x (by simp)⟩
  · rintro ⟨⟨h1, h2⟩, h3, h4⟩
    refine ⟨⟨h1, by simp, fun e he y hy => by simp at hy; subst hy; exact h4 e he⟩, fun d hd => ?_⟩
    rcases List.mem_append.1 hd with hd | hd
    · exact h2 d hd
    · simp at hd; subst hd; exact h3
theorem isV_take {v : List Dot} (h : isV v) (i : Nat) : isV (v.take i) := ⟨h.1.sublist (List.take_sublist i v), fun d hd => h.2 d (List.mem_of_mem_take hd)⟩
theorem not_isV_at {xs : List Dot} {i : Nat} (hi : i < xs.length) (h : ¬ mayP xs[i] ∨ ∃ e ∈ xs.take i, xs[i].1 ≤ e.1) : ¬ isV xs := by
  intro hv
  have h1 := isV_take hv (i + 1)
  rw [take_snoc (List.getElem?_eq_getElem hi), isV_snoc] at h1
  rcases h with h | ⟨e, he, hle⟩
  · exact h h1.2.1
  · have := h1.2.2 e he
    omega
theorem F.vector_May_J {S : St} {l : Value} {xs : List Dot} (hl : SlT dotE S l xs) (hL : xs.length < 9223372036854775808) : J PR F.vector_May [l] S fun v S' => v = .bool (decide (isV xs)) ∧ S = S' := by
  obtain ⟨base, cap, rfl⟩ := hl.len dotE
  refine J.back (J_by PR.mixed F.vector_May.ok (by simp) ?_)
  simp (disch := omega) only [go_sem, simprocAttr]
  refine wC_loop (fun n fr S' => ∃ (i : Nat) (w : Int), n = xs.length - i ∧ i ≤ xs.length ∧ S.Ext S' ∧ fr 6 = .slice base xs.length cap ∧ fr 7 = .int .i64 xs.length ∧ fr 3 = .int .i64 w ∧ fr 8 = .int .i64 (i : Nat) ∧ isV (xs.take i) ∧ (∀ e ∈ xs.take i, e.1 ≤ w) ∧ (w = -1 ∨ ∃ e ∈ xs.take i, e.1 = w)) xs.length ⟨0, -1, by simp (disch := omega) only [go_sem, simprocAttr]; exact ⟨by simp, by simp, St.Ext.refl _, by simp [isV_nil]⟩⟩ ?_
  rintro n fr S1 ⟨i, w, rfl, hi, he, h6, h7, h3, h8, hv, hw1, hw2⟩
  simp (disch := omega) only [go_sem, simprocAttr, F.vector_May.l0, h6, h7, h3, h8]
  refine wcond_dec (fun hlt => ?_) (fun hge => ?_)
  · have hlx : i < xs.length := by omega
    obtain ⟨b, off, rfl, hb, hx⟩ := (hl.ext dotE he).dot hlx
    have c1 : (0 : Int) ≤ (i : Int) ∧ (i : Int) < (xs.length : Int) := by omega
    simp (disch := omega) only [go_sem, simprocAttr, h6, h7, h3, h8, c1, hx]
    refine wfresh_of fun y hy => ?_
    simp (disch := omega) only [go_sem, simprocAttr]
    have he2 := he.put hy (.cells true 2 [.int .i64 xs[i].1, .int .i64 xs[i].2])
    refine wJ_of F.dots_May_P ?_; rintro _ _ ⟨rfl, rfl⟩
    by_cases hm : mayP xs[i]
    · simp (disch := omega) only [go_sem, simprocAttr, hm, h3]
      refine wcond_dec (fun hq => ?_) (fun hq => ?_)
      · simp (disch := omega) only [go_sem, simprocAttr]
        refine ⟨vb_false (not_isV_at hlx ?_), he2⟩
        rcases hw2 with h | ⟨e, h1, h2⟩
        · unfold mayP at hm; omega
        · exact .inr ⟨e, h1, by omega⟩
      · simp (disch := omega) only [go_sem, simprocAttr, h6, h7, h3, h8]
        refine ⟨xs.length - (i + 1), by omega, i + 1, _, rfl, by omega, he2, rfl, rfl, ?_⟩
        rw [take_snoc (List.getElem?_eq_getElem hlx), isV_snoc]
        refine ⟨⟨hv, hm, fun e h => ?_⟩, fun e h => ?_, .inr ⟨xs[i], List.mem_append_right _ (List.mem_singleton_self _), rfl⟩⟩
        · have := hw1 e h; omega
        · rcases List.mem_append.1 h with h | h
          · have := hw1 e h; omega
          · simp at h; subst h; exact Int.le_refl _
    · simp (disch := omega) only [go_sem, simprocAttr, hm, h3]
      exact ⟨vb_false (not_isV_at hlx (.inl hm)), he2⟩
  · simp (disch := omega) only [go_sem, simprocAttr]
    rw [List.take_of_length_le (by omega)] at hv
    exact ⟨vb_true hv, he⟩
theorem F.osierref04_May_J {S : St} {l : Value} {xs : List Dot} (hl : SlT dotE S l xs) (hL : xs.length < 9223372036854775808) : J PR F.osierref04_May [l] S fun v S' => v = .bool (decide (isV xs)) ∧ S = S' := by
  obtain ⟨base, cap, rfl⟩ := hl.len dotE
  refine J_by PR.mixed F.osierref04_May.ok (by simp) ?_
  simp (disch := omega) only [go_sem, simprocAttr]
  refine wC_loop (fun n fr S' => ∃ (i : Nat), n = xs.length - i ∧ i ≤ xs.length ∧ S = S' ∧ fr 0 = .slice base xs.length cap ∧ fr 3 = .int .i64 (i : Nat) ∧ isV (xs.take i)) xs.length ⟨0, by simp (disch := omega) only [go_sem, simprocAttr]; exact ⟨by simp, by simp, by simp [isV_nil]⟩⟩ ?_
  rintro n fr S1 ⟨i, rfl, hi, rfl, h0, h3, hv⟩
  simp (disch := omega) only [go_sem, simprocAttr, F.osierref04_May.l0, h0, h3]
  refine wcond_dec (fun hlt => ?_) (fun hge => ?_)
  · have hlx : i < xs.length := by omega
    obtain ⟨b, off, rfl, hb, hx, hx1, -⟩ := hl.dotc hlx
    have c1 : (0 : Int) ≤ (i : Int) ∧ (i : Int) < (xs.length : Int) := by omega
    simp (disch := omega) only [go_sem, simprocAttr, h0, h3, c1, hx]
    refine wJ_of F.osierref03_May_P ?_; rintro _ _ ⟨rfl, rfl⟩
    by_cases hm : mayP xs[i]
    · simp (disch := omega) only [go_sem, simprocAttr, hm, h0, h3]
      refine wguard_dec (fun hp => ?_) (fun hp => ?_)
      · obtain ⟨j, rfl⟩ : ∃ j, i = j + 1 := ⟨i - 1, by omega⟩
        have hlj : j < xs.length := by omega
        obtain ⟨b', off', hbb, hb', hx', hx1', -⟩ := hl.dotc hlj
        simp only [Option.some.injEq, Addr.mk.injEq, and_true] at hbb
        obtain ⟨rfl, rfl⟩ := hbb
        have e1 : ((j + 1 : Nat) : Int) - 1 = (j : Int) := by omega
        have c2 : (0 : Int) ≤ (j : Int) ∧ (j : Int) < (xs.length : Int) := by omega
        simp (disch := omega) only [go_sem, simprocAttr, h0, h3, hp, c1, e1, c2, hx1, hx1']
        refine wcond_dec (fun hq => ?_) (fun hq => ?_)
        · simp (disch := omega) only [go_sem, simprocAttr]
          exact vb_false (not_isV_at hlx (.inr ⟨xs[j], List.mem_take_iff_getElem.2 ⟨j, by omega, rfl⟩, hq⟩))
        · simp (disch := omega) only [go_sem, simprocAttr, h0, h3]
          refine ⟨xs.length - (j + 1 + 1), by omega, j + 1 + 1, rfl, by omega, rfl, ?_⟩
          rw [take_snoc (List.getElem?_eq_getElem hlx), isV_snoc]
          refine ⟨hv, hm, fun e h => ?_⟩
          rw [take_snoc (List.getElem?_eq_getElem hlj)] at h hv
          rcases List.mem_append.1 h with h | h
          · have := (isV_snoc.1 hv).2.2 e h; omega
          · simp at h; subst h; omega
      · have hi0 : i = 0 := by omega
        subst hi0
        simp (disch := omega) only [go_sem, simprocAttr, h0, h3, hp]
        refine ⟨xs.length - 1, by omega, 1, rfl, by omega, rfl, ?_⟩
        rw [show (1 : Nat) = 0 + 1 from rfl, take_snoc (List.getElem?_eq_getElem hlx), isV_snoc]
        exact ⟨by simp [isV_nil], hm, by simp⟩
    · simp (disch := omega) only [go_sem, simprocAttr, hm, undef]
      exact vb_false (not_isV_at hlx (.inl hm))
  · simp (disch := omega) only [go_sem, simprocAttr]
    rw [List.take_of_length_le (by omega)] at hv
    exact vb_true hv

/-! ### Count -/
def sumV (xs : List Dot) : Int := (xs.map Prod.snd).sum
theorem sumV_snoc (v : List Dot) (x : Dot) : sumV (v ++ [x]) = sumV v + x.2 := by simp [sumV]
theorem sumV_range {v : List Dot} (h : isV v) : 0 ≤ sumV v ∧ sumV v ≤ v.length * 1073741824 := by
  induction v with
  | nil => simp [sumV]
  | cons d v ih =>
    obtain ⟨h1, -, h3⟩ := isV_cons.1 h
    have := ih h3
    unfold mayP at h1
    have e : sumV (d :: v) = d.2 + sumV v := by simp [sumV]
    rw [e, List.length_cons]
    omega
/-! ### Below, Same -/
theorem F.vector_Below_c1_J {S : St} {q : Nat} {d : Dot} {w : Value} {ys : List Dot} (hq : S.cell ⟨q, 0, none⟩ = some w) (hw : SlT dotE S w ys) (hqn : q < S.n) (hL : ys.length < 9223372036854775808) :
    J PR F.vector_Below_c1 [dotV d, .pointer (some ⟨q, 0, none⟩)] S fun v S' => v = .bool (decide (getV ys d.1 < d.2)) ∧ S = S' := by
  refine J.back (J_by PR.mixed F.vector_Below_c1.ok (by simp) ?_)
  simp (disch := omega) only [go_sem, simprocAttr]
  refine wfresh_of fun x hx => ?_
  simp (disch := omega) only [go_sem, simprocAttr, hq]
  have he := (St.Ext.refl S).put hx (.cells true 2 [.int .i64 d.1, .int .i64 d.2])
  refine wJ_of (F.vector_Get_J (hw.ext dotE he) hL) ?_; rintro _ _ ⟨rfl, rfl⟩
  simp (disch := omega) only [go_sem, simprocAttr]
  exact he
theorem F.vector_Below_J {S : St} {l k : Value} {xs ys : List Dot} (hl : SlT dotE S l xs) (hk : SlT dotE S k ys) (hL : xs.length < 9223372036854775808) (hL2 : ys.length < 9223372036854775808) :
    J PR F.vector_Below [l, k] S fun v S' => v = .bool (decide (belowP xs ys)) ∧ S = S' := by
  obtain ⟨base2, cap2, rfl⟩ := hk.len dotE
  refine J.back (J_by PR.mixed F.vector_Below.ok (by simp) ?_)
  simp (disch := omega) only [go_sem, simprocAttr]
  refine wfresh_of fun x hx => ?_
  simp (disch := omega) only [go_sem, simprocAttr]
  have he := (St.Ext.refl S).put hx (.cells true 1 [.slice base2 ys.length cap2])
  refine wJ_of (F.slices_ContainsFunc_J (p := fun d => decide (getV ys d.1 < d.2)) (hl.ext dotE he) ⟨_, _, _, rfl, F.vector_Below_c1.cl, fun y _ => F.vector_Below_c1_J (by simp (disch := omega) only [go_sem, simprocAttr]) (hk.ext dotE he) (St.lt_put_self ..) hL2⟩ hL) ?_; rintro _ _ ⟨rfl, rfl⟩
  simp (disch := omega) only [go_sem, simprocAttr]
  refine ⟨?_, he⟩
  congr 1
  by_cases h : belowP xs ys
  · rw [decide_eq_true h, Bool.not_eq_true', List.any_eq_false]
    intro d hd
    have := h d hd
    simp
    omega
  · rw [decide_eq_false h, Bool.not_eq_false', List.any_eq_true]
    unfold belowP at h
    simp only [Classical.not_forall] at h
    obtain ⟨d, hd, hlt⟩ := h
    exact ⟨d, hd, by simp; omega⟩
theorem F.osierref04_Below_J {S : St} {l k : Value} {xs ys : List Dot} (hl : SlT dotE S l xs) (hk : SlT dotE S k ys) (hL : xs.length < 9223372036854775808) (hL2 : ys.length < 9223372036854775808) :
    J PR F.osierref04_Below [l, k] S fun v S' => v = .bool (decide (belowP xs ys)) ∧ S = S' := by
  obtain ⟨base, cap, rfl⟩ := hl.len dotE
  refine J_by PR.mixed F.osierref04_Below.ok (by simp) ?_
  simp (disch := omega) only [go_sem, simprocAttr]
  refine wC_loop (fun n fr S' => ∃ (i : Nat), n = xs.length - i ∧ i ≤ xs.length ∧ S = S' ∧ fr 0 = .slice base xs.length cap ∧ fr 1 = k ∧ fr 5 = .int .i64 (i : Nat) ∧ belowP (xs.take i) ys) xs.length ⟨0, by simp (disch := omega) only [go_sem, simprocAttr]; exact ⟨by simp, by simp, by simp [belowP]⟩⟩ ?_
  rintro n fr S1 ⟨i, rfl, hi, rfl, h0, h1, h5, hn⟩
  simp (disch := omega) only [go_sem, simprocAttr, F.osierref04_Below.l0, h0, h1, h5]
  refine wcond_dec (fun hlt => ?_) (fun hge => ?_)
  · have hlx : i < xs.length := by omega
    obtain ⟨b, off, rfl, hb, -, hx1, hx2⟩ := hl.dotc hlx
    have c1 : (0 : Int) ≤ (i : Int) ∧ (i : Int) < (xs.length : Int) := by omega
    simp (disch := omega) only [go_sem, simprocAttr, h0, h1, h5, c1, hx1, hx2]
    refine wJ_of (F.osierref04_Get_J hk hL2) ?_; rintro _ _ ⟨rfl, rfl⟩
    simp (disch := omega) only [go_sem, simprocAttr, h0, h1, h5, c1, hx2]
    refine wcond_dec (fun hq => ?_) (fun hq => ?_)
    · simp (disch := omega) only [go_sem, simprocAttr]
      exact vb_false fun h => by have := h xs[i] (List.getElem_mem _); omega
    · simp (disch := omega) only [go_sem, simprocAttr, h0, h1, h5]
      refine ⟨xs.length - (i + 1), by omega, i + 1, rfl, by omega, rfl, fun d hd => ?_⟩
      rw [take_snoc (List.getElem?_eq_getElem hlx)] at hd
      rcases List.mem_append.1 hd with hd | hd
      · exact hn d hd
      · simp at hd; subst hd; omega
  · simp (disch := omega) only [go_sem, simprocAttr]
    rw [List.take_of_length_le (by omega)] at hn
    exact vb_true hn
theorem F.osierref04_Same_J {S : St} {l k : Value} {xs ys : List Dot} (hl : SlT dotE S l xs) (hk : SlT dotE S k ys) (hL : xs.length < 9223372036854775808) : J PR F.osierref04_Same [l, k] S fun v S' => v = .bool (decide (xs = ys)) ∧ S = S' := by
  obtain ⟨base, cap, rfl⟩ := hl.len dotE
  obtain ⟨base2, cap2, rfl⟩ := hk.len dotE
  refine J_by PR.mixed F.osierref04_Same.ok (by simp) ?_
  simp (disch := omega) only [go_sem, simprocAttr]
  refine wcond_ndec (fun h => ?_) (fun h => ?_)
  · simp (disch := omega) only [go_sem, simprocAttr]
    exact vb_false (fun e => h (by rw [e]))
  · have hlen : xs.length = ys.length := by omega
    simp (disch := omega) only [go_sem, simprocAttr]
    refine wC_loop (fun n fr S' => ∃ i, n = xs.length - i ∧ i ≤ xs.length ∧ S = S' ∧ fr 0 = .slice base xs.length cap ∧ fr 1 = .slice base2 ys.length cap2 ∧ (5 = 13 → fr 11 = .slice base xs.length cap ∧ fr 12 = .int .i64 xs.length) ∧ fr 5 = .int .i64 (i : Nat) ∧ xs.take i = ys.take i) xs.length ⟨0, by simp (disch := omega) only [go_sem, simprocAttr]; simp⟩ ?_
    rintro n fr S' ⟨i, rfl, hi, rfl, h0, h1, hh, h5, heq⟩
    simp only [Nat.reduceEqDiff, forall_const, false_implies, reduceCtorEq] at hh
    simp (disch := omega) only [go_sem, simprocAttr, F.osierref04_Same.l0, h0, h1, h5, hh]
    refine wcond_dec (fun hlt => ?_) (fun hge => ?_)
    · have hlx : i < xs.length := by omega
      have hly : i < ys.length := by omega
      obtain ⟨b, off, rfl, hb, hx⟩ := hl.dot hlx
      obtain ⟨c, off2, rfl, hc, hy⟩ := hk.dot hly
      have c1 : (0 : Int) ≤ (i : Int) ∧ (i : Int) < (xs.length : Int) := by omega
      have c2 : (i : Int) < (ys.length : Int) := by omega
      simp (disch := omega) only [go_sem, simprocAttr, h0, h1, h5, hh, c1, c2, hx, hy, eqV_dot]
      refine wcond_ndec (fun hq => ?_) (fun hq => ?_)
      · simp (disch := omega) only [go_sem, simprocAttr]
        exact vb_false (fun e => hq (by subst e; rfl))
      · simp (disch := omega) only [go_sem, simprocAttr, h0, h1, h5, hh]
        refine ⟨xs.length - (i + 1), by omega, i + 1, rfl, by omega, rfl, ?_⟩
        rw [take_snoc (List.getElem?_eq_getElem hlx), take_snoc (List.getElem?_eq_getElem hly), heq, hq]
    · simp (disch := omega) only [go_sem, simprocAttr]
      rw [List.take_of_length_le (by omega), List.take_of_length_le (by omega)] at heq
      exact vb_true heq
end Go.Osj

/- Contracts of layer 4: vectors made. -/
set_option linter.unusedSimpArgs false
namespace Go.Osj
theorem F.slices_Grow_api_Vector_api_Dot.J {S : St} {n : Nat} (hn : n < 1000000) : J PR F.slices_Grow_api_Vector_api_Dot [.slice none 0 0, .int .i64 n] S fun v S' => OwnT dotE S.n S' v [] ∧ S.Ext S' := by
  refine J_weak (J_by PR.mixed F.slices_Grow_api_Vector_api_Dot.ok (by simp) ?_)
  simp (disch := omega) only [go_sem, simprocAttr]
  have h0 : ¬ ((n : Int) < 0) := by omega
  simp (disch := omega) only [go_sem, simprocAttr, h0]
  refine wcond_dec (fun hp => ?_) (fun hp => ?_)
  · simp (disch := omega) only [go_sem, simprocAttr]
    have e1 : slV 2 (.slice none 0 0) none (some (.int .i64 0)) none = some (.slice none 0 0) := rfl
    simp (disch := omega) only [go_sem, simprocAttr, e1]
    unfold wE
    simp only [JE]
    refine ⟨by omega, by omega, by simp; omega, fun h => by omega, fun _ => ⟨[], by simp [St.loadSl], by omega, by omega, by omega, fun b c hb hc => ?_⟩⟩
    simp (disch := omega) only [go_sem, simprocAttr]
    have e2 : slV 2 (.slice (some ⟨b, 0, none⟩) n c) none (some (.int .i64 0)) none = some (.slice (some ⟨b, 0, none⟩) 0 c) := by
      simp only [slV, bndV, bndHV, Option.bind_some]
      rw [if_pos ⟨by omega, by omega⟩]
      simp
    simp (disch := omega) only [go_sem, simprocAttr, e2]
    refine ⟨_, fun c0 w hr => Rel.cut hr (St.put_same _ _ _) 0, ?_, ?_⟩
    · rw [St.put_put]
      exact OwnT.mk dotE (xs := []) hb (St.lt_put_self _ _ _) (Nat.zero_le _) (by rw [St.put_same]; rfl)
    · rw [St.put_put]
      exact (St.Ext.refl S).put hb _
  · simp (disch := omega) only [go_sem, simprocAttr]
    exact ⟨S, fun c0 w hr => hr, OwnT.nil .., St.Ext.refl _⟩
theorem F.slices_Concat_api_Vector_api_Dot.J {S : St} {y : Nat} {va vb : Value} {rw : Bool} {xs ys : List Dot} (hy : S.obj y = some (.cells rw 2 [va, vb])) (ha : SlT dotE S va xs) (hb : SlT dotE S vb ys) (hL : xs.length < 100000) (hL2 : ys.length < 100000) (hyn : y < S.n) :
    J PR F.slices_Concat_api_Vector_api_Dot [.slice (some ⟨y, 0, none⟩) 2 2] S fun v S' => OwnT dotE S.n S' v (xs ++ ys) ∧ S.Ext S' := by
  obtain ⟨ba, ca, rfl⟩ := ha.len dotE
  obtain ⟨bb, cb, rfl⟩ := hb.len dotE
  have l0 : S.cell ⟨y, 0, none⟩ = some (.slice ba xs.length ca) := by rw [St.cell_def, hy]; rfl
  have l1 : S.cell ⟨y, 1, none⟩ = some (.slice bb ys.length cb) := by rw [St.cell_def, hy]; rfl
  refine J_by PR.mixed F.slices_Concat_api_Vector_api_Dot.ok (by simp) ?_
  simp (disch := omega) only [go_sem, simprocAttr]
  refine wC_unroll ?_
  simp (disch := omega) only [go_sem, simprocAttr, F.slices_Concat_api_Vector_api_Dot.l0, l0]
  have c1 : ¬ ((xs.length : Int) < 0) := by omega
  have c2 : ¬ ((xs.length : Int) + (ys.length : Int) < 0) := by omega
  simp (disch := omega) only [go_sem, simprocAttr, c1]
  refine wC_unroll ?_
  simp (disch := omega) only [go_sem, simprocAttr, F.slices_Concat_api_Vector_api_Dot.l0, l1, c2]
  refine wC_unroll ?_
  simp (disch := omega) only [go_sem, simprocAttr, F.slices_Concat_api_Vector_api_Dot.l0]
  rw [show ((xs.length : Int) + (ys.length : Int)) = ((xs.length + ys.length : Nat) : Int) by omega]
  refine wJ_of (F.slices_Grow_api_Vector_api_Dot.J (n := xs.length + ys.length) (by omega)) ?_
  rintro v S1 ⟨ho, he⟩
  have l0' : S1.cell ⟨y, 0, none⟩ = _ := (he.cell hyn 0).trans l0
  simp (disch := omega) only [go_sem, simprocAttr]
  refine wC_unroll ?_
  simp (disch := omega) only [go_sem, simprocAttr, F.slices_Concat_api_Vector_api_Dot.l1, l0']
  refine wE_app dotE ho (ha.ext dotE he) rfl rfl he.n (by simp; omega) (by simp; omega) fun v2 S2 ho2 hb2 hv2 => ?_
  have hf1 : ∀ j, blkOf v = some j → S.n ≤ j := fun j hj => (ho.blk dotE j hj).1
  have he2 := he.but hb2 hf1
  have l1' : S2.cell ⟨y, 1, none⟩ = _ := (he2.cell hyn 1).trans l1
  simp (disch := omega) only [go_sem, simprocAttr]
  refine wC_unroll ?_
  simp (disch := omega) only [go_sem, simprocAttr, F.slices_Concat_api_Vector_api_Dot.l1, l1']
  refine wE_app dotE ho2 (hb.ext dotE he2) rfl rfl he2.n (by simp; omega) (by simp; omega) fun v3 S3 ho3 hb3 hv3 => ?_
  have hf2 : ∀ j, blkOf v2 = some j → S.n ≤ j := fun j hj => (ho2.blk dotE j hj).1
  simp (disch := omega) only [go_sem, simprocAttr]
  refine wC_unroll ?_
  simp (disch := omega) only [go_sem, simprocAttr, F.slices_Concat_api_Vector_api_Dot.l1]
  exact ⟨by simpa using ho3, he2.but hb3 hf2⟩
theorem F.slices_Clone_api_Vector_api_Dot_J {S : St} {l : Value} {xs : List Dot} (hl : SlT dotE S l xs) (hL : xs.length < 100000) : J PR F.slices_Clone_api_Vector_api_Dot [l] S fun v S' => OwnT dotE S.n S' v xs ∧ S.Ext S' := by
  obtain ⟨base, cap, rfl⟩ := hl.len dotE
  refine J_by PR.mixed F.slices_Clone_api_Vector_api_Dot.ok (by simp) ?_
  cases base with
  | none =>
    obtain ⟨b2, c2, he, h1, h2, h3⟩ := hl
    injection he with e1 e2 e3
    subst e1 e3
    simp only [okB] at h2
    have hx : xs = [] := List.eq_nil_of_length_eq_zero (by omega)
    subst hx
    simp (disch := omega) only [go_sem, simprocAttr, eqN, Option.isNone_none]
    exact ⟨OwnT.nil .., St.Ext.refl _⟩
  | some a =>
    simp (disch := omega) only [go_sem, simprocAttr, eqN]
    refine wfresh_of fun y hy => ?_
    simp (disch := omega) only [go_sem, simprocAttr]
    have he := (St.Ext.refl S).put hy (.cells true 0 [])
    refine wE_app dotE (OwnT.mk dotE (xs := []) hy (St.lt_put_self _ _ _) (Nat.le_refl 0) (St.put_same _ _ _)) (hl.ext dotE he) rfl rfl (by rw [St.put_n]; omega) (by first | omega | (simp; done) | (simp; omega)) (by first | omega | (simp; done) | (simp; omega)) fun v S1 ho hb hv => ?_
    simp (disch := omega) only [go_sem, simprocAttr]
    exact ⟨by simpa using ho, he.but hb (by simp only [blkOf]; rintro i ⟨⟩; exact hy)⟩

/-- a function value of two numbers that only counts -/
def FunI (f : Value) (c : Int → Int → Int) : Prop :=
  ∃ g first captured, f = .func (.func g) first captured ∧ callable PR g = true ∧ ∀ S x y, J PR g (first.toList ++ [.int .i64 x, .int .i64 y] ++ captured.toList) S fun v S' => v = .int .i64 (c x y) ∧ S = S'
theorem FunI.call {S : St} {f : Value} {c : Int → Int → Int} (h : FunI f c) {x y : Int} {k : KV} (hk : k.run (.int .i64 (c x y)) S) : @wcallv PR f [.int .i64 x, .int .i64 y] S k := by
  obtain ⟨g, first, captured, rfl, hc, hj⟩ := h
  exact ⟨hc, (hj S x y).mono fun v S' ⟨h1, h2⟩ => by subst h1 h2; exact hk⟩
theorem funI_join : FunI (.func (.func F.vector_Join_c1) #[] #[]) max := by
  refine ⟨_, _, _, rfl, F.vector_Join_c1.cl, fun S x y => J_by PR.mixed F.vector_Join_c1.ok (by simp) ?_⟩
  show wC (q := _) PR F.vector_Join_c1.ic (mkFr [.int .i64 x, .int .i64 y]) S
  simp (disch := omega) only [go_sem, simprocAttr]
/-! ### each -/
/-- what is made of the first so many -/
structure EachI (c : Int → Int → Int) (xs ys rs out : List Dot) : Prop where
  is : isV out
  src : ∀ e ∈ out, ∃ d ∈ rs, e.1 = d.1
  val : ∀ e ∈ out, e.2 = c (getV xs e.1) (getV ys e.1)
  all : ∀ d ∈ rs, 0 < c (getV xs d.1) (getV ys d.1) → ∃ e ∈ out, e.1 = d.1
theorem EachI.nil {c : Int → Int → Int} {xs ys : List Dot} : EachI c xs ys [] [] := ⟨isV_nil, by simp, by simp, by simp⟩
theorem choice_may {c : Int → Int → Int} (hc : Choice c) {xs ys : List Dot} (hx : isV xs) (hy : isV ys) {a : Int} (h : 0 < c (getV xs a) (getV ys a)) : mayP (a, c (getV xs a) (getV ys a)) := by
  rcases hc.one (getV xs a) (getV ys a) with h1 | h1
  · rw [h1] at h ⊢
    have h2 := getV_range hx a
    have h3 := getV_act hx (a := a) (by omega)
    unfold mayP; simp only; omega
  · rw [h1] at h ⊢
    have h2 := getV_range hy a
    have h3 := getV_act hy (a := a) (by omega)
    unfold mayP; simp only; omega
theorem EachI.put {c : Int → Int → Int} (hc : Choice c) {xs ys rs out : List Dot} (hx : isV xs) (hy : isV ys) (h : EachI c xs ys rs out) {d : Dot} (hp : 0 < c (getV xs d.1) (getV ys d.1)) (hlt : ∀ e ∈ out, e.1 < d.1) : EachI c xs ys (rs ++ [d]) (out ++ [(d.1, c (getV xs d.1) (getV ys d.1))]) := by
  refine ⟨isV_snoc.2 ⟨h.is, choice_may hc hx hy hp, hlt⟩, fun e he => ?_, fun e he => ?_, fun q hq hpos => ?_⟩
  · rcases List.mem_append.1 he with he | he
    · obtain ⟨q, h1, h2⟩ := h.src e he
      exact ⟨q, by simp [h1], h2⟩
    · simp at he; subst he; exact ⟨d, by simp, rfl⟩
  · rcases List.mem_append.1 he with he | he
    · exact h.val e he
    · simp at he; subst he; rfl
  · rcases List.mem_append.1 hq with hq | hq
    · obtain ⟨e, h1, h2⟩ := h.all q hq hpos
      exact ⟨e, by simp [h1], h2⟩
    · simp at hq; subst hq; exact ⟨_, List.mem_append_right _ (List.mem_singleton_self _), rfl⟩
theorem EachI.skip {c : Int → Int → Int} {xs ys rs out : List Dot} (h : EachI c xs ys rs out) {d : Dot} (hs : 0 < c (getV xs d.1) (getV ys d.1) → ∃ e ∈ out, e.1 = d.1) : EachI c xs ys (rs ++ [d]) out := by
  refine ⟨h.is, fun e he => ?_, h.val, fun q hq hpos => ?_⟩
  · obtain ⟨q, h1, h2⟩ := h.src e he
    exact ⟨q, by simp [h1], h2⟩
  · rcases List.mem_append.1 hq with hq | hq
    · exact h.all q hq hpos
    · simp at hq; subst hq; exact hs hpos
theorem EachI.eq {c : Int → Int → Int} (hc : Choice c) {xs ys rs out : List Dot} (hx : isV xs) (hy : isV ys) (hr : ∀ d, d ∈ xs ++ ys → ∃ r ∈ rs, r.1 = d.1) (h : EachI c xs ys rs out) : out = eachV c xs ys := by
  refine eachV_eq hc hx hy h.is fun a => ?_
  have hr1 := getV_range hx a
  have hr2 := getV_range hy a
  have hfr : 0 ≤ c (getV xs a) (getV ys a) := by rcases hc.one (getV xs a) (getV ys a) with h | h <;> omega
  by_cases hp : 0 < c (getV xs a) (getV ys a)
  · have : ∃ d ∈ rs, d.1 = a := by
      by_cases h1 : getV xs a = 0
      · by_cases h2 : getV ys a = 0
        · rw [h1, h2, hc.zero] at hp; omega
        · exact hr _ (List.mem_append_right _ (mem_getV h2))
      · exact hr _ (List.mem_append_left _ (mem_getV h1))
    obtain ⟨d, hd, rfl⟩ := this
    obtain ⟨e, he, hed⟩ := h.all d hd hp
    rw [← hed, getV_mem h.is he, h.val e he]
  · by_cases h0 : getV out a = 0
    · omega
    · have hm := mem_getV h0
      have h1 := h.val _ hm
      simp only at h1
      have h2 := h.is.2 _ hm
      unfold mayP at h2
      simp only at h2
      omega

theorem isV_last {v : List Dot} (h : isV v) {j : Nat} (hj : j < v.length) (hl : j + 1 = v.length) : ∀ e ∈ v, e.1 ≤ v[j].1 := by
  intro e he
  obtain ⟨k, hk, rfl⟩ := List.mem_iff_getElem.1 he
  by_cases hkj : k = j
  · subst hkj; exact Int.le_refl _
  · have := List.pairwise_iff_getElem.1 h.1 k j hk hj (by omega)
    omega
theorem F.vector_each_J {S : St} {l k f : Value} {c : Int → Int → Int} {xs ys : List Dot} (hc : Choice c) (hf : FunI f c) (hl : SlT dotE S l xs) (hk : SlT dotE S k ys) (hx : isV xs) (hy : isV ys) (hL : xs.length < 20000) (hL2 : ys.length < 20000) :
    J PR F.vector_each [l, k, f] S fun v S' => OwnT dotE S.n S' v (eachV c xs ys) ∧ S.Ext S' := by
  obtain ⟨ba, ca, rfl⟩ := hl.len dotE
  obtain ⟨bb, cb, rfl⟩ := hk.len dotE
  refine J_by PR.mixed F.vector_each.ok (by simp) ?_
  simp (disch := omega) only [go_sem, simprocAttr]
  refine wfresh_of fun y hyf => ?_
  simp (disch := omega) only [go_sem, simprocAttr]
  refine wfresh_of fun z hz => ?_
  simp (disch := omega) only [go_sem, simprocAttr]
  have he1 := (St.Ext.refl S).put hyf (.cells true 0 [])
  have he2 := he1.put hz (.cells true 2 [.slice ba xs.length ca, .slice bb ys.length cb])
  have ho1 : OwnT dotE S.n (S.put y (.cells true 0 [])) (.slice (some ⟨y, 0, none⟩) 0 0) [] := OwnT.mk dotE (xs := []) hyf (St.lt_put_self _ _ _) (Nat.le_refl 0) (St.put_same _ _ _)
  have ho2 := ho1.ext dotE ((St.Ext.refl _).put hz (.cells true 2 [.slice ba xs.length ca, .slice bb ys.length cb]))
  refine wJ_of (F.slices_Concat_api_Vector_api_Dot.J (St.put_same ..) (hl.ext dotE he2) (hk.ext dotE he2) (by omega) (by omega) (St.lt_put_self ..)) ?_
  rintro v3 S3 ⟨ho3, he3⟩
  simp (disch := omega) only [go_sem, simprocAttr]
  refine wJ_of (F.dots_Rising.J (ho3.sl dotE) (by first | omega | (simp; done) | (simp; omega))) ?_
  rintro v4 S4 ⟨ho4, he4⟩
  have e4 := (he2.trans he3).trans he4
  have hrl := risen_len (xs ++ ys)
  rw [List.length_append] at hrl
  have hris := risen_ris (xs ++ ys)
  have hown := (ho2.ext dotE he3).ext dotE he4
  have hB4 := ho4.blk dotE
  have hn3 := he3.n
  obtain ⟨br, cr, rfl⟩ := (ho4.sl dotE).len dotE
  have hyn : y < S4.n := by have := hown.blk dotE y rfl; omega
  have hyS3 : y < S3.n := by have h := (ho2.ext dotE he3).blk dotE y rfl; omega
  simp (disch := omega) only [go_sem, simprocAttr]
  generalize risen (xs ++ ys) = rs at ho4 hrl hris hB4
  refine wC_loop (fun n fr S' => ∃ (i : Nat) (v : Value) (out : List Dot), n = rs.length - i ∧ i ≤ rs.length ∧ fr 0 = .slice ba xs.length ca ∧ fr 1 = .slice bb ys.length cb ∧ fr 2 = f ∧ fr 7 = v ∧ fr 16 = .slice br rs.length cr ∧ fr 17 = .int .i64 rs.length ∧ fr 18 = .int .i64 (i : Nat) ∧
    S.Ext S' ∧ OwnT dotE S.n S' v out ∧ SlT dotE S' (.slice br rs.length cr) rs ∧ EachI c xs ys (rs.take i) out ∧ out.length ≤ i ∧ S4.n ≤ S'.n ∧ (∀ q, blkOf v = some q → q < S3.n ∨ S4.n ≤ q)) rs.length
    ⟨0, .slice (some ⟨y, 0, none⟩) 0 0, [], by simp (disch := omega) only [go_sem, simprocAttr]; exact ⟨by simp, by simp, e4, hown, ho4.sl dotE, EachI.nil, Nat.le_refl _, by simp only [blkOf]; rintro q ⟨⟩; exact .inl hyS3⟩⟩ ?_
  rintro n fr S5 ⟨i, v, out, rfl, hi, h0, h1, h2, h7, h16, h17, h18, he5, ho5, hs5, hI, hol, hn5, hbv⟩
  simp (disch := omega) only [go_sem, simprocAttr, F.vector_each.l0, h0, h1, h2, h7, h16, h17, h18]
  refine wcond_dec (fun hlt => ?_) (fun hge => ?_)
  · have hlx : i < rs.length := by omega
    obtain ⟨b, off, rfl, hb, hx0⟩ := hs5.dot hlx
    have c1 : (0 : Int) ≤ (i : Int) ∧ (i : Int) < (rs.length : Int) := by omega
    simp (disch := omega) only [go_sem, simprocAttr, h0, h1, h2, h7, h16, h17, h18, c1, hx0]
    refine wfresh_of fun w hw => ?_
    simp (disch := omega) only [go_sem, simprocAttr, h0, h1, h2, h7, h16, h17, h18]
    have he6 := (St.Ext.refl S5).put hw (.cells true 2 [.int .i64 rs[i].1, .int .i64 rs[i].2])
    have e6 := he5.trans he6
    refine wJ_of (F.vector_Get_J (hl.ext dotE e6) (by omega)) ?_; rintro _ _ ⟨rfl, rfl⟩
    simp (disch := omega) only [go_sem, simprocAttr, h0, h1, h2, h7, h16, h17, h18]
    refine wJ_of (F.vector_Get_J (hk.ext dotE e6) (by omega)) ?_; rintro _ _ ⟨rfl, rfl⟩
    simp (disch := omega) only [go_sem, simprocAttr, h0, h1, h2, h7, h16, h17, h18]
    refine hf.call ?_
    have hg1 := getV_range hx rs[i].1
    have hg2 := getV_range hy rs[i].1
    have hcr : 0 ≤ c (getV xs rs[i].1) (getV ys rs[i].1) ∧ c (getV xs rs[i].1) (getV ys rs[i].1) ≤ 1073741824 := by rcases hc.one (getV xs rs[i].1) (getV ys rs[i].1) with h | h <;> rw [h] <;> omega
    have htk := take_snoc (List.getElem?_eq_getElem hlx)
    have hmono : ∀ e ∈ out, e.1 ≤ rs[i].1 := by
      intro e he
      obtain ⟨d, hd, hde⟩ := hI.src e he
      obtain ⟨k, hk, rfl⟩ := List.mem_iff_getElem.1 hd
      simp only [List.length_take] at hk
      have := List.pairwise_iff_getElem.1 hris.1 k i (by omega) hlx (by omega)
      simp only [List.getElem_take] at hde
      unfold lessP at this
      omega
    obtain ⟨bo, co, rfl⟩ := (ho5.sl dotE).len dotE
    have hn6 := he6.n
    by_cases hp : 0 < c (getV xs rs[i].1) (getV ys rs[i].1)
    rotate_left
    · simp (disch := omega) only [go_sem, simprocAttr, h0, h1, h2, h7, h16, h17, h18, hp]
      exact ⟨rs.length - (i + 1), by omega, i + 1, _, out, rfl, by omega, rfl, rfl, e6, ho5.ext dotE he6, hs5.ext dotE he6, by rw [htk]; exact hI.skip fun h => absurd h hp, by omega, by omega, hbv⟩
    -- one is put in
    by_cases hz0 : out.length = 0
    · have ho0 : out = [] := List.eq_nil_of_length_eq_zero hz0
      subst ho0
      simp (disch := omega) only [go_sem, simprocAttr, h0, h1, h2, h7, h16, h17, h18, hp, List.length_nil]
      refine wfresh_of fun u hu => ?_
      simp (disch := omega) only [go_sem, simprocAttr, h0, h1, h2, h7, h16, h17, h18]
      have he7 := he6.put hu (.cells true 2 [.int .i64 rs[i].1, .int .i64 (c (getV xs rs[i].1) (getV ys rs[i].1))])
      have e7 := he5.trans he7
      have hn7 := he7.n
      refine wE_app dotE (ys := [(rs[i].1, c (getV xs rs[i].1) (getV ys rs[i].1))]) (ho5.ext dotE he7) (SlT.lit dotE (xs := [(rs[i].1, c (getV xs rs[i].1) (getV ys rs[i].1))])) rfl rfl e7.n (by first | omega | (simp; done) | (simp; omega)) (by first | omega | (simp; done) | (simp; omega)) fun v8 S8 ho8 hb8 hv8 => ?_
      have hn8 := hb8.n
      simp (disch := omega) only [go_sem, simprocAttr, h0, h1, h2, h7, h16, h17, h18]
      refine ⟨rs.length - (i + 1), by omega, i + 1, _, _, rfl, by omega, rfl, rfl, e7.but hb8 (ho5.fresh dotE), ho8, (hs5.ext dotE he7).but dotE hb8 (fun q hq he => ?_), by rw [htk]; exact hI.put hc hx hy hp (by simp), (by first | omega | (simp; done) | (simp; omega)), by omega, fun q hq => ?_⟩
      · have h1 := hB4 q hq
        have h2 := hbv q he
        omega
      · rcases hv8 with h | ⟨b8, h, hb8⟩
        · exact hbv q (by rw [← h]; exact hq)
        · rw [h] at hq; injection hq with hq; omega
    · have hz1 : ¬ ((out.length : Int) = 0) := by omega
      obtain ⟨j, hj⟩ : ∃ j, j + 1 = out.length := ⟨out.length - 1, by omega⟩
      have hlj : j < out.length := by omega
      obtain ⟨b2, off2, rfl, hb2, -, hx2, -⟩ := (ho5.sl dotE).dotc hlj
      have e1 : (out.length : Int) - 1 = (j : Int) := by omega
      have c2 : (0 : Int) ≤ (j : Int) ∧ (j : Int) < (out.length : Int) := by omega
      simp (disch := omega) only [go_sem, simprocAttr, h0, h1, h2, h7, h16, h17, h18, hp, hz1, e1, c2, hx2]
      refine wcond_dec (fun hq => ?_) (fun hq => ?_)
      · simp (disch := omega) only [go_sem, simprocAttr, h0, h1, h2, h7, h16, h17, h18]
        refine wfresh_of fun u hu => ?_
        simp (disch := omega) only [go_sem, simprocAttr, h0, h1, h2, h7, h16, h17, h18]
        have he7 := he6.put hu (.cells true 2 [.int .i64 rs[i].1, .int .i64 (c (getV xs rs[i].1) (getV ys rs[i].1))])
        have e7 := he5.trans he7
        have hn7 := he7.n
        refine wE_app dotE (ys := [(rs[i].1, c (getV xs rs[i].1) (getV ys rs[i].1))]) (ho5.ext dotE he7) (SlT.lit dotE (xs := [(rs[i].1, c (getV xs rs[i].1) (getV ys rs[i].1))])) rfl rfl e7.n (by first | omega | (simp; done) | (simp; omega)) (by first | omega | (simp; done) | (simp; omega)) fun v8 S8 ho8 hb8 hv8 => ?_
        have hn8 := hb8.n
        simp (disch := omega) only [go_sem, simprocAttr, h0, h1, h2, h7, h16, h17, h18]
        refine ⟨rs.length - (i + 1), by omega, i + 1, _, _, rfl, by omega, rfl, rfl, e7.but hb8 (ho5.fresh dotE), ho8, (hs5.ext dotE he7).but dotE hb8 (fun q hq he => ?_), by rw [htk]; exact hI.put hc hx hy hp (fun e he => by have := isV_last hI.is hlj hj e he; omega), (by first | omega | (simp; done) | (simp; omega)), by omega, fun q hq => ?_⟩
        · have h1 := hB4 q hq
          have h2 := hbv q he
          omega
        · rcases hv8 with h | ⟨b8, h, hb8⟩
          · exact hbv q (by rw [← h]; exact hq)
          · rw [h] at hq; injection hq with hq; omega
      · simp (disch := omega) only [go_sem, simprocAttr, h0, h1, h2, h7, h16, h17, h18]
        exact ⟨rs.length - (i + 1), by omega, i + 1, _, out, rfl, by omega, rfl, rfl, e6, ho5.ext dotE he6, hs5.ext dotE he6, by rw [htk]; exact hI.skip fun _ => ⟨out[j], List.getElem_mem _, by have := hmono _ (List.getElem_mem hlj); omega⟩, by omega, by omega, hbv⟩
  · simp (disch := omega) only [go_sem, simprocAttr, h7]
    rw [List.take_of_length_le (by omega)] at hI
    rw [hI.eq hc hx hy fun d hd => ⟨d, (hris.2 d).2 hd, rfl⟩] at ho5
    exact ⟨ho5, he5⟩
end Go.Osj

/- Contracts of layer 4: joins, With, Made, Missing. -/
set_option linter.unusedSimpArgs false
namespace Go.Osj
theorem F.vector_Join_J {S : St} {l k : Value} {xs ys : List Dot} (hl : SlT dotE S l xs) (hk : SlT dotE S k ys) (hx : isV xs) (hy : isV ys) (hL : xs.length < 20000) (hL2 : ys.length < 20000) :
    J PR F.vector_Join [l, k] S fun v S' => OwnT dotE S.n S' v (joinV xs ys) ∧ S.Ext S' := by
  refine J_by PR.mixed F.vector_Join.ok (by simp) ?_
  simp (disch := omega) only [go_sem, simprocAttr]
  refine wJ_of (F.vector_each_J choice_max funI_join hl hk hx hy hL hL2) ?_; rintro v S1 ⟨ho, he⟩
  simp (disch := omega) only [go_sem, simprocAttr]
  exact ⟨ho, he⟩
theorem F.vector_With_J {S : St} {l : Value} {xs : List Dot} {d : Dot} (hl : SlT dotE S l xs) (hx : isV xs) (hL : xs.length < 20000) :
    J PR F.vector_With [l, dotV d] S fun v S' => OwnT dotE S.n S' v (withV xs d) ∧ S.Ext S' := by
  refine J_by PR.mixed F.vector_With.ok (by simp) ?_
  simp (disch := omega) only [go_sem, simprocAttr]
  refine wfresh_of fun x hx' => ?_
  simp (disch := omega) only [go_sem, simprocAttr]
  have he := (St.Ext.refl S).put hx' (.cells true 2 [.int .i64 d.1, .int .i64 d.2])
  refine wJ_of F.dots_May_P ?_; rintro _ _ ⟨rfl, rfl⟩
  unfold withV
  by_cases hm : mayP d
  · simp (disch := omega) only [go_sem, simprocAttr, hm]
    refine wfresh_of fun y hy => ?_
    simp (disch := omega) only [go_sem, simprocAttr]
    have he2 := he.put hy (.cells true 2 [.int .i64 d.1, .int .i64 d.2])
    refine wJ_of (F.vector_Join_J (ys := [d]) (hl.ext dotE he2) (SlT.lit dotE (xs := [d])) hx (isV_one hm) hL (by simp)) ?_; rintro v S1 ⟨ho, he3⟩
    simp (disch := omega) only [go_sem, simprocAttr]
    rw [if_pos hm]
    exact ⟨ho.mono dotE he2.n, he2.trans he3⟩
  · simp (disch := omega) only [go_sem, simprocAttr, hm]
    refine wJ_of (F.slices_Clone_api_Vector_api_Dot_J (hl.ext dotE he) (by omega)) ?_; rintro v S1 ⟨ho, he3⟩
    simp (disch := omega) only [go_sem, simprocAttr]
    rw [if_neg hm]
    exact ⟨ho.mono dotE he.n, he.trans he3⟩

/-! ### the reference's join -/
def intE : Enc Int := ⟨fun a => [.int .i64 a], 1, fun _ => rfl, fun _ => rfl, by decide⟩
theorem SlT.int {S : St} {base : Option Addr} {n cap : Nat} {xs : List Int} (h : SlT intE S (.slice base n cap) xs) {i : Nat} (hi : i < xs.length) :
    ∃ b off, base = some ⟨b, off, none⟩ ∧ b < S.n ∧ S.cell ⟨b, off + i, none⟩ = some (.int .i64 xs[i]) := by
  obtain ⟨b, off, h1, h2, h3, h4⟩ := h.at intE (i := i) (x := xs[i]) (by simp)
  exact ⟨b, off, h1, h2, by simpa [intE] using h4 0 (by decide)⟩
/-- the actors of the first so many of both, rising -/
structure ActsI (xs ys : List Dot) (i k : Nat) (out : List Int) : Prop where
  lt : out.Pairwise (· < ·)
  mem : ∀ a, a ∈ out ↔ (∃ d ∈ xs.take i, d.1 = a) ∨ ∃ d ∈ ys.take k, d.1 = a
  ax : ∀ a ∈ out, ∀ h : i < xs.length, a < xs[i].1
  ay : ∀ a ∈ out, ∀ h : k < ys.length, a < ys[k].1
  len : out.length ≤ i + k
theorem isV_lt {v : List Dot} (h : isV v) {i j : Nat} (hj : j < v.length) (hij : i < j) : (v[i]'(by omega)).1 < v[j].1 := List.pairwise_iff_getElem.1 h.1 i j (by omega) hj hij
theorem pw_snoc {out : List Int} {a : Int} (h : out.Pairwise (· < ·)) (ha : ∀ b ∈ out, b < a) : (out ++ [a]).Pairwise (· < ·) := by
  rw [List.pairwise_append]
  exact ⟨h, by simp, fun b hb c hc => by simp at hc; subst hc; exact ha b hb⟩
theorem ActsI.left {xs ys : List Dot} {i k : Nat} {out : List Int} (hx : isV xs) (h : ActsI xs ys i k out) (hi : i < xs.length) (hlt : ∀ h : k < ys.length, xs[i].1 < ys[k].1) : ActsI xs ys (i + 1) k (out ++ [xs[i].1]) := by
  refine ⟨pw_snoc h.lt fun b hb => h.ax b hb hi, fun a => ?_, fun a ha hi2 => ?_, fun a ha hk => ?_, by have := h.len; simp; omega⟩
  · rw [List.mem_append, h.mem, take_snoc (List.getElem?_eq_getElem hi)]
    simp only [List.mem_append, List.mem_singleton]
    constructor
    · rintro ((⟨d, h1, h2⟩ | h1) | h1)
      · exact .inl ⟨d, .inl h1, h2⟩
      · exact .inr h1
      · exact .inl ⟨xs[i], .inr rfl, h1.symm⟩
    · rintro (⟨d, h1 | h1, h2⟩ | h1)
      · exact .inl (.inl ⟨d, h1, h2⟩)
      · subst h1; exact .inr h2.symm
      · exact .inl (.inr h1)
  · have h1 := isV_lt hx hi2 (Nat.lt_succ_self i)
    rcases List.mem_append.1 ha with ha | ha
    · have := h.ax a ha hi; omega
    · simp at ha; subst ha; exact h1
  · rcases List.mem_append.1 ha with ha | ha
    · exact h.ay a ha hk
    · simp at ha; subst ha; exact hlt hk
theorem ActsI.right {xs ys : List Dot} {i k : Nat} {out : List Int} (hy : isV ys) (h : ActsI xs ys i k out) (hk : k < ys.length) (hlt : ∀ h : i < xs.length, ys[k].1 < xs[i].1) : ActsI xs ys i (k + 1) (out ++ [ys[k].1]) := by
  refine ⟨pw_snoc h.lt fun b hb => h.ay b hb hk, fun a => ?_, fun a ha hi => ?_, fun a ha hk2 => ?_, by have := h.len; simp; omega⟩
  · rw [List.mem_append, h.mem, take_snoc (List.getElem?_eq_getElem hk)]
    simp only [List.mem_append, List.mem_singleton]
    constructor
    · rintro ((h1 | ⟨d, h1, h2⟩) | h1)
      · exact .inl h1
      · exact .inr ⟨d, .inl h1, h2⟩
      · exact .inr ⟨ys[k], .inr rfl, h1.symm⟩
    · rintro (h1 | ⟨d, h1 | h1, h2⟩)
      · exact .inl (.inl h1)
      · exact .inl (.inr ⟨d, h1, h2⟩)
      · subst h1; exact .inr h2.symm
  · rcases List.mem_append.1 ha with ha | ha
    · exact h.ax a ha hi
    · simp at ha; subst ha; exact hlt hi
  · have h1 := isV_lt hy hk2 (Nat.lt_succ_self k)
    rcases List.mem_append.1 ha with ha | ha
    · have := h.ay a ha hk; omega
    · simp at ha; subst ha; exact h1
theorem ActsI.both {xs ys : List Dot} {i k : Nat} {out : List Int} (hx : isV xs) (hy : isV ys) (h : ActsI xs ys i k out) (hi : i < xs.length) (hk : k < ys.length) (heq : xs[i].1 = ys[k].1) : ActsI xs ys (i + 1) (k + 1) (out ++ [xs[i].1]) := by
  refine ⟨pw_snoc h.lt fun b hb => h.ax b hb hi, fun a => ?_, fun a ha hi2 => ?_, fun a ha hk2 => ?_, by have := h.len; simp; omega⟩
  · rw [List.mem_append, h.mem, take_snoc (List.getElem?_eq_getElem hk), take_snoc (List.getElem?_eq_getElem hi)]
    simp only [List.mem_append, List.mem_singleton]
    constructor
    · rintro ((⟨d, h1, h2⟩ | ⟨d, h1, h2⟩) | h1)
      · exact .inl ⟨d, .inl h1, h2⟩
      · exact .inr ⟨d, .inl h1, h2⟩
      · exact .inl ⟨xs[i], .inr rfl, h1.symm⟩
    · rintro (⟨d, h1 | h1, h2⟩ | ⟨d, h1 | h1, h2⟩)
      · exact .inl (.inl ⟨d, h1, h2⟩)
      · subst h1; exact .inr h2.symm
      · exact .inl (.inr ⟨d, h1, h2⟩)
      · subst h1; exact .inr (by omega)
  · have h1 := isV_lt hx hi2 (Nat.lt_succ_self i)
    rcases List.mem_append.1 ha with ha | ha
    · have := h.ax a ha hi; omega
    · simp at ha; subst ha; exact h1
  · have h1 := isV_lt hy hk2 (Nat.lt_succ_self k)
    rcases List.mem_append.1 ha with ha | ha
    · have := h.ay a ha hk; omega
    · simp at ha; subst ha; omega

theorem F.osierref04_acts_J {S : St} {l k : Value} {xs ys : List Dot} (hl : SlT dotE S l xs) (hk : SlT dotE S k ys) (hx : isV xs) (hy : isV ys) (hL : xs.length < 20000) (hL2 : ys.length < 20000) :
    J PR F.osierref04_acts [l, k] S fun v S' => (∃ ks, OwnT intE S.n S' v ks ∧ ActsI xs ys xs.length ys.length ks) ∧ S.Ext S' := by
  obtain ⟨ba, ca, rfl⟩ := hl.len dotE
  obtain ⟨bb, cb, rfl⟩ := hk.len dotE
  refine J_by PR.mixed F.osierref04_acts.ok (by simp) ?_
  simp (disch := omega) only [go_sem, simprocAttr]
  refine wC_loop (fun n fr S' => ∃ (i k : Nat) (v : Value) (out : List Int), n = (xs.length - i) + (ys.length - k) ∧ i ≤ xs.length ∧ k ≤ ys.length ∧ fr 0 = .slice ba xs.length ca ∧ fr 1 = .slice bb ys.length cb ∧ fr 5 = v ∧ fr 6 = .int .i64 (i : Nat) ∧ fr 7 = .int .i64 (k : Nat) ∧
    S.Ext S' ∧ OwnT intE S.n S' v out ∧ ActsI xs ys i k out) (xs.length + ys.length)
    ⟨0, 0, .slice none 0 0, [], by simp (disch := omega) only [go_sem, simprocAttr]; exact ⟨by simp, by simp, by simp, St.Ext.refl _, OwnT.nil .., by simp, by simp, by simp, by simp, by simp⟩⟩ ?_
  rintro n fr S5 ⟨i, k, v, out, rfl, hi, hkk, h0, h1, h5, h6, h7, he, ho, hA⟩
  have hol := hA.len
  by_cases hli : i < xs.length
  · obtain ⟨b, off, rfl, hb, -, hxi, -⟩ := (hl.ext dotE he).dotc hli
    have c1 : (0 : Int) ≤ (i : Int) ∧ (i : Int) < (xs.length : Int) := by omega
    have ci : (i : Int) < (xs.length : Int) := by omega
    by_cases hlk : k < ys.length
    · obtain ⟨b2, off2, rfl, hb2, -, hyk, -⟩ := (hk.ext dotE he).dotc hlk
      have c2 : (0 : Int) ≤ (k : Int) ∧ (k : Int) < (ys.length : Int) := by omega
      have ck : (k : Int) < (ys.length : Int) := by omega
      have nk : ¬ ((k : Int) = (ys.length : Int)) := by omega
      have ni : ¬ ((i : Int) = (xs.length : Int)) := by omega
      simp (disch := omega) only [go_sem, simprocAttr, F.osierref04_acts.l0, h0, h1, h5, h6, h7, ci, nk, c1, c2, hxi, hyk]
      refine wcond_dec (fun hq => ?_) (fun hq => ?_)
      · simp (disch := omega) only [go_sem, simprocAttr, h0, h1, h5, h6, h7, c1, hxi]
        refine wfresh_of fun u hu => ?_
        simp (disch := omega) only [go_sem, simprocAttr, h0, h1, h5, h6, h7]
        have he7 := (St.Ext.refl S5).put hu (.cells true 1 [.int .i64 xs[i].1])
        refine wE_app intE (ys := [xs[i].1]) (ho.ext intE he7) (SlT.lit intE (xs := [xs[i].1])) rfl rfl (he.trans he7).n (by first | omega | (simp; done) | (simp; omega)) (by first | omega | (simp; done) | (simp; omega)) fun v8 S8 ho8 hb8 hv8 => ?_
        simp (disch := omega) only [go_sem, simprocAttr, h0, h1, h5, h6, h7]
        exact ⟨(xs.length - (i+1)) + (ys.length - (k)), by omega, i+1, k, _, _, rfl, by omega, by omega, rfl, rfl, rfl, (he.trans he7).but hb8 (ho.fresh intE), ho8, hA.left hx hli (fun _ => hq)⟩
      · simp (disch := omega) only [go_sem, simprocAttr, h0, h1, h5, h6, h7, ni, c1, c2, hxi, hyk]
        refine wcond_dec (fun hq2 => ?_) (fun hq2 => ?_)
        · simp (disch := omega) only [go_sem, simprocAttr, h0, h1, h5, h6, h7, c2, hyk]
          refine wfresh_of fun u hu => ?_
          simp (disch := omega) only [go_sem, simprocAttr, h0, h1, h5, h6, h7]
          have he7 := (St.Ext.refl S5).put hu (.cells true 1 [.int .i64 ys[k].1])
          refine wE_app intE (ys := [ys[k].1]) (ho.ext intE he7) (SlT.lit intE (xs := [ys[k].1])) rfl rfl (he.trans he7).n (by first | omega | (simp; done) | (simp; omega)) (by first | omega | (simp; done) | (simp; omega)) fun v8 S8 ho8 hb8 hv8 => ?_
          simp (disch := omega) only [go_sem, simprocAttr, h0, h1, h5, h6, h7]
          exact ⟨(xs.length - (i)) + (ys.length - (k+1)), by omega, i, k+1, _, _, rfl, by omega, by omega, rfl, rfl, rfl, (he.trans he7).but hb8 (ho.fresh intE), ho8, hA.right hy hlk (fun _ => hq2)⟩
        · simp (disch := omega) only [go_sem, simprocAttr, h0, h1, h5, h6, h7, c1, hxi]
          refine wfresh_of fun u hu => ?_
          simp (disch := omega) only [go_sem, simprocAttr, h0, h1, h5, h6, h7]
          have he7 := (St.Ext.refl S5).put hu (.cells true 1 [.int .i64 xs[i].1])
          refine wE_app intE (ys := [xs[i].1]) (ho.ext intE he7) (SlT.lit intE (xs := [xs[i].1])) rfl rfl (he.trans he7).n (by first | omega | (simp; done) | (simp; omega)) (by first | omega | (simp; done) | (simp; omega)) fun v8 S8 ho8 hb8 hv8 => ?_
          simp (disch := omega) only [go_sem, simprocAttr, h0, h1, h5, h6, h7]
          exact ⟨(xs.length - (i+1)) + (ys.length - (k+1)), by omega, i+1, k+1, _, _, rfl, by omega, by omega, rfl, rfl, rfl, (he.trans he7).but hb8 (ho.fresh intE), ho8, hA.both hx hy hli hlk (by omega)⟩
    · have nk : (k : Int) = (ys.length : Int) := by omega
      simp (disch := omega) only [go_sem, simprocAttr, F.osierref04_acts.l0, h0, h1, h5, h6, h7, ci, nk, c1, hxi]
      refine wfresh_of fun u hu => ?_
      simp (disch := omega) only [go_sem, simprocAttr, h0, h1, h5, h6, h7]
      have he7 := (St.Ext.refl S5).put hu (.cells true 1 [.int .i64 xs[i].1])
      refine wE_app intE (ys := [xs[i].1]) (ho.ext intE he7) (SlT.lit intE (xs := [xs[i].1])) rfl rfl (he.trans he7).n (by first | omega | (simp; done) | (simp; omega)) (by first | omega | (simp; done) | (simp; omega)) fun v8 S8 ho8 hb8 hv8 => ?_
      simp (disch := omega) only [go_sem, simprocAttr, h0, h1, h5, h6, h7]
      exact ⟨(xs.length - (i+1)) + (ys.length - (k)), by omega, i+1, k, _, _, rfl, by omega, by omega, rfl, rfl, rfl, (he.trans he7).but hb8 (ho.fresh intE), ho8, hA.left hx hli (fun h => absurd h hlk)⟩
  · have ni : (i : Int) = (xs.length : Int) := by omega
    by_cases hlk : k < ys.length
    · obtain ⟨b2, off2, rfl, hb2, -, hyk, -⟩ := (hk.ext dotE he).dotc hlk
      have c2 : (0 : Int) ≤ (k : Int) ∧ (k : Int) < (ys.length : Int) := by omega
      have ck : (k : Int) < (ys.length : Int) := by omega
      have nk : ¬ ((k : Int) = (ys.length : Int)) := by omega
      have ci : ¬ ((i : Int) < (xs.length : Int)) := by omega
      simp (disch := omega) only [go_sem, simprocAttr, F.osierref04_acts.l0, h0, h1, h5, h6, h7, ci, ck, nk, ni, c2, hyk, Int.lt_irrefl]
      refine wfresh_of fun u hu => ?_
      simp (disch := omega) only [go_sem, simprocAttr, h0, h1, h5, h6, h7]
      have he7 := (St.Ext.refl S5).put hu (.cells true 1 [.int .i64 ys[k].1])
      refine wE_app intE (ys := [ys[k].1]) (ho.ext intE he7) (SlT.lit intE (xs := [ys[k].1])) rfl rfl (he.trans he7).n (by first | omega | (simp; done) | (simp; omega)) (by first | omega | (simp; done) | (simp; omega)) fun v8 S8 ho8 hb8 hv8 => ?_
      simp (disch := omega) only [go_sem, simprocAttr, h0, h1, h5, h6, h7]
      exact ⟨(xs.length - (i)) + (ys.length - (k+1)), by omega, i, k+1, _, _, rfl, by omega, by omega, rfl, rfl, rfl, (he.trans he7).but hb8 (ho.fresh intE), ho8, hA.right hy hlk (fun h => absurd h hli)⟩
    · have ci : ¬ ((i : Int) < (xs.length : Int)) := by omega
      have ck : ¬ ((k : Int) < (ys.length : Int)) := by omega
      simp (disch := omega) only [go_sem, simprocAttr, F.osierref04_acts.l0, h0, h1, h5, h6, h7, ci, ck]
      have hi1 : i = xs.length := by omega
      have hk1 : k = ys.length := by omega
      subst hi1 hk1
      exact ⟨⟨out, ho, hA⟩, he⟩
end Go.Osj

/- Contracts of layer 4: the reference's Join, With, Made; Missing. -/
set_option linter.unusedSimpArgs false
namespace Go.Osj
def chooseV (meet : Bool) : Int → Int → Int := if meet then min else max
theorem chooseV_choice (meet : Bool) : Choice (chooseV meet) := by cases meet <;> simp only [chooseV] <;> first | exact choice_min | exact choice_max
theorem F.osierref04_Join_J {S : St} {l k : Value} {meet : Bool} {xs ys : List Dot} (hl : SlT dotE S l xs) (hk : SlT dotE S k ys) (hx : isV xs) (hy : isV ys) (hL : xs.length < 20000) (hL2 : ys.length < 20000) :
    J PR F.osierref04_Join [l, k, .bool meet] S fun v S' => OwnT dotE S.n S' v (eachV (chooseV meet) xs ys) ∧ S.Ext S' := by
  refine J_by PR.mixed F.osierref04_Join.ok (by simp) ?_
  simp (disch := omega) only [go_sem, simprocAttr]
  refine wJ_of (F.osierref04_acts_J hl hk hx hy hL hL2) ?_; rintro v1 S1 ⟨⟨ks, hok, hA⟩, he1⟩
  have hkl := hA.len
  obtain ⟨bq, cq, rfl⟩ := (hok.sl intE).len intE
  simp (disch := omega) only [go_sem, simprocAttr]
  refine wC_loop (fun n fr S' => ∃ (i : Nat) (v : Value) (out : List Dot), n = ks.length - i ∧ i ≤ ks.length ∧ fr 0 = l ∧ fr 1 = k ∧ fr 2 = .bool meet ∧ fr 7 = v ∧ fr 8 = .slice bq ks.length cq ∧ fr 9 = .int .i64 (i : Nat) ∧ S1.Ext S' ∧ OwnT dotE S1.n S' v out ∧
    EachI (chooseV meet) xs ys ((ks.take i).map fun a => (a, 0)) out ∧ out.length ≤ i) ks.length ⟨0, .slice none 0 0, [], by simp (disch := omega) only [go_sem, simprocAttr]; exact ⟨by simp, by simp, St.Ext.refl _, OwnT.nil .., EachI.nil⟩⟩ ?_
  rintro n fr S5 ⟨i, v, out, rfl, hi, h0, h1, h2, h7, h8, h9, he, ho, hI, hol⟩
  have e5 := he1.trans he
  simp (disch := omega) only [go_sem, simprocAttr, F.osierref04_Join.l0, h0, h1, h2, h7, h8, h9]
  refine wcond_dec (fun hlt => ?_) (fun hge => ?_)
  · have hlx : i < ks.length := by omega
    obtain ⟨b, off, rfl, hb, hx0⟩ := ((hok.sl intE).ext intE he).int hlx
    have c1 : (0 : Int) ≤ (i : Int) ∧ (i : Int) < (ks.length : Int) := by omega
    simp (disch := omega) only [go_sem, simprocAttr, h0, h1, h2, h7, h8, h9, c1, hx0, Nat.mul_one]
    refine wJ_of (F.osierref04_Get_J (hl.ext dotE e5) (by omega)) ?_; rintro _ _ ⟨rfl, rfl⟩
    simp (disch := omega) only [go_sem, simprocAttr, h0, h1, h2, h7, h8, h9, c1, hx0, Nat.mul_one]
    refine wJ_of (F.osierref04_Get_J (hk.ext dotE e5) (by omega)) ?_; rintro _ _ ⟨rfl, rfl⟩
    have htk : (ks.take (i + 1)).map (fun a => ((a, 0) : Dot)) = (ks.take i).map (fun a => (a, 0)) ++ [(ks[i], 0)] := by rw [take_snoc (List.getElem?_eq_getElem hlx), List.map_append]; rfl
    have hmono : ∀ e ∈ out, e.1 < ks[i] := by
      intro e he
      obtain ⟨d, hd, hde⟩ := hI.src e he
      obtain ⟨a, ha, rfl⟩ := List.mem_map.1 hd
      obtain ⟨q, hq, rfl⟩ := List.mem_iff_getElem.1 ha
      simp only [List.length_take] at hq
      have := List.pairwise_iff_getElem.1 hA.lt q i (by omega) hlx (by omega)
      simp only [List.getElem_take] at hde
      omega
    have hg1 := getV_range hx ks[i]
    have hg2 := getV_range hy ks[i]
    simp (disch := omega) only [go_sem, simprocAttr, h0, h1, h2, h7, h8, h9]
    by_cases hyx : getV xs ks[i] < getV ys ks[i]
    · cases meet with
      | false =>
        have hcv : chooseV false (getV xs ks[i]) (getV ys ks[i]) = getV ys ks[i] := by simp [chooseV]; omega
        simp (disch := omega) only [go_sem, simprocAttr, h0, h1, h2, h7, h8, h9, hyx, Bool.not_true]
        have key2 : ∀ e ∈ out, e.1 < ks[i] := hmono
        refine wcond_dec (fun hp => ?_) (fun hp => ?_)
        · simp (disch := omega) only [go_sem, simprocAttr, h0, h1, h2, h7, h8, h9, c1, hx0, Nat.mul_one]
          refine wfresh_of fun u hu => ?_
          simp (disch := omega) only [go_sem, simprocAttr, h0, h1, h2, h7, h8, h9]
          have he7 := (St.Ext.refl S5).put hu (.cells true 2 [.int .i64 ks[i], .int .i64 (getV ys ks[i])])
          refine wE_app dotE (ys := [(ks[i], getV ys ks[i])]) (ho.ext dotE he7) (SlT.lit dotE (xs := [(ks[i], getV ys ks[i])])) rfl rfl (he.trans he7).n (by first | omega | (simp; done) | (simp; omega)) (by first | omega | (simp; done) | (simp; omega)) fun v8 S8 ho8 hb8 hv8 => ?_
          simp (disch := omega) only [go_sem, simprocAttr, h0, h1, h2, h7, h8, h9]
          have hI2 := hI.put (chooseV_choice _) hx hy (d := (ks[i], 0)) (by rw [hcv]; exact hp) key2
          rw [hcv, ← htk] at hI2
          exact ⟨ks.length - (i + 1), by omega, i + 1, _, _, rfl, by omega, rfl, rfl, (he.trans he7).but hb8 (ho.fresh dotE), ho8, hI2, (by first | omega | (simp; done) | (simp; omega))⟩
        · have hI2 := hI.skip (d := (ks[i], 0)) fun h => absurd (by rw [hcv] at h; exact h) hp
          rw [← htk] at hI2
          first
          | omega
          | simp (disch := omega) only [go_sem, simprocAttr, h0, h1, h2, h7, h8, h9]
            exact ⟨ks.length - (i + 1), by omega, i + 1, _, _, rfl, by omega, rfl, rfl, he, ho, hI2, by omega⟩
      | true =>
        have hcv : chooseV true (getV xs ks[i]) (getV ys ks[i]) = getV xs ks[i] := by simp [chooseV]; omega
        simp (disch := omega) only [go_sem, simprocAttr, h0, h1, h2, h7, h8, h9, hyx, Bool.not_true]
        have key2 : ∀ e ∈ out, e.1 < ks[i] := hmono
        refine wcond_dec (fun hp => ?_) (fun hp => ?_)
        · simp (disch := omega) only [go_sem, simprocAttr, h0, h1, h2, h7, h8, h9, c1, hx0, Nat.mul_one]
          refine wfresh_of fun u hu => ?_
          simp (disch := omega) only [go_sem, simprocAttr, h0, h1, h2, h7, h8, h9]
          have he7 := (St.Ext.refl S5).put hu (.cells true 2 [.int .i64 ks[i], .int .i64 (getV xs ks[i])])
          refine wE_app dotE (ys := [(ks[i], getV xs ks[i])]) (ho.ext dotE he7) (SlT.lit dotE (xs := [(ks[i], getV xs ks[i])])) rfl rfl (he.trans he7).n (by first | omega | (simp; done) | (simp; omega)) (by first | omega | (simp; done) | (simp; omega)) fun v8 S8 ho8 hb8 hv8 => ?_
          simp (disch := omega) only [go_sem, simprocAttr, h0, h1, h2, h7, h8, h9]
          have hI2 := hI.put (chooseV_choice _) hx hy (d := (ks[i], 0)) (by rw [hcv]; exact hp) key2
          rw [hcv, ← htk] at hI2
          exact ⟨ks.length - (i + 1), by omega, i + 1, _, _, rfl, by omega, rfl, rfl, (he.trans he7).but hb8 (ho.fresh dotE), ho8, hI2, (by first | omega | (simp; done) | (simp; omega))⟩
        · have hI2 := hI.skip (d := (ks[i], 0)) fun h => absurd (by rw [hcv] at h; exact h) hp
          rw [← htk] at hI2
          first
          | omega
          | simp (disch := omega) only [go_sem, simprocAttr, h0, h1, h2, h7, h8, h9]
            exact ⟨ks.length - (i + 1), by omega, i + 1, _, _, rfl, by omega, rfl, rfl, he, ho, hI2, by omega⟩
    · cases meet with
      | false =>
        have hcv : chooseV false (getV xs ks[i]) (getV ys ks[i]) = getV xs ks[i] := by simp [chooseV]; omega
        simp (disch := omega) only [go_sem, simprocAttr, h0, h1, h2, h7, h8, h9, hyx, Bool.not_false]
        have key2 : ∀ e ∈ out, e.1 < ks[i] := hmono
        refine wcond_dec (fun hp => ?_) (fun hp => ?_)
        · simp (disch := omega) only [go_sem, simprocAttr, h0, h1, h2, h7, h8, h9, c1, hx0, Nat.mul_one]
          refine wfresh_of fun u hu => ?_
          simp (disch := omega) only [go_sem, simprocAttr, h0, h1, h2, h7, h8, h9]
          have he7 := (St.Ext.refl S5).put hu (.cells true 2 [.int .i64 ks[i], .int .i64 (getV xs ks[i])])
          refine wE_app dotE (ys := [(ks[i], getV xs ks[i])]) (ho.ext dotE he7) (SlT.lit dotE (xs := [(ks[i], getV xs ks[i])])) rfl rfl (he.trans he7).n (by first | omega | (simp; done) | (simp; omega)) (by first | omega | (simp; done) | (simp; omega)) fun v8 S8 ho8 hb8 hv8 => ?_
          simp (disch := omega) only [go_sem, simprocAttr, h0, h1, h2, h7, h8, h9]
          have hI2 := hI.put (chooseV_choice _) hx hy (d := (ks[i], 0)) (by rw [hcv]; exact hp) key2
          rw [hcv, ← htk] at hI2
          exact ⟨ks.length - (i + 1), by omega, i + 1, _, _, rfl, by omega, rfl, rfl, (he.trans he7).but hb8 (ho.fresh dotE), ho8, hI2, (by first | omega | (simp; done) | (simp; omega))⟩
        · have hI2 := hI.skip (d := (ks[i], 0)) fun h => absurd (by rw [hcv] at h; exact h) hp
          rw [← htk] at hI2
          first
          | omega
          | simp (disch := omega) only [go_sem, simprocAttr, h0, h1, h2, h7, h8, h9]
            exact ⟨ks.length - (i + 1), by omega, i + 1, _, _, rfl, by omega, rfl, rfl, he, ho, hI2, by omega⟩
      | true =>
        have hcv : chooseV true (getV xs ks[i]) (getV ys ks[i]) = getV ys ks[i] := by simp [chooseV]; omega
        simp (disch := omega) only [go_sem, simprocAttr, h0, h1, h2, h7, h8, h9, hyx, Bool.not_false]
        have key2 : ∀ e ∈ out, e.1 < ks[i] := hmono
        refine wcond_dec (fun hp => ?_) (fun hp => ?_)
        · simp (disch := omega) only [go_sem, simprocAttr, h0, h1, h2, h7, h8, h9, c1, hx0, Nat.mul_one]
          refine wfresh_of fun u hu => ?_
          simp (disch := omega) only [go_sem, simprocAttr, h0, h1, h2, h7, h8, h9]
          have he7 := (St.Ext.refl S5).put hu (.cells true 2 [.int .i64 ks[i], .int .i64 (getV ys ks[i])])
          refine wE_app dotE (ys := [(ks[i], getV ys ks[i])]) (ho.ext dotE he7) (SlT.lit dotE (xs := [(ks[i], getV ys ks[i])])) rfl rfl (he.trans he7).n (by first | omega | (simp; done) | (simp; omega)) (by first | omega | (simp; done) | (simp; omega)) fun v8 S8 ho8 hb8 hv8 => ?_
          simp (disch := omega) only [go_sem, simprocAttr, h0, h1, h2, h7, h8, h9]
          have hI2 := hI.put (chooseV_choice _) hx hy (d := (ks[i], 0)) (by rw [hcv]; exact hp) key2
          rw [hcv, ← htk] at hI2
          exact ⟨ks.length - (i + 1), by omega, i + 1, _, _, rfl, by omega, rfl, rfl, (he.trans he7).but hb8 (ho.fresh dotE), ho8, hI2, (by first | omega | (simp; done) | (simp; omega))⟩
        · have hI2 := hI.skip (d := (ks[i], 0)) fun h => absurd (by rw [hcv] at h; exact h) hp
          rw [← htk] at hI2
          first
          | omega
          | simp (disch := omega) only [go_sem, simprocAttr, h0, h1, h2, h7, h8, h9]
            exact ⟨ks.length - (i + 1), by omega, i + 1, _, _, rfl, by omega, rfl, rfl, he, ho, hI2, by omega⟩
  · simp (disch := omega) only [go_sem, simprocAttr, h7]
    rw [List.take_of_length_le (by omega)] at hI
    have := hI.eq (chooseV_choice meet) hx hy fun d hd => ⟨(d.1, 0), List.mem_map.2 ⟨d.1, (hA.mem _).2 (by
      rcases List.mem_append.1 hd with h | h
      · exact .inl ⟨d, by rw [List.take_length]; exact h, rfl⟩
      · exact .inr ⟨d, by rw [List.take_length]; exact h, rfl⟩), rfl⟩, rfl⟩
    rw [this] at ho
    exact ⟨ho.mono dotE he1.n, e5⟩
theorem F.osierref04_With_J {S : St} {l : Value} {xs : List Dot} {d : Dot} (hl : SlT dotE S l xs) (hx : isV xs) (hL : xs.length < 20000) :
    J PR F.osierref04_With [l, dotV d] S fun v S' => SlT dotE S' v (withV xs d) ∧ S.Ext S' := by
  refine J_by PR.mixed F.osierref04_With.ok (by simp) ?_
  simp (disch := omega) only [go_sem, simprocAttr]
  refine wfresh_of fun x hx' => ?_
  simp (disch := omega) only [go_sem, simprocAttr]
  have he := (St.Ext.refl S).put hx' (.cells true 2 [.int .i64 d.1, .int .i64 d.2])
  refine wJ_of F.osierref03_May_P ?_; rintro _ _ ⟨rfl, rfl⟩
  unfold withV
  by_cases hm : mayP d
  · simp (disch := omega) only [go_sem, simprocAttr, hm]
    refine wfresh_of fun y hy => ?_
    simp (disch := omega) only [go_sem, simprocAttr]
    have he2 := he.put hy (.cells true 2 [.int .i64 d.1, .int .i64 d.2])
    refine wJ_of (F.osierref04_Join_J (ys := [d]) (meet := false) (hl.ext dotE he2) (SlT.lit dotE (xs := [d])) hx (isV_one hm) hL (by simp)) ?_; rintro v S1 ⟨ho, he3⟩
    simp (disch := omega) only [go_sem, simprocAttr]
    rw [if_pos hm]
    exact ⟨ho.sl dotE, he2.trans he3⟩
  · simp (disch := omega) only [go_sem, simprocAttr, hm]
    exact ⟨hl.ext dotE he, he⟩
theorem F.osierref04_Made_J {S : St} {l : Value} {xs : List Dot} (hl : SlT dotE S l xs) :
    J PR F.osierref04_Made [l] S fun v S' => SlT dotE S' v (madeV xs) ∧ S.Ext S' := by
  obtain ⟨base, cap, rfl⟩ := hl.len dotE
  have hfold : ∀ (l v : List Dot), isV v → isV (l.foldl withV v) ∧ (l.foldl withV v).length ≤ v.length + l.length := by
    intro l
    induction l with
    | nil => exact fun v h => ⟨h, by simp⟩
    | cons d l ih =>
      intro v h
      obtain ⟨h1, h2⟩ := ih (withV v d) (withV_is h d)
      have h3 := withV_len v d
      exact ⟨h1, by simp only [List.foldl_cons, List.length_cons]; omega⟩
  refine J_by PR.mixed F.osierref04_Made.ok (by simp) ?_
  simp (disch := omega) only [go_sem, simprocAttr]
  refine wC_loop (fun n fr S' => ∃ (i : Nat) (v : Value), n = xs.length - i ∧ i ≤ xs.length ∧ i ≤ 50 ∧ fr 0 = .slice base xs.length cap ∧ fr 3 = v ∧ fr 4 = .int .i64 (i : Nat) ∧ S.Ext S' ∧ SlT dotE S' v ((xs.take i).foldl withV [])) xs.length
    ⟨0, .slice none 0 0, by simp (disch := omega) only [go_sem, simprocAttr]; exact ⟨by simp, by simp, St.Ext.refl _, (OwnT.nil dotE 0 _).sl dotE⟩⟩ ?_
  rintro n fr S5 ⟨i, v, rfl, hi, hi5, h0, h3, h4, he, hv⟩
  have hfin : (xs.length ≤ i ∨ 50 ≤ i) → (xs.take i).foldl withV [] = madeV xs := by
    intro h
    unfold madeV
    rcases h with h | h
    · rw [List.take_of_length_le h, List.take_of_length_le (by omega)]
    · rw [show i = 50 by omega]
  simp (disch := omega) only [go_sem, simprocAttr, F.osierref04_Made.l0, h0, h3, h4]
  refine wguard_dec (fun hlt => ?_) (fun hge => ?_)
  · simp (disch := omega) only [go_sem, simprocAttr, h0, h3, h4, hlt]
    refine wcond_dec (fun h50 => ?_) (fun h50 => ?_)
    · have hlx : i < xs.length := by omega
      obtain ⟨b, off, rfl, hb, hx0⟩ := (hl.ext dotE he).dot hlx
      have c1 : (0 : Int) ≤ (i : Int) ∧ (i : Int) < (xs.length : Int) := by omega
      simp (disch := omega) only [go_sem, simprocAttr, h0, h3, h4, c1, hx0]
      obtain ⟨g1, g2⟩ := hfold (xs.take i) [] isV_nil
      simp only [List.length_nil, List.length_take] at g2
      refine wJ_of (F.osierref04_With_J hv g1 (by omega)) ?_; rintro v2 S2 ⟨hs2, he2⟩
      simp (disch := omega) only [go_sem, simprocAttr, h0, h4]
      refine ⟨xs.length - (i + 1), by omega, i + 1, _, rfl, by omega, by omega, rfl, rfl, he.trans he2, ?_⟩
      rw [take_snoc (List.getElem?_eq_getElem hlx), List.foldl_append]
      exact hs2
    · simp (disch := omega) only [go_sem, simprocAttr, h3]
      rw [hfin (.inr (by omega))] at hv
      exact ⟨hv, he⟩
  · simp (disch := omega) only [go_sem, simprocAttr, h0, h3, h4, hge]
    rw [hfin (.inl (by omega))] at hv
    exact ⟨hv, he⟩
abbrev ptrV (q : Nat) : Value := .pointer (some ⟨q, 0, none⟩)
theorem but_put (S : St) (q : Nat) (o : AObj) : St.But (ptrV q) S (S.put q o) := ⟨by rw [St.put_n]; omega, fun i _ hn => St.put_other _ _ _ (by rintro rfl; exact hn rfl)⟩
end Go.Osj
