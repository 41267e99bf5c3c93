/- slices.SortFunc at dots: the shelf's contract, laid at this translation. -/
import Derived.Test.YtdabompehgancaaC1
import Derived.Test.YtdabompehgancaaC2
import Derived.Test.YtdabompehgancaaC3
import Derived.Test.YtdabompehgancaaOsjR
import Derived.Test.YtdabompehgancaaOsjQ
import Derived.Shelf.SlSortCmp.WholeK
import Derived.Shelf.Lay
import Derived.Ground.SlsfProg
set_option linter.unusedSimpArgs false
set_option linter.unusedVariables false
namespace Go.Proofs
open Go.Shelf Go.RowKit Go.Lib Go.Sort
shelf_lay_g SlLaysF0.n6 Slsf 6 at Try 123 as Try.sortDot
end Go.Proofs
namespace Go.Osj
open Go.RowKit

abbrev Dot : Type := Int × Int
abbrev dotV (d : Dot) : Value := .agg #[.int .i64 d.1, .int .i64 d.2]
def dotE : Enc Dot := ⟨fun d => [.int .i64 d.1, .int .i64 d.2], 2, fun _ => rfl, fun _ => rfl, by decide⟩
def lessP (a b : Dot) : Prop := a.1 < b.1 ∨ (a.1 = b.1 ∧ a.2 < b.2)
instance (a b : Dot) : Decidable (lessP a b) := inferInstanceAs (Decidable (_ ∨ _))
def compareD (a b : Dot) : Int := if a.1 < b.1 then -1 else if b.1 < a.1 then 1 else if a.2 < b.2 then -1 else if b.2 < a.2 then 1 else 0
theorem compareD_neg (a b : Dot) : compareD a b < 0 ↔ lessP a b := by
  unfold compareD lessP
  repeat' split
  all_goals omega
theorem compareD_ltOf (a b : Dot) : Go.Proofs.ltOf compareD a b = decide (lessP a b) := by
  unfold Go.Proofs.ltOf
  rw [decide_eq_decide]
  exact compareD_neg a b
theorem compareD_swo : Go.Sort.SWO (Go.Proofs.ltOf compareD) where
  irrefl x := by rw [compareD_ltOf]; simp [lessP]
  trans x y z h1 h2 := by
    rw [compareD_ltOf, decide_eq_true_eq] at *
    unfold lessP at *
    omega
  ntrans x y z h1 h2 := by
    rw [compareD_ltOf, decide_eq_false_iff_not] at *
    unfold lessP at *
    omega

theorem eqV_dot (a b : Dot) : eqV [.i .i64, .i .i64] true (dotV a) (dotV b) = some (decide (a = b)) := by
  simp [eqV, eqC, Prod.ext_iff]
/-- the sort's order of dots, told by parts -/
abbrev dotKE : KeyE Dot := ⟨dotV, [.i .i64, .i .i64], true, eqV_dot⟩
theorem dot_ne {a b : Dot} : a ≠ b ↔ a.1 ≠ b.1 ∨ a.2 ≠ b.2 := by
  rw [Ne, Prod.ext_iff]
  omega

/-- The sort, at dots. -/
theorem sortDot_J (hc : ∀ S x y, J PR F.dots_compare [dotV x, dotV y] S fun v S' => v = .int .i64 (compareD x y) ∧ S.Ext S') {S : St} {b cap c : Nat} {xs : List Dot} (ho : S.obj b = some (.cells true cap (dotE.flat xs))) (hb : xs.length < 4611686018427387904) :
    J PR F.slices_SortFunc_s_api_Dot_api_Dot [.slice (some ⟨b, 0, none⟩) xs.length c, .func (.func F.dots_compare) #[] #[]] S
      fun v S' => v = .tuple #[] ∧ ∃ ys : List Dot, ys.Perm xs ∧ ys.Pairwise (fun x y => ¬ lessP y x) ∧ S' = S.put b (.cells true cap (dotE.flat ys)) := by
  intro c0 w hr
  obtain ⟨hH, hblk⟩ := holdsK_of dotE hr (d := xs.toArray) (by simpa using ho)
  have eg : ∀ args w, (callFunc F.dots_compare args).run PR w = .ok (.enter F.dots_compare args) w := by
    intro args w
    have h : PR.funcs[F.dots_compare]? = some Go.Proofs.Try.f92 := by kernel_rfl
    have hn : ¬ (Go.Proofs.Try.f92.name = "runtime.NumGoroutine") := by decide
    have hbd : Go.Proofs.Try.f92.body ≠ none := by simp [Go.Proofs.Try.f92]
    simp [callFunc, h, hn, hbd]
  have hag : isAggT PR (Go.Proofs.Try.sortDot_ren.t 24) = some true := by kernel_rfl
  have hsz : ∀ w, (Go.sizeOf (Go.Proofs.Try.sortDot_ren.t 24)).run PR w = .ok 2 w := by
    intro w
    have h : (PR.info? (Go.Proofs.Try.sortDot_ren.t 24)).map (·.size) = some 2 := by kernel_rfl
    obtain ⟨i, hi, hs⟩ := Option.map_eq_some_iff.1 h
    rw [run_sizeOf hi, hs]
  have hcon := Go.Proofs.AnyQ.slices_SortFunc Go.Proofs.Try.sortDot 2 (fun w => run_isAgg hag w) hsz
    dotE.enc dotE.len (fun x v hv => oneC_mem (dotE.one x) v hv) compareD compareD_swo F.dots_compare #[] b 0 c xs.toArray w eg (cmpLays_of dotE hc b 0 _ w) hH hblk (by simpa using hb)
  refine Calls.mono hcon ?_
  rintro e w' ⟨rfl, d', n, os, hp, hs, rfl⟩
  refine ⟨_, _, rfl, rel_sorted dotE hr ho (by simpa using hp.1) n os, rfl, d'.toList, ?_, ?_, rfl⟩
  · have h := hp.2.2
    have h1 : d'.size = xs.toArray.size := hp.1
    rw [← h1, Array.extract_size, h1, Array.extract_size] at h
    simpa using h
  · rw [List.pairwise_iff_getElem]
    intro i j hi hj hij
    have h1 : d'.size = xs.toArray.size := hp.1
    simp only [Array.length_toList] at hi hj
    have := hs i j (Nat.zero_le _) hij (by omega)
    rw [compareD_ltOf, decide_eq_false_iff_not, getElem!_pos d' j hj, getElem!_pos d' i hi] at this
    simpa using this
end Go.Osj
