/- Small things of other texts. -/
import Derived.Test.YtfadbihdmohdiaaGreatDoorOK
import Derived.Test.YtfadbihdmohdiaaGreatDoorOsjU
import Derived.Test.YtfadbihdmohdiaaGreatDoorOsjV
set_option linter.unusedVariables false
set_option linter.unusedSimpArgs false
set_option maxHeartbeats 1000000
namespace Go.Osj
def alwaysP (d : Dot) : Prop := d = (0, -1) ∨ d = (0, -2)
theorem wst_w {S : St} {b off cap n : Nat} {cs : List Value} {v : Value} {k : KV} (cs' : List Value) (ho : S.obj b = some (.cells true cap cs)) (h1 : v.cells.size = n) (h2 : oneC v.cells.toList = true) (h3 : off ≤ cs.length) (h4 : off + n ≤ cap)
    (hw : wrote cs off v.cells.toList = cs') (hk : ∀ S', S'.obj b = some (.cells true cap cs') → St.But (ptrV b) S S' → b < S'.n → k.run undef S') : @wst (.pointer (some ⟨b, off, none⟩)) v n S k :=
  wst_of ho h1 h2 h3 h4 (by rw [hw]; exact hk _ (St.put_same _ _ _) (but_put ..) (St.lt_put_self _ _ _))
abbrev nilS : Value := .slice none 0 0
/-- a function value of one element that only looks -/
def FunE {α : Type} (E : Enc α) (S : St) (f : Value) (xs : List α) (p : α → Bool) : Prop :=
  ∃ g first captured, f = .func (.func g) first captured ∧ callable PR g = true ∧ ∀ x ∈ xs, J PR g (first.toList ++ [.agg (E.enc x).toArray] ++ captured.toList) S fun v S' => v = .bool (p x) ∧ S = S'
theorem FunE.call {α : Type} {E : Enc α} {S : St} {f : Value} {xs : List α} {p : α → Bool} (h : FunE E S f xs p) {x : α} (hx : x ∈ xs) {k : KV} (hk : k.run (.bool (p x)) S) : @wcallv PR f [.agg (E.enc x).toArray] S k := by
  obtain ⟨g, first, captured, rfl, hc, hj⟩ := h
  exact ⟨hc, (hj x hx).mono fun v S' ⟨h1, h2⟩ => by subst h1 h2; exact hk⟩
theorem walloc_x {S : St} {k : KV} (cs : List Value) (hk : ∀ x S1, S.Ext S1 → S1.obj x = some (.cells true cs.length cs) → x < S1.n → S.n ≤ x → k.run (ptrV x) S1) :
    @wfresh S.n ⟨fun b => k.run (.pointer (some ⟨b, 0, none⟩)) (S.put b (.cells true cs.length cs))⟩ :=
  wfresh_of fun b hb => hk b _ ((St.Ext.refl S).put hb _) (St.put_same _ _ _) (St.lt_put_self _ _ _) hb
theorem cells2 {S : St} {x : Nat} {rw : Bool} {cap : Nat} {a b : Value} (h : S.obj x = some (.cells rw cap [a, b])) : S.loadN ⟨x, 0, none⟩ 2 = some [a, b] := by rw [St.loadN_def, h]; rfl
theorem absA {n : Int} (h1 : -9223372036854775808 ≤ n) (h2 : n ≤ 9223372036854775807) (hn : n < 0) : IntKind.i64.wrap (0 - IntKind.i64.wrap (n + 1)) = -(n + 1) := by
  rw [wrap64 (n := n + 1) (by omega) (by omega), wrap64 (by omega) (by omega)]
  omega
theorem tmod_nat {a : Int} {n : Nat} (ha : 0 ≤ a) (hn : 0 < n) : ∃ k : Nat, a.tmod (n : Int) = k ∧ k < n := by
  refine ⟨(a.tmod n).toNat, ?_, ?_⟩
  · rw [Int.toNat_of_nonneg (Int.tmod_nonneg _ ha)]
  · have h1 := Int.tmod_lt_of_pos a (b := (n : Int)) (by omega)
    have h2 := Int.tmod_nonneg (b := (n : Int)) ha
    omega
theorem St.put_eq' {S : St} {b : Nat} {o : AObj} (h : S.obj b = some o) (hb : b < S.n) : S.put b o = S := by
  obtain ⟨n, obj⟩ := S
  simp only [St.put] at *
  congr 1
  · omega
  · funext i
    split
    · rename_i hi; subst hi; exact h.symm
    · rfl
end Go.Osj
