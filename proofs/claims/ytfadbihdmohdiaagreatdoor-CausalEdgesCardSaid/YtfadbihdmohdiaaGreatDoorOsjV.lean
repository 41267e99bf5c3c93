/- Rows that shrink in place. -/
import Derived.Test.YtfadbihdmohdiaaGreatDoorOsjT
namespace Go.Osj
theorem wE_clr {P : Program} {fr : Fr} {S : St} {k : KV} {esz : Nat} {z : List Value} {s : Operand} {b off n c cap : Nat} {cs : List Value} (hs : ev fr s = .slice (some ⟨b, off, none⟩) n c) (ho : S.obj b = some (.cells true cap cs)) (hn : 0 < n)
    (h1 : off ≤ cs.length) (h2 : off + n * esz ≤ cap) (hz : oneC (rowC z (n * esz)) = true) (hk : k.run (.tuple #[]) (S.put b (.cells true cap (wrote cs off (rowC z (n * esz)))))) : @wE P (.clr esz z s) fr S k := by
  unfold wE
  simp only [JE]
  rw [hs]
  dsimp only
  rw [if_neg (by omega)]
  exact ⟨hz, _, St.write_own ho off h1 (by simpa [rowC] using h2), hk⟩
abbrev ptrV' (q : Nat) : Value := .pointer (some ⟨q, 0, none⟩)
section
variable {α : Type} (E : Enc α)
/-- a row in a block of its own, with something behind it -/
def RowT (B : Nat) (S : St) (v : Value) (xs : List α) : Prop :=
  (xs = [] ∧ v = .slice none 0 0) ∨ ∃ b c tail, v = .slice (some ⟨b, 0, none⟩) xs.length c ∧ B ≤ b ∧ b < S.n ∧ (E.flat xs ++ tail).length ≤ c * E.k ∧ S.obj b = some (.cells true (c * E.k) (E.flat xs ++ tail))
theorem OwnT.row {B : Nat} {S : St} {v : Value} {xs : List α} (h : OwnT E B S v xs) : RowT E B S v xs := by
  rcases h with h | ⟨b, c, h1, h2, h3, h4, h5⟩
  · exact .inl h
  · exact .inr ⟨b, c, [], h1, h2, h3, by rw [List.append_nil, E.flat_length]; exact Nat.mul_le_mul_right _ h4, by rw [List.append_nil]; exact h5⟩
theorem RowT.sl {B : Nat} {S : St} {v : Value} {xs : List α} (h : RowT E B S v xs) : SlT E S v xs := by
  rcases h with ⟨rfl, rfl⟩ | ⟨b, c, tail, rfl, h2, h3, h4, h5⟩
  · exact (OwnT.nil E 0 S).sl E
  · refine ⟨_, c, rfl, ?_, .inr rfl, fun _ => ⟨b, 0, rfl, h3, ?_⟩⟩
    · rw [List.length_append, E.flat_length] at h4
      exact Nat.le_of_mul_le_mul_right (Nat.le_trans (Nat.le_add_right _ _) h4) E.pos
    · rw [St.loadN_def, h5]
      simp only [List.length_append, E.flat_length, Nat.zero_add]
      rw [if_pos (Nat.le_add_right _ _), List.drop_zero, List.take_append_of_le_length (by rw [E.flat_length]; exact Nat.le_refl _), List.take_of_length_le (by rw [E.flat_length]; exact Nat.le_refl _)]
/-- an append within the block -/
theorem wE_appIn {P : Program} {fr : Fr} {S : St} {k : KV} {s x : Operand} {bytes b n c cap : Nat} {cs : List Value} {ys : List α} (hs : ev fr s = .slice (some ⟨b, 0, none⟩) n c) (hy : S.loadX E.k (ev fr x) = some (ys.length, E.flat ys))
    (hroom : n + ys.length ≤ c) (hc : c * E.k ≤ cap) (ho : S.obj b = some (.cells true cap cs)) (hn : n * E.k ≤ cs.length)
    (hk : ∀ S', S'.obj b = some (.cells true cap (wrote cs (n * E.k) (E.flat ys))) → St.But (ptrV' b) S S' → (b < S.n → b < S'.n) → k.run (.slice (some ⟨b, 0, none⟩) (n + ys.length) c) S') : @wE P (.app E.k bytes s x) fr S k := by
  unfold wE
  simp only [JE]
  rw [hs]
  refine ⟨_, _, hy, fun _ => ?_, fun h => by omega⟩
  dsimp only
  split
  · rename_i h0
    have : ys = [] := by
      rcases Nat.mul_eq_zero.1 h0 with h | h
      · exact List.eq_nil_of_length_eq_zero h
      · have := E.pos; omega
    subst this
    refine hk S ?_ ⟨Nat.le_refl _, fun _ _ _ => rfl⟩ id
    have e : E.flat ([] : List α) = [] := rfl
    rw [ho, e]
    simp [wrote]
  · refine ⟨E.flat_one ys, rfl, S.put b (.cells true cap (wrote cs (n * E.k) (E.flat ys))), ?_, ?_⟩
    · simp only [Nat.zero_add]
      refine St.write_own ho _ hn ?_
      rw [E.flat_length, ← Nat.add_mul]
      exact Nat.le_trans (Nat.mul_le_mul_right _ hroom) hc
    · exact hk _ (St.put_same _ _ _) ⟨by rw [St.put_n]; omega, fun i hi hne => St.put_other _ _ _ (fun e => hne (by rw [e]; rfl))⟩ fun _ => St.lt_put_self _ _ _
end
end Go.Osj
