/- One taken off a row, where it lies. -/
import Derived.Test.YtfadbihdmohdiaaGreatDoorLM
set_option linter.unusedVariables false
set_option linter.unusedSimpArgs false
set_option maxHeartbeats 1000000
namespace Go.Osj
theorem wrote_length {cs vs : List Value} {off : Nat} (h : off + vs.length ≤ cs.length) : (wrote cs off vs).length = cs.length := by
  simp only [wrote, List.length_append, List.length_take, List.length_drop]
  omega
/-- the row, with what came behind moved up -/
theorem wrote_up {α : Type} (E : Enc α) {xs : List α} {i : Nat} (hi : i < xs.length) (tail : List Value) :
    ∃ t2, wrote (E.flat xs ++ tail) (i * E.k) (E.flat (xs.drop (i + 1))) = E.flat (xs.take i ++ xs.drop (i + 1)) ++ t2 ∧ t2.length = E.k + tail.length := by
  have e1 : (E.flat xs ++ tail).take (i * E.k) = E.flat (xs.take i) := by
    rw [List.take_append_of_le_length (by rw [E.flat_length]; exact Nat.mul_le_mul_right _ (by omega)), E.flat_take]
  refine ⟨(E.flat xs ++ tail).drop (i * E.k + (E.flat (xs.drop (i + 1))).length), ?_, ?_⟩
  · unfold wrote
    rw [e1, E.flat_append]
  · rw [List.length_drop, List.length_append, E.flat_length, E.flat_length, List.length_drop]
    have h2 : i * E.k + (xs.length - (i + 1)) * E.k + E.k = xs.length * E.k := by
      rw [← Nat.add_mul, ← Nat.succ_mul]
      congr 1
      omega
    omega
theorem wrote_mid (a t zs : List Value) (n : Nat) (hn : a.length = n) : (a ++ t).take n ++ zs ++ (a ++ t).drop (n + zs.length) = a ++ (zs ++ t.drop zs.length) := by
  subst hn
  rw [List.take_left, List.append_assoc, List.drop_append, List.drop_of_length_le (by omega), List.nil_append]
  congr 3
  omega
theorem slV_blk {k b off n c m h l : Nat} {lo hi mx : Option Value} (hm : bndV c c mx = some m) (hh : bndHV m n hi mx = some h) (hl : bndV h 0 lo = some l) (hlt : l < m) :
    slV k (.slice (some ⟨b, off, none⟩) n c) lo hi mx = some (.slice (some ⟨b, off + l * k, none⟩) (h - l) (m - l)) := by
  simp only [slV, hm, Option.bind_some, hh, hl]
  rw [if_neg (by omega)]
theorem bndV_at {y d n : Nat} {q : IntKind} (h : n ≤ y) : bndV y d (some (.int q ((n : Nat) : Int))) = some n := bndV_int rfl h
theorem bndHV_at {m n k : Nat} {q : IntKind} {mx : Option Value} (h : k ≤ m) : bndHV m n (some (.int q ((k : Nat) : Int))) mx = some k := by
  unfold bndHV
  exact bndV_int (d := n) rfl h
theorem F.slices_Delete_op_J {B : Nat} {S : St} {v : Value} {ps : List (OpA × SlP)} {i : Nat} (h : RowT opE B S v ps) (hi : i < ps.length) (hL : ps.length < 1000000) :
    J PR F.slices_Delete_s_api_Op_api_Op [v, .int .i64 (i : Nat), .int .i64 ((i + 1 : Nat) : Int)] S fun r S' => RowT opE B S' r (ps.take i ++ ps.drop (i + 1)) ∧ St.But v S S' ∧ blkOf r = blkOf v := by
  have hsl := h.sl opE
  rcases h with ⟨rfl, rfl⟩ | ⟨b, c, tail, rfl, hB, hb, hc, ho⟩
  · simp at hi
  have hc2 : ps.length * 14 + tail.length ≤ c * 14 := by
    have := hc
    rw [List.length_append, opE.flat_length] at this
    exact this
  have hlc : ps.length ≤ c := by omega
  obtain ⟨u2, hu2, hs2⟩ := hsl.from opE (q := .i64) (i := ((i + 1 : Nat) : Int)) (l := i + 1) rfl (by omega)
  have x1 := slV_blk (k := 14) (b := b) (off := 0) (n := ps.length) (c := c) (m := ps.length) (h := i + 1) (l := i) (lo := some (.int .i64 (i : Nat))) (hi := some (.int .i64 ((i + 1 : Nat) : Int))) (mx := some (.int .i64 (ps.length : Nat))) (bndV_at hlc) (bndHV_at (by omega)) (bndV_at (by omega)) hi
  have x2 : slV 14 (.slice (some ⟨b, 0, none⟩) ps.length c) none (some (.int .i64 (i : Nat))) none = some (.slice (some ⟨b, 0, none⟩) i c) := by
    have := slV_blk (k := 14) (b := b) (off := 0) (n := ps.length) (c := c) (m := c) (h := i) (l := 0) (lo := none) (hi := some (.int .i64 (i : Nat))) (mx := none) rfl (bndHV_at (by omega)) rfl (by omega)
    simpa using this
  have hnew : (ps.take i ++ ps.drop (i + 1)).length = ps.length - 1 := by simp; omega
  refine J_by PR.mixed F.slices_Delete_s_api_Op_api_Op.ok (by simp) ?_
  have d1 : ¬ ((i : Int) = ((i + 1 : Nat) : Int)) := by omega
  replace hu2 : slV 14 (.slice (some ⟨b, 0, none⟩) ps.length c) (some (.int .i64 ((i + 1 : Nat) : Int))) none none = some u2 := hu2
  simp (disch := omega) only [go_sem, simprocAttr, d1, x1, x2, hu2]
  refine wE_appIn opE (b := b) (n := i) (c := c) (cap := c * 14) (ys := ps.drop (i + 1)) rfl (hs2.news opE) (by rw [List.length_drop]; omega) (Nat.le_refl _) ho (by rw [List.length_append, opE.flat_length]; have : i * 14 ≤ ps.length * 14 := Nat.mul_le_mul_right _ (by omega); exact Nat.le_trans this (Nat.le_add_right _ _)) fun S1 ho1 b1 hn1 => ?_
  obtain ⟨t2, ht2, htl⟩ := wrote_up opE hi tail
  have ho1' : S1.obj b = some (.cells true (c * 14) (opE.flat (ps.take i ++ ps.drop (i + 1)) ++ t2)) := by rw [← ht2]; exact ho1
  have hk : opE.k = 14 := rfl
  rw [hk] at htl
  have hfl : (opE.flat (ps.take i ++ ps.drop (i + 1))).length = (ps.length - 1) * 14 := by rw [opE.flat_length, hnew]; rfl
  have e1 : i + (ps.drop (i + 1)).length = ps.length - 1 := by rw [List.length_drop]; omega
  have x4 : slV 14 (.slice (some ⟨b, 0, none⟩) (ps.length - 1) c) (some (.int .i64 ((ps.length - 1 : Nat) : Int))) (some (.int .i64 (ps.length : Nat))) none = some (.slice (some ⟨b, (ps.length - 1) * 14, none⟩) 1 (c - (ps.length - 1))) := by
    have := slV_blk (k := 14) (b := b) (off := 0) (n := ps.length - 1) (c := c) (m := c) (h := ps.length) (l := ps.length - 1) (lo := some (.int .i64 ((ps.length - 1 : Nat) : Int))) (hi := some (.int .i64 (ps.length : Nat))) (mx := none) rfl (bndHV_at hlc) (bndV_at (by omega)) (by omega)
    rw [this, show ps.length - (ps.length - 1) = 1 by omega, Nat.zero_add]
  rw [e1]
  simp (disch := omega) only [go_sem, simprocAttr, x4]
  refine wE_clr (b := b) (off := (ps.length - 1) * 14) (n := 1) (c := c - (ps.length - 1)) (cap := c * 14) rfl ho1' (by decide) (by rw [List.length_append, hfl]; omega) (by omega) (by decide +kernel) ?_
  simp (disch := omega) only [go_sem, simprocAttr]
  generalize hz : rowC _ _ = zs
  have hzl : zs.length = 14 := by rw [← hz]; simp [rowC]
  rw [wrote_mid _ _ _ _ hfl]
  refine ⟨.inr ⟨b, c, zs ++ t2.drop zs.length, by rw [hnew], hB, St.lt_put_self _ _ _, ?_, St.put_same _ _ _⟩, ⟨?_, fun j hj hne => ?_⟩, rfl⟩
  · rw [List.length_append, List.length_append, hfl, List.length_drop, hzl, hk]
    omega
  · have := b1.n
    rw [St.put_n]
    omega
  · have hjb : j ≠ b := fun e => hne (by rw [e]; rfl)
    rw [St.put_other _ _ _ hjb]
    exact b1.obj j hj hne
end Go.Osj
