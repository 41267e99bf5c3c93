/- What is taken whole is just what is put. -/
import Derived.Test.YtfadbihdmohdiaaDoorKN
set_option linter.unusedVariables false
set_option linter.unusedSimpArgs false
set_option maxHeartbeats 1000000
namespace Go.Osj
theorem isB_left {xs ys : List Int} (h : isB (xs ++ ys)) : isB xs := fun b hb => h b (List.mem_append_left _ hb)
theorem isB_right {xs ys : List Int} (h : isB (xs ++ ys)) : isB ys := fun b hb => h b (List.mem_append_right _ hb)
theorem beN_valN (v : Nat) : ∀ (k : Nat) (xs : List Int), xs.length = k → isB xs → beN (valN v xs) k = xs
  | 0, xs, h, _ => by rw [List.eq_nil_of_length_eq_zero h]; rfl
  | k + 1, xs, h, hb => by
    have hne : xs ≠ [] := by rintro rfl; simp at h
    obtain ⟨ys, c, rfl⟩ : ∃ ys c, xs = ys ++ [c] := ⟨xs.dropLast, xs.getLast hne, (List.dropLast_concat_getLast hne).symm⟩
    have hc := hb c (by simp)
    have h2 : c.toNat < 256 := by omega
    rw [valN_snoc, beN, show (valN v ys * 256 + c.toNat) / 256 = valN v ys by omega, show (valN v ys * 256 + c.toNat) % 256 = c.toNat by omega, beN_valN v k ys (by simpa using h) (isB_left hb)]
    congr 2
    omega
theorem rdU_e0 {bs : List Int} {e : Int} (h : (rdU bs e).2.2 = 0) : e = 0 := by
  by_cases h0 : e = 0
  · exact h0
  · simp [rdU, h0] at h
theorem rdU_dec {bs : List Int} {e : Int} (hb : isB bs) (h : (rdU bs e).2.2 = 0) : bs = encN (rdU bs e).1 ++ (rdU bs e).2.1 := by
  have h0 := rdU_e0 h
  subst h0
  cases bs with
  | nil => simp [rdU] at h
  | cons b r =>
    obtain ⟨hb0, hb1⟩ := hb b (by simp)
    have hlr := leadK_range b.toNat
    obtain ⟨lf1, lf2, -, -⟩ := lead_first ⟨b.toNat, by omega⟩
    simp only at lf1 lf2
    simp only [rdU, ne_eq, not_true_eq_false, if_false] at h ⊢
    split at h
    · simp at h
    rename_i hl
    split at h
    rotate_left
    · simp at h
    rename_i hs
    rw [if_neg hl, if_pos hs]
    simp only
    simp only [List.length_cons] at hl
    generalize hk : leadK b.toNat = k at *
    generalize hn : valN (b.toNat - headN k) (r.take (k - 1)) = n at *
    have hx : isB (((b.toNat - headN k : Nat) : Int) :: r.take (k - 1)) := by
      intro x hx
      rcases List.mem_cons.1 hx with rfl | hx
      · omega
      · exact hb x (List.mem_cons_of_mem _ (List.mem_of_mem_take hx))
    have hlen : (((b.toNat - headN k : Nat) : Int) :: r.take (k - 1)).length = k := by simp; omega
    have hbe := beN_valN 0 k _ hlen hx
    have hv : valN 0 (((b.toNat - headN k : Nat) : Int) :: r.take (k - 1)) = n := by
      rw [← hn]
      show valN (0 * 256 + (((b.toNat - headN k : Nat) : Int)).toNat) _ = _
      rw [Nat.zero_mul, Nat.zero_add, Int.toNat_natCast]
    rw [hv] at hbe
    have henc : encN n = b :: r.take (k - 1) := by
      show (beN n (sizeN n)).modify 0 (fun b => b + headN (sizeN n)) = _
      rw [hs, hbe]
      show (((b.toNat - headN k : Nat) : Int) + headN k) :: r.take (k - 1) = _
      congr 1
      omega
    rw [henc]
    obtain ⟨j, rfl⟩ : ∃ j, k = j + 1 := ⟨k - 1, by omega⟩
    simp
theorem zz_unzz (n : Nat) : zzN (unzz n) = n := by
  unfold zzN unzz
  repeat' split
  all_goals omega
theorem rdI_e0 {bs : List Int} {e : Int} (h : (rdI bs e).2.2 = 0) : e = 0 := rdU_e0 h
theorem rdI_dec {bs : List Int} {e : Int} (hb : isB bs) (h : (rdI bs e).2.2 = 0) : bs = encI (rdI bs e).1 ++ (rdI bs e).2.1 := by
  have := rdU_dec hb h
  unfold rdI encI
  rw [zz_unzz]
  exact this
theorem rdD_e1 {bs : List Int} {e : Int} (h : (rdD bs e).2.2 = 0) : (rdI bs e).2.2 = 0 := rdI_e0 (bs := (rdI bs e).2.1) h
theorem rdD_e0 {bs : List Int} {e : Int} (h : (rdD bs e).2.2 = 0) : e = 0 := rdI_e0 (rdD_e1 h)
theorem rdD_dec {bs : List Int} {e : Int} (hb : isB bs) (h : (rdD bs e).2.2 = 0) : bs = encD (rdD bs e).1 ++ (rdD bs e).2.1 := by
  have h1 := rdI_dec hb (rdD_e1 h)
  have hb1 : isB (rdI bs e).2.1 := by rw [h1] at hb; exact isB_right hb
  have h2 := rdI_dec (e := (rdI bs e).2.2) hb1 h
  unfold rdD
  rw [if_neg (fun hn => hn h)]
  simp only [encD, List.append_assoc]
  rw [← h2]
  exact h1
theorem rdC_e1 {bs : List Int} {e : Int} (h : (rdC bs e).2.2 = 0) : rdC bs e = rdU bs e := by
  unfold rdC at h ⊢
  split at h
  · simp at h
  · rename_i hn
    rw [if_neg hn]
theorem rdL_e0 {bs : List Int} {e : Int} : ∀ {n : Nat}, (rdL bs e n).2.2 = 0 → e = 0
  | 0, h => h
  | n + 1, h => rdL_e0 (n := n) (rdD_e0 h)
theorem rdL_dec {bs : List Int} {e : Int} (hb : isB bs) : ∀ {n : Nat}, (rdL bs e n).2.2 = 0 → bs = encDs (rdL bs e n).1 ++ (rdL bs e n).2.1
  | 0, _ => rfl
  | n + 1, h => by
    have h1 := rdL_dec hb (n := n) (rdD_e0 h)
    have hb1 : isB (rdL bs e n).2.1 := by rw [h1] at hb; exact isB_right hb
    have h2 := rdD_dec (e := (rdL bs e n).2.2) hb1 h
    have h3 : encDs (rdL bs e (n + 1)).1 = encDs (rdL bs e n).1 ++ encD (rdD (rdL bs e n).2.1 (rdL bs e n).2.2).1 := by
      simp only [rdL, encDs, List.flatMap_append, List.flatMap_cons, List.flatMap_nil, List.append_nil]
    rw [h3, List.append_assoc]
    show bs = encDs (rdL bs e n).1 ++ (encD (rdD (rdL bs e n).2.1 (rdL bs e n).2.2).1 ++ (rdD (rdL bs e n).2.1 (rdL bs e n).2.2).2.1)
    rw [← h2]
    exact h1
theorem rdV_e1 {bs : List Int} {e : Int} (h : (rdV bs e).2.2 = 0) : rdV bs e = rdL (rdC bs e).2.1 (rdC bs e).2.2 (rdC bs e).1 ∧ (rdC bs e).2.2 = 0 := by
  unfold rdV at h ⊢
  split at h
  · rename_i h0
    split at h
    · rename_i hv
      rw [if_pos h0, if_pos hv]
      exact ⟨rfl, rdL_e0 h0⟩
    · simp at h
  · rename_i h0
    exact absurd h h0
theorem rdV_e0 {bs : List Int} {e : Int} (h : (rdV bs e).2.2 = 0) : e = 0 := by
  obtain ⟨-, h2⟩ := rdV_e1 h
  have h3 := rdC_e1 h2
  rw [h3] at h2
  exact rdU_e0 h2
theorem rdV_dec {bs : List Int} {e : Int} (hb : isB bs) (he : e ≠ 0 → bs = []) (h : (rdV bs e).2.2 = 0) : bs = encV (rdV bs e).1 ++ (rdV bs e).2.1 := by
  obtain ⟨h1, h2⟩ := rdV_e1 h
  have g1 : isB (rdC bs e).2.1 ∧ ((rdC bs e).2.2 ≠ 0 → (rdC bs e).2.1 = []) := let g := rdC_good hb he; ⟨g.1, g.2.1⟩
  have hl := (rdL_good g1.1 g1.2 (rdC bs e).1).2.2.2
  rw [h1] at h ⊢
  have h3 := rdC_e1 h2
  have h4 := rdL_dec g1.1 h
  rw [encV, hl, List.append_assoc, ← h4]
  rw [h3] at h2 ⊢
  exact rdU_dec hb h2
theorem rdT_e0 {bs : List Int} {e : Int} (h : (rdT bs e).2.2 = 0) : (rdU bs e).2.2 = 0 ∧ (rdU bs e).1 ≤ (rdU bs e).2.1.length := by
  unfold rdT at h
  split at h
  · assumption
  · simp only at h
    split at h
    · simp at h
    · rename_i h0
      exact absurd h h0
theorem rdT_dec {bs : List Int} {e : Int} (hb : isB bs) (h : (rdT bs e).2.2 = 0) : bs = encT (rdT bs e).1 ++ (rdT bs e).2.1 := by
  have h1 := rdT_e0 h
  have h2 := rdU_dec hb h1.1
  have hb1 : isB (rdU bs e).2.1 := by rw [h2] at hb; exact isB_right hb
  unfold rdT
  rw [if_pos h1]
  simp only
  rw [encT, bytesOf_size, strL_bytesOf (fun x hx => hb1 x (List.mem_of_mem_take hx)), List.length_take, Nat.min_eq_left h1.2, List.append_assoc, List.take_append_drop]
  exact h2
theorem formP_e0 {k : Int} {p : Rd} (h : (formP k p).2 = 0) : formP k p = p ∧ p.2 = 0 := by
  unfold formP at h ⊢
  split at h
  · rename_i hk
    rw [if_pos hk]
    exact ⟨rfl, h⟩
  · unfold failP at h
    simp only at h
    split at h
    · simp at h
    · rename_i h0
      exact absurd h h0
theorem rdO_dec {bs : List Int} {r : List Int} {o : OpA} (hb : isB bs) (h : rdO (bs, 0) = (o, (r, 0))) : mayO o ∧ bs = encO o ++ r := by
  unfold rdO rdF at h
  split at h
  rotate_left
  · rename_i h0
    injection h with _ h
    rw [h] at h0
    exact absurd rfl h0
  rename_i h0
  split at h
  rotate_left
  · unfold failP at h
    rw [if_pos h0, if_pos h0] at h
    injection h with _ h
    injection h with _ h
    exact absurd h (by decide)
  rename_i hm
  injection h with ho hr
  refine ⟨ho ▸ hm, ?_⟩
  -- the head
  have G0 : goodR bs.length (bs, 0) := ⟨hb, by simp, Nat.le_refl _⟩
  have key : (rdH (bs, 0)).2.2 = 0 ∧ (rdH (bs, 0)).2.1 = encX o ++ r ∧ o.id = (rdH (bs, 0)).1.id ∧ o.time = (rdH (bs, 0)).1.time ∧ o.deps = (rdH (bs, 0)).1.deps ∧ o.kind = (rdH (bs, 0)).1.kind ∧ o.block = (rdH (bs, 0)).1.block := by
    have GH := G0.h
    have hr1 : (rdB (rdH (bs, 0)).1 (rdH (bs, 0)).2).2.1 = r := by rw [hr]
    rw [← ho, ← hr1]
    clear hr ho hr1
    generalize rdH (bs, 0) = x at *
    obtain ⟨o1, p⟩ := x
    unfold rdB at h0 ⊢
    split at h0
    · rename_i hk
      simp only at hk h0 GH ⊢
      rw [if_pos hk]
      simp only
      have e2 := rdI_e0 h0
      have e1 := rdI_e0 e2
      have e0 := rdD_e0 e1
      have d1 := rdD_dec GH.1 e1
      have d2 := rdI_dec GH.d.1 e2
      have d3 := rdI_dec GH.d.i.1 h0
      refine ⟨e0, ?_, by simp⟩
      unfold encX
      simp only
      rw [if_neg (by omega), if_neg (by omega), List.append_assoc, List.append_assoc, ← d3, ← d2]
      exact d1
    split at h0
    · rename_i hk1 hk
      simp only at hk1 hk h0 GH ⊢
      rw [if_neg hk1, if_pos hk]
      simp only
      have e0 := rdD_e0 h0
      have d1 := rdD_dec GH.1 h0
      refine ⟨e0, ?_, by simp⟩
      unfold encX
      simp only
      rw [if_neg (by omega), if_pos hk]
      exact d1
    split at h0
    · rename_i hk1 hk2 hk
      simp only at hk1 hk2 hk h0 GH ⊢
      rw [if_neg hk1, if_neg hk2, if_pos hk]
      simp only
      have e1 := rdU_e0 (rdT_e0 h0).1
      have e0 := rdD_e0 e1
      have d1 := rdD_dec GH.1 e1
      have d2 := rdT_dec GH.d.1 h0
      refine ⟨e0, ?_, by simp⟩
      unfold encX
      simp only
      rw [if_pos hk, List.append_assoc, ← d2]
      exact d1
    · rename_i hk1 hk2 hk3
      exfalso
      rw [rdB, if_neg hk1, if_neg hk2, if_neg hk3] at hm
      rcases hm.2 with h | h | h
      · exact hk1 h.1
      · exact hk2 h.1
      · exact hk3 h.1
  obtain ⟨k0, k1, k2, k3, k4, k5, k6⟩ := key
  have e5 : (rdD (formP _ _).1 (formP _ _).2).2.2 = 0 := k0
  have e4 := formP_e0 (rdD_e0 e5)
  have e3 := rdI_e0 e4.2
  have e2 := rdV_e0 e3
  have e1 := rdI_e0 e2
  have d0 := rdD_dec G0.1 e1
  have d1 := rdI_dec G0.d.1 e2
  have d2 := rdV_dec G0.d.i.1 G0.d.i.2.1 e3
  have d3 := rdI_dec G0.d.i.v.1 e4.2
  have d4 := rdD_dec (G0.d.i.v.i.form _).1 e5
  rw [e4.1] at d4
  unfold encO
  rw [k2, k3, k4, k5, k6]
  simp only [List.append_assoc]
  rw [← k1]
  have f4 : (rdI (rdV (rdI (rdD bs 0).2.1 (rdD bs 0).2.2).2.1 (rdI (rdD bs 0).2.1 (rdD bs 0).2.2).2.2).2.1 (rdV (rdI (rdD bs 0).2.1 (rdD bs 0).2.2).2.1 (rdI (rdD bs 0).2.1 (rdD bs 0).2.2).2.2).2.2).2.1 = encD (rdH (bs, 0)).1.block ++ (rdH (bs, 0)).2.1 := by
    have : (rdH (bs, 0)).1.block = (rdD (formP _ _).1 (formP _ _).2).1 := rfl
    rw [this]
    have : (rdH (bs, 0)).2.1 = (rdD (formP _ _).1 (formP _ _).2).2.1 := rfl
    rw [this, e4.1]
    exact d4
  rw [← f4]
  refine d0.trans ?_
  congr 1
  refine d1.trans ?_
  congr 1
  refine d2.trans ?_
  congr 1
end Go.Osj
