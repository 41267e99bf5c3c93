/- Texts, put and taken. -/
import Derived.Test.YtfadbihdmohdiaaDoorKA
set_option linter.unusedVariables false
set_option linter.unusedSimpArgs false
namespace Go.Osj
def strL (s : ByteArray) : List Int := (bl s).map fun b => (b.toNat : Int)
theorem strL_len (s : ByteArray) : (strL s).length = s.size := by rw [strL, List.length_map, bl_size]
theorem isB_strL (s : ByteArray) : isB (strL s) := by
  intro b hb
  obtain ⟨c, -, rfl⟩ := List.mem_map.1 hb
  have := c.toNat_lt
  omega
theorem bytesOf_strL (s : ByteArray) : bytesOf (strL s) = s := by
  apply ByteArray.ext
  apply Array.toList_inj.1
  simp [bytesOf, strL, bl, List.map_map, Function.comp_def]
theorem strL_bytesOf {xs : List Int} (h : isB xs) : strL (bytesOf xs) = xs := by
  simp only [strL, bl, bytesOf, List.map_map, Function.comp_def]
  conv => rhs; rw [← List.map_id xs]
  apply List.map_congr_left
  intro b hb
  have := h b hb
  have h2 : b.toNat < 256 := by omega
  have h3 : (UInt8.ofNat b.toNat).toNat = b.toNat := by rw [UInt8.toNat_ofNat']; exact Nat.mod_eq_of_lt h2
  rw [h3]
  simp only [id]
  omega
theorem loadX_str (S : St) (s : ByteArray) : S.loadX 1 (.string s) = some (s.size, u8s (strL s)) := by
  simp [St.loadX, strL, bl, List.map_map, Function.comp_def]
def encT (s : ByteArray) : List Int := encN s.size ++ strL s
theorem F.num_Text_J {S : St} {l : Value} {bs : List Int} {s : ByteArray} (hl : SlT byteE S l bs) (hL : bs.length < 100000000) (hs : s.size < 1000000) :
    J PR F.num_Text [l, .string s] S fun v S' => OwnT byteE S.n S' v (bs ++ encT s) ∧ S.Ext S' := by
  obtain ⟨base, cap, rfl⟩ := hl.len byteE
  have hn9 : (encN s.size).length ≤ 9 := by rw [encN_len]; exact (sizeN_range _).2
  refine J_by PR.mixed F.num_Text.ok (by simp) ?_
  simp (disch := omega) only [go_sem, ↓reduceIte, Nat.reduceEqDiff, Nat.reduceAdd, Nat.reduceMul, Nat.reduceSub, Nat.reduceLT, Nat.reduceLeDiff, Nat.reduceBEq, reduceCtorEq, Int.reduceLT, Int.reduceEq, Int.reduceLE, Int.reduceAdd, Int.reduceSub, Int.reduceToNat, Int.reduceNeg, wrapu64]
  refine wJ_of (F.num_Uint_J hl (by omega) (by omega)) ?_; rintro v1 S1 ⟨ho1, he1⟩
  simp (disch := omega) only [go_sem, ↓reduceIte, Nat.reduceEqDiff, Nat.reduceAdd, Nat.reduceMul, Nat.reduceSub, Nat.reduceLT, Nat.reduceLeDiff, Nat.reduceBEq, reduceCtorEq, Int.reduceLT, Int.reduceEq, Int.reduceLE, Int.reduceAdd, Int.reduceSub, Int.reduceToNat, Int.reduceNeg]
  refine wE_appX byteE (ys := strL s) ho1 (by simp (disch := omega) only [go_sem, ↓reduceIte, Nat.reduceEqDiff, Nat.reduceAdd, Nat.reduceMul, Nat.reduceSub, Nat.reduceLT, Nat.reduceLeDiff, Nat.reduceBEq, reduceCtorEq, Int.reduceLT, Int.reduceEq, Int.reduceLE, Int.reduceAdd, Int.reduceSub, Int.reduceToNat, Int.reduceNeg]; rw [byteE_flat, strL_len]; exact loadX_str _ _) rfl he1.n (by simp only [List.length_append, strL_len]; omega) (by simp only [List.length_append, strL_len]; omega) fun v8 S8 ho8 hb8 hv8 => ?_
  simp (disch := omega) only [go_sem, ↓reduceIte, Nat.reduceEqDiff, Nat.reduceAdd, Nat.reduceMul, Nat.reduceSub, Nat.reduceLT, Nat.reduceLeDiff, Nat.reduceBEq, reduceCtorEq, Int.reduceLT, Int.reduceEq, Int.reduceLE, Int.reduceAdd, Int.reduceSub, Int.reduceToNat, Int.reduceNeg]
  exact ⟨by simpa [encT] using ho8, he1.but hb8 (ho1.fresh byteE)⟩
theorem F.osierref01_Text_J {S : St} {s : ByteArray} (hs : s.size < 1000000) :
    J PR F.osierref01_Text [.string s] S fun v S' => OwnT byteE S.n S' v (encT s) ∧ S.Ext S' := by
  have hn9 : (encN s.size).length ≤ 9 := by rw [encN_len]; exact (sizeN_range _).2
  refine J_by PR.mixed F.osierref01_Text.ok (by simp) ?_
  simp (disch := omega) only [go_sem, ↓reduceIte, Nat.reduceEqDiff, Nat.reduceAdd, Nat.reduceMul, Nat.reduceSub, Nat.reduceLT, Nat.reduceLeDiff, Nat.reduceBEq, reduceCtorEq, Int.reduceLT, Int.reduceEq, Int.reduceLE, Int.reduceAdd, Int.reduceSub, Int.reduceToNat, Int.reduceNeg, wrapu64]
  refine wJ_of (F.osierref01_Uint_J (by omega)) ?_; rintro v1 S1 ⟨ho1, he1⟩
  simp (disch := omega) only [go_sem, ↓reduceIte, Nat.reduceEqDiff, Nat.reduceAdd, Nat.reduceMul, Nat.reduceSub, Nat.reduceLT, Nat.reduceLeDiff, Nat.reduceBEq, reduceCtorEq, Int.reduceLT, Int.reduceEq, Int.reduceLE, Int.reduceAdd, Int.reduceSub, Int.reduceToNat, Int.reduceNeg]
  refine wE_appX byteE (ys := strL s) ho1 (by simp (disch := omega) only [go_sem, ↓reduceIte, Nat.reduceEqDiff, Nat.reduceAdd, Nat.reduceMul, Nat.reduceSub, Nat.reduceLT, Nat.reduceLeDiff, Nat.reduceBEq, reduceCtorEq, Int.reduceLT, Int.reduceEq, Int.reduceLE, Int.reduceAdd, Int.reduceSub, Int.reduceToNat, Int.reduceNeg]; rw [byteE_flat, strL_len]; exact loadX_str _ _) rfl he1.n (by simp only [strL_len]; omega) (by simp only [strL_len]; omega) fun v8 S8 ho8 hb8 hv8 => ?_
  simp (disch := omega) only [go_sem, ↓reduceIte, Nat.reduceEqDiff, Nat.reduceAdd, Nat.reduceMul, Nat.reduceSub, Nat.reduceLT, Nat.reduceLeDiff, Nat.reduceBEq, reduceCtorEq, Int.reduceLT, Int.reduceEq, Int.reduceLE, Int.reduceAdd, Int.reduceSub, Int.reduceToNat, Int.reduceNeg]
  exact ⟨by simpa [encT] using ho8, he1.but hb8 (ho1.fresh byteE)⟩
/-- a text, taken -/
def rdT (bs : List Int) (e : Int) : ByteArray × List Int × Int :=
  if (rdU bs e).2.2 = 0 ∧ (rdU bs e).1 ≤ (rdU bs e).2.1.length then (bytesOf ((rdU bs e).2.1.take (rdU bs e).1), (rdU bs e).2.1.drop (rdU bs e).1, 0)
  else (bytesOf [], [], if (rdU bs e).2.2 = 0 then 10 else (rdU bs e).2.2)
theorem rdT_good {bs : List Int} {e : Int} (hb : isB bs) (he : e ≠ 0 → bs = []) : isB (rdT bs e).2.1 ∧ ((rdT bs e).2.2 ≠ 0 → (rdT bs e).2.1 = []) ∧ (rdT bs e).2.1.length ≤ bs.length ∧ (rdT bs e).1.size ≤ bs.length := by
  obtain ⟨h1, h2, h3, h4⟩ := rdU_good hb he
  unfold rdT
  split
  · refine ⟨fun b hb => h1 b (List.mem_of_mem_drop hb), fun h => absurd rfl h, ?_, ?_⟩
    · simp only [List.length_drop]; omega
    · rw [bytesOf_size, List.length_take]; omega
  · exact ⟨by simp [isB], fun _ => rfl, by simp, by rw [bytesOf_size]; simp⟩
theorem rdT_enc {s : ByteArray} (hs : s.size < 1000000) (r : List Int) : rdT (encT s ++ r) 0 = (s, r, 0) := by
  have h1 : rdU (encT s ++ r) 0 = (s.size, strL s ++ r, 0) := by
    unfold encT
    rw [List.append_assoc, rdU_enc (by omega)]
  unfold rdT
  rw [h1]
  simp only
  rw [if_pos ⟨trivial, by rw [List.length_append, strL_len]; omega⟩]
  rw [List.take_append_of_le_length (by rw [strL_len]; omega), List.take_of_length_le (by rw [strL_len]; omega), bytesOf_strL]
  rw [List.drop_append_of_le_length (by rw [strL_len]; omega), List.drop_of_length_le (by rw [strL_len]; omega)]
  rfl
theorem F.num_Reader_Text_J {S : St} {q B : Nat} {bs : List Int} {e : Int} (h : RdT S q B bs e) (hb : isB bs) (he : e ≠ 0 → bs = []) (hL : bs.length < 1000000000) :
    J PR F.num_Reader_Text [ptrV q] S fun v S' => v = .string (rdT bs e).1 ∧ RdT S' q B (rdT bs e).2.1 (rdT bs e).2.2 ∧ St.But (ptrV q) S S' := by
  obtain ⟨g1, g2, g3, g4⟩ := rdU_good hb he
  refine J_by PR.mixed F.num_Reader_Text.ok (by simp) ?_
  simp (disch := omega) only [go_sem, ↓reduceIte, Nat.reduceEqDiff, Nat.reduceAdd, Nat.reduceMul, Nat.reduceSub, Nat.reduceLT, Nat.reduceLeDiff, Nat.reduceBEq, reduceCtorEq, Int.reduceLT, Int.reduceEq, Int.reduceLE, Int.reduceAdd, Int.reduceSub, Int.reduceToNat, Int.reduceNeg]
  refine wJ_of (F.num_Reader_Uint_J h hb he hL) ?_; rintro _ S1 ⟨rfl, hr1, hb1⟩
  unfold rdT
  generalize rdU bs e = u at *
  obtain ⟨n, bs2, e2⟩ := u
  simp only at *
  simp (disch := omega) only [go_sem, ↓reduceIte, Nat.reduceEqDiff, Nat.reduceAdd, Nat.reduceMul, Nat.reduceSub, Nat.reduceLT, Nat.reduceLeDiff, Nat.reduceBEq, reduceCtorEq, Int.reduceLT, Int.reduceEq, Int.reduceLE, Int.reduceAdd, Int.reduceSub, Int.reduceToNat, Int.reduceNeg]
  refine wJ_of (F.num_Reader_take_J hr1 (by omega)) ?_; rintro v2 S2 ⟨hb2, hcs⟩
  rcases hcs with ⟨h0, hle, hsl, -, hr2⟩ | ⟨hno, rfl, hr2⟩
  · have htx := hsl.text
    rw [if_pos ⟨h0, hle⟩]
    simp (disch := omega) only [go_sem, ↓reduceIte, Nat.reduceEqDiff, Nat.reduceAdd, Nat.reduceMul, Nat.reduceSub, Nat.reduceLT, Nat.reduceLeDiff, Nat.reduceBEq, reduceCtorEq, Int.reduceLT, Int.reduceEq, Int.reduceLE, Int.reduceAdd, Int.reduceSub, Int.reduceToNat, Int.reduceNeg, htx]
    exact ⟨hr2, hb1.trans hb2⟩
  · have htx := (nil_sl S2).text
    rw [if_neg hno]
    simp (disch := omega) only [go_sem, ↓reduceIte, Nat.reduceEqDiff, Nat.reduceAdd, Nat.reduceMul, Nat.reduceSub, Nat.reduceLT, Nat.reduceLeDiff, Nat.reduceBEq, reduceCtorEq, Int.reduceLT, Int.reduceEq, Int.reduceLE, Int.reduceAdd, Int.reduceSub, Int.reduceToNat, Int.reduceNeg, htx]
    refine ⟨?_, hb1.trans hb2⟩
    by_cases h0 : e2 = 0
    · simpa [h0] using hr2
    · have := g2 h0
      simpa [h0, this] using hr2
theorem F.osierref01_R_Text_J {S : St} {q B : Nat} {bs : List Int} {e : Int} (h : RdT S q B bs e) (hb : isB bs) (he : e ≠ 0 → bs = []) (hL : bs.length < 1000000000) :
    J PR F.osierref01_R_Text [ptrV q] S fun v S' => v = .string (rdT bs e).1 ∧ RdT S' q B (rdT bs e).2.1 (rdT bs e).2.2 ∧ St.But (ptrV q) S S' := by
  obtain ⟨g1, g2, g3, g4⟩ := rdU_good hb he
  refine J_by PR.mixed F.osierref01_R_Text.ok (by simp) ?_
  simp (disch := omega) only [go_sem, ↓reduceIte, Nat.reduceEqDiff, Nat.reduceAdd, Nat.reduceMul, Nat.reduceSub, Nat.reduceLT, Nat.reduceLeDiff, Nat.reduceBEq, reduceCtorEq, Int.reduceLT, Int.reduceEq, Int.reduceLE, Int.reduceAdd, Int.reduceSub, Int.reduceToNat, Int.reduceNeg]
  refine wJ_of (F.osierref01_R_Uint_J h hb hL) ?_; rintro _ S1 ⟨rfl, hr1, hb1⟩
  unfold rdT
  generalize rdU bs e = u at *
  obtain ⟨n, bs2, e2⟩ := u
  simp only at *
  have hr1' := hr1
  obtain ⟨v, ho, hq, hs, hv⟩ := hr1'
  obtain ⟨base, cap, rfl⟩ := hs.len byteE
  have c0 : S1.cell ⟨q, 0, none⟩ = some (.slice base bs2.length cap) := by rw [St.cell_def, ho]; rfl
  have c1 : S1.cell ⟨q, 1, none⟩ = some (.int .i64 e2) := by rw [St.cell_def, ho]; rfl
  by_cases h0 : e2 = 0
  · subst h0
    by_cases hle : n ≤ bs2.length
    · have hx : ¬ ((bs2.length : Int) < (n : Int)) := by omega
      rw [if_pos ⟨rfl, hle⟩]
      obtain ⟨u, hu, hus⟩ := hs.to byteE (k := n) (q := .u64) (i := n) rfl hle
      replace hu : slV 1 _ _ _ _ = _ := hu
      obtain ⟨u2, hu2, hus2⟩ := hs.from byteE (l := n) (q := .u64) (i := n) rfl hle
      replace hu2 : slV 1 _ _ _ _ = _ := hu2
      have htx := hus.text
      simp (disch := omega) only [go_sem, ↓reduceIte, Nat.reduceEqDiff, Nat.reduceAdd, Nat.reduceMul, Nat.reduceSub, Nat.reduceLT, Nat.reduceLeDiff, Nat.reduceBEq, reduceCtorEq, Int.reduceLT, Int.reduceEq, Int.reduceLE, Int.reduceAdd, Int.reduceSub, Int.reduceToNat, Int.reduceNeg, c0, c1, wrapu64, hx, hu, hu2, htx]
      have hc2 := slV_cells hu2
      refine wst_of ho (by rw [hc2]; rfl) (by rw [hc2]; have := hus2.len byteE; obtain ⟨b, c, rfl⟩ := this; rfl) (by simp) (by simp) ?_
      rw [hc2]
      simp (disch := omega) only [go_sem, ↓reduceIte, Nat.reduceEqDiff, Nat.reduceAdd, Nat.reduceMul, Nat.reduceSub, Nat.reduceLT, Nat.reduceLeDiff, Nat.reduceBEq, reduceCtorEq, Int.reduceLT, Int.reduceEq, Int.reduceLE, Int.reduceAdd, Int.reduceSub, Int.reduceToNat, Int.reduceNeg]
      refine ⟨RdT.set hus2 fun h => ?_, hb1.trans (but_put ..)⟩
      rw [slV_blk hu2]
      exact hv fun hb => h (by rw [hb]; simp)
    · have hx : ((bs2.length : Int) < (n : Int)) := by omega
      rw [if_neg (fun h => hle h.2)]
      simp (disch := omega) only [go_sem, ↓reduceIte, Nat.reduceEqDiff, Nat.reduceAdd, Nat.reduceMul, Nat.reduceSub, Nat.reduceLT, Nat.reduceLeDiff, Nat.reduceBEq, reduceCtorEq, Int.reduceLT, Int.reduceEq, Int.reduceLE, Int.reduceAdd, Int.reduceSub, Int.reduceToNat, Int.reduceNeg, c0, c1, wrapu64, hx]
      refine wJ_of (F.osierref01_R_Fail_J (x := 10) hr1 (by decide)) ?_; rintro _ S3 ⟨rfl, hr3, hb3⟩
      have c3 := hr3.cell1
      simp only [if_true] at c3 hr3
      simp (disch := omega) only [go_sem, ↓reduceIte, Nat.reduceEqDiff, Nat.reduceAdd, Nat.reduceMul, Nat.reduceSub, Nat.reduceLT, Nat.reduceLeDiff, Nat.reduceBEq, reduceCtorEq, Int.reduceLT, Int.reduceEq, Int.reduceLE, Int.reduceAdd, Int.reduceSub, Int.reduceToNat, Int.reduceNeg, c3]
      exact ⟨rfl, hr3, hb1.trans hb3⟩
  · have := g2 h0
    subst this
    rw [if_neg (fun h => h0 h.1), if_neg h0]
    simp (disch := omega) only [go_sem, ↓reduceIte, Nat.reduceEqDiff, Nat.reduceAdd, Nat.reduceMul, Nat.reduceSub, Nat.reduceLT, Nat.reduceLeDiff, Nat.reduceBEq, reduceCtorEq, Int.reduceLT, Int.reduceEq, Int.reduceLE, Int.reduceAdd, Int.reduceSub, Int.reduceToNat, Int.reduceNeg, c0, c1, wrapu64, h0]
    exact ⟨rfl, hr1, hb1⟩
end Go.Osj
