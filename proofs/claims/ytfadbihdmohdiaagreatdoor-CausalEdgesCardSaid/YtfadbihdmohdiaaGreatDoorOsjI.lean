/- The operations that write, that make blocks, that call: append, copy, maps, iterators; the one theorem, 'sound_E'. -/
import Derived.Test.YtfadbihdmohdiaaGreatDoorOsjH
namespace Go.Osj
open Go.RowKit
section
variable {P : Program} {c0 w : World} {S : St} {fr : Fr} {K : Value → St → Prop} {o : Oper} {a : Act} {next : Act → World → Prop} {Q : Exit → Act → World → Prop}

theorem Rel.firstCells {esz n : Nat} {base : Option Addr} {len cap : Nat} {cs : List Value} (h : Rel c0 S w) (hl : S.loadSl esz base n = some cs) :
    (Builtin.firstCells esz n (.slice base len cap)).run P w = .ok cs.toArray w ∧ cs.length = n * esz := by
  unfold St.loadSl at hl
  split at hl
  · rename_i h0
    injection hl with hl
    subst hl
    refine ⟨?_, by simp [h0]⟩
    cases base with
    | none => simp [run_firstCells_none]
    | some a => exact run_firstCells_some (P := P) w esz n a len cap [] (by simp [h0]) (by simp)
  · cases base with
    | none => simp at hl
    | some a =>
      simp only at hl
      obtain ⟨h1, h2⟩ := h.loadN hl
      exact ⟨run_firstCells_some (P := P) w esz n a len cap cs h1 h2, h1⟩

theorem Rel.firstX {esz m : Nat} {v : Value} {cs : List Value} (h : Rel c0 S w) (hl : S.loadX esz v = some (m, cs)) :
    (Builtin.firstCells esz m v).run P w = .ok cs.toArray w ∧ cs.length = m * esz ∧ (Builtin.lenOf v).run P w = .ok m w := by
  cases v <;> simp only [St.loadX] at hl <;> try (simp at hl; done)
  case slice b n c =>
    simp only [Option.map_eq_some_iff, Prod.mk.injEq] at hl
    obtain ⟨cs', h1, rfl, rfl⟩ := hl
    obtain ⟨h2, h3⟩ := h.firstCells (P := P) (len := n) (cap := c) h1
    exact ⟨h2, h3, by simp [Builtin.lenOf]⟩
  case string s =>
    split at hl
    · rename_i h1
      subst h1
      simp only [Option.some.injEq, Prod.mk.injEq] at hl
      obtain ⟨rfl, rfl⟩ := hl
      refine ⟨?_, ?_, by simp [Builtin.lenOf]⟩
      · simp only [Builtin.firstCells, Sem.run_pure]
        congr 1
        rw [ByteArray.extract_zero_size]
        apply Array.ext'
        simp
      · rw [List.length_map, Array.length_toList, Nat.mul_one]
        rfl
    · simp at hl

theorem sound_app {t u ty : TypeId} {s x : Operand} {i : TypeInfo} {e e2 : TypeId} {z : Value} (ht : P.underlying t = some (.slice e)) (hut : P.underlying u = some (.slice e2) ∨ P.underlying u = some .string) (hi : P.info? e = some i) (hz : i.zero = some z) (hzs : z.cells.size = i.size)
    (h : Rel c0 S w) (hj : JE P fr S K (.app i.size i.bytes s x)) : EffOk P c0 w K (do pure (Next.value (← Builtin.append_ #[t, u] ty #[ev fr s, ev fr x]))) := by
  simp only [JE] at hj
  cases hs : ev fr s <;> simp only [hs] at hj
  rename_i bs n c
  obtain ⟨m, news, hnews, hroom, hgrow⟩ := hj
  obtain ⟨hf, hfl, hm⟩ := h.firstX (P := P) hnews
  generalize ev fr x = xv at hnews hf hm ⊢
  by_cases hc : n + m ≤ c
  · have hk := hroom hc
    cases bs with
    | none =>
      refine EffOk.val (v := .slice none (n + m) c) (w' := w) ?_ h hk
      rcases hut with hut | hut <;> simp [Builtin.append_, run_underlying ht, run_underlying hut, sizeOf, typeInfo, hi, hm, hc, hf]
    | some ad =>
      simp only at hk
      split at hk
      · rename_i h0
        refine EffOk.val (v := .slice (some ad) (n + m) c) (w' := w) ?_ h hk
        have hnil : news = [] := List.eq_nil_of_length_eq_zero (by omega)
        subst hnil
        rcases hut with hut | hut <;> simp [Builtin.append_, run_underlying ht, run_underlying hut, sizeOf, typeInfo, hi, hm, hc, hf, storeCells]
      · obtain ⟨h1, hsp, S', hw, hk⟩ := hk
        obtain ⟨w', hr, hrel⟩ := h.write hw (oneC_mem h1)
        refine EffOk.val (v := .slice (some ad) (n + m) c) (w' := w') ?_ hrel hk
        have hadd : ad.add (n * i.size) = ⟨ad.block, ad.off + n * i.size, none⟩ := add_none ad hsp _
        rcases hut with hut | hut <;> simp [Builtin.append_, run_underlying ht, run_underlying hut, sizeOf, typeInfo, hi, hm, hc, hf, hadd, hr P]
  · obtain ⟨olds, ho, hb, h63, hk⟩ := hgrow (by omega)
    have hd := h.drew
    obtain ⟨hf', _, _⟩ := hd.firstX (P := P) hnews
    obtain ⟨hfo, hlo⟩ := hd.firstCells (P := P) (len := n) (cap := c) ho
    have h63' : ¬ (9223372036854775807 < ((n : Int) + (m : Int))) := by omega
    have hfit := growslice_fits (need := n + m) (old := c) (bytes := i.bytes) (by omega) hb
    have h48' : ¬ (281474976710656 < Builtin.nextslicecap (n + m) c * i.bytes) := by omega
    have hcap : n + m ≤ grownCap w (n + m) c e := by simp only [grownCap, Question.cut]; omega
    have hr : (Builtin.append_ #[t, u] ty #[.slice bs n c, xv]).run P w = .ok (.slice (some ⟨w.heap.size, 0, none⟩) (n + m) (grownCap w (n + m) c e))
        (w.drew.alloc (.cells (olds.toArray ++ news.toArray ++ Builtin.zeroCells z.cells (grownCap w (n + m) c e - (n + m))) e)) := by
      have key : ∀ a b d : Array Value, a ++ (b ++ d) = a ++ b ++ d := fun a b d => by simp [Array.append_assoc]
      rcases hut with hut | hut <;> simp [Builtin.append_, run_underlying ht, run_underlying hut, sizeOf, typeInfo, zeroValue, hi, hz, hm, hc, h63', h48', Question.forced, hf', hfo, newRow, grownCap]
      all_goals
        congr 2
        apply Array.ext'
        simp [List.append_assoc]
    refine EffOk.val hr (hd.newCells (cs := olds ++ news) (cap := grownCap w (n + m) c e * i.size) ?_ ?_) (hk _ _ h.size hcap)
    · simp only [Array.size_append, size_zeroCells, hzs, List.size_toArray, hlo, hfl]
      rw [← Nat.add_mul, ← Nat.add_mul]
      congr 1
      omega
    · simp [-List.append_assoc]

theorem zeroCells_row (z : Array Value) (n k : Nat) (hz : z.size = k) : (Builtin.zeroCells z n) = (rowC z.toList (n * k)).toArray := by
  subst hz
  unfold Builtin.zeroCells rowC
  rfl

theorem sound_appZ {t u ty : TypeId} {s x : Operand} {i : TypeInfo} {e : TypeId} {z : Value} {ku : IntKind} (ht : P.underlying t = some (.slice e)) (hut : P.underlying u = some (.int ku)) (hi : P.info? e = some i) (hz : i.zero = some z) (hzs : z.cells.size = i.size) (hpos : i.size ≠ 0)
    (h : Rel c0 S w) (hj : JE P fr S K (.appZ i.size i.bytes z.cells.toList s x)) : EffOk P c0 w K (do pure (Next.value (← Builtin.append_ #[t, u] ty #[ev fr s, ev fr x]))) := by
  simp only [JE] at hj
  cases hs : ev fr s <;> simp only [hs] at hj
  rename_i bs n c
  cases hx : ev fr x <;> simp only [hx] at hj
  rename_i kx m
  obtain ⟨h0, h63m, hbm, hroom, hgrow⟩ := hj
  obtain ⟨m, rfl⟩ := Int.eq_ofNat_of_zero_le h0
  simp only [Int.toNat_natCast] at hroom hgrow
  have hw : IntKind.i64.wrap (m : Int) = m := by simp [IntKind.wrap, IntKind.bits, IntKind.signed]; omega
  have hneg : ¬ ((m : Int) < 0) := by omega
  have hbm' : ¬ (281474976710656 < (m : Int) * (i.bytes : Int)) := by omega
  have hlen : (rowC z.cells.toList (m * i.size)).length = m * i.size := by simp [rowC]
  by_cases hc : n + m ≤ c
  · have hk := hroom hc
    cases bs with
    | none =>
      refine EffOk.val (v := .slice none (n + m) c) (w' := w) ?_ h hk
      simp [Builtin.append_, run_underlying ht, run_underlying hut, sizeOf, typeInfo, zeroValue, hi, hz, asInt, asIntOf, hw, hneg, hbm', hc]
    | some ad =>
      simp only at hk
      split at hk
      · rename_i hm0
        refine EffOk.val (v := .slice (some ad) (n + m) c) (w' := w) ?_ h hk
        simp [Builtin.append_, run_underlying ht, run_underlying hut, sizeOf, typeInfo, zeroValue, hi, hz, asInt, asIntOf, hw, hneg, hbm', hc, hm0, storeCells]
      · rename_i hm0
        obtain ⟨h1, hsp, S', hwr, hk⟩ := hk
        obtain ⟨w', hr, hrel⟩ := h.write hwr (oneC_mem h1)
        refine EffOk.val (v := .slice (some ad) (n + m) c) (w' := w') ?_ hrel hk
        have hadd : ad.add (n * i.size) = ⟨ad.block, ad.off + n * i.size, none⟩ := add_none ad hsp _
        have hzr := zeroCells_row z.cells m i.size hzs
        simp [Builtin.append_, run_underlying ht, run_underlying hut, sizeOf, typeInfo, zeroValue, hi, hz, asInt, asIntOf, hw, hneg, hbm', hc, hm0, hadd, hzr, hr P]
  · obtain ⟨olds, ho, hbp, hb, h63, hk⟩ := hgrow (by omega)
    have hd := h.drew
    obtain ⟨hfo, hlo⟩ := hd.firstCells (P := P) (len := n) (cap := c) ho
    have h63' : ¬ (9223372036854775807 < ((n : Int) + (m : Int))) := by omega
    have hfit := growslice_fits (need := n + m) (old := c) (bytes := i.bytes) (by omega) hb
    have h48' : ¬ (281474976710656 < Builtin.nextslicecap (n + m) c * i.bytes) := by omega
    have hcap : n + m ≤ grownCap w (n + m) c e := by simp only [grownCap, Question.cut]; omega
    have hm0 : ¬ (m * i.size = 0) := by
      intro hm
      rcases Nat.mul_eq_zero.1 hm with h | h
      · omega
      · exact hpos h
    have hzr := zeroCells_row z.cells m i.size hzs
    have hr : (Builtin.append_ #[t, u] ty #[.slice bs n c, .int kx m]).run P w = .ok (.slice (some ⟨w.heap.size, 0, none⟩) (n + m) (grownCap w (n + m) c e))
        (w.drew.alloc (.cells (olds.toArray ++ (rowC z.cells.toList (m * i.size)).toArray ++ Builtin.zeroCells z.cells (grownCap w (n + m) c e - (n + m))) e)) := by
      rw [← hzr]
      simp [Builtin.append_, run_underlying ht, run_underlying hut, sizeOf, typeInfo, zeroValue, hi, hz, asInt, asIntOf, hw, hneg, hbm', hc, hm0, h63', h48', Question.forced, hfo, newRow, grownCap]
    refine EffOk.val hr (hd.newCells (cs := olds ++ rowC z.cells.toList (m * i.size)) (cap := grownCap w (n + m) c e * i.size) ?_ ?_) (hk _ _ h.size hcap)
    · simp only [Array.size_append, size_zeroCells, hzs, List.size_toArray, hlo, hlen]
      rw [← Nat.add_mul, ← Nat.add_mul]
      congr 1
      omega
    · simp [-List.append_assoc]

theorem sound_cp {d s : Operand} {t u ty e : TypeId} {i : TypeInfo} (ht : P.underlying t = some (.slice e)) (hi : P.info? e = some i)
    (h : Rel c0 S w) (hj : JE P fr S K (.cp i.size d s)) : EffOk P c0 w K (do pure (Next.value (← Builtin.copy_ #[t, u] ty #[ev fr d, ev fr s]))) := by
  simp only [JE] at hj
  cases hd : ev fr d <;> simp only [hd] at hj
  rename_i bd n c
  cases hs : ev fr s <;> simp only [hs] at hj
  rename_i bs m cx
  obtain ⟨news, hnews, hk⟩ := hj
  obtain ⟨hf, hfl⟩ := h.firstCells (P := P) (len := m) (cap := cx) hnews
  cases bd with
  | none =>
    refine EffOk.val (v := .int .i64 (Nat.min m n)) (w' := w) ?_ h hk
    simp [Builtin.copy_, run_underlying ht, sizeOf, typeInfo, hi, Builtin.lenOf, hf, goInt]
  | some ad =>
    simp only at hk
    split at hk
    · rename_i h0
      refine EffOk.val (v := .int .i64 (Nat.min m n)) (w' := w) ?_ h hk
      have hnil : news = [] := List.eq_nil_of_length_eq_zero (by omega)
      subst hnil
      simp [Builtin.copy_, run_underlying ht, sizeOf, typeInfo, hi, Builtin.lenOf, hf, goInt, storeCells]
    · obtain ⟨h1, S', hw, hk⟩ := hk
      obtain ⟨w', hr, hrel⟩ := h.write hw (oneC_mem h1)
      refine EffOk.val (v := .int .i64 (Nat.min m n)) (w' := w') ?_ hrel hk
      simp [Builtin.copy_, run_underlying ht, sizeOf, typeInfo, hi, Builtin.lenOf, hf, goInt, hr P]

theorem sound_clr {x : Operand} {t ty e : TypeId} {i : TypeInfo} {z : Value} (ht : P.underlying t = some (.slice e)) (hi : P.info? e = some i) (hz : i.zero = some z) (hzs : z.cells.size = i.size)
    (h : Rel c0 S w) (hj : JE P fr S K (.clr i.size z.cells.toList x)) : EffOk P c0 w K (do pure (Next.value (← Builtin.clear_ #[t] ty #[ev fr x]))) := by
  simp only [JE] at hj
  cases hx : ev fr x <;> simp only [hx] at hj
  rename_i bs n c
  cases bs with
  | none =>
    refine EffOk.val (v := .tuple #[]) (w' := w) ?_ h hj
    simp [Builtin.clear_, run_underlying ht]
  | some ad =>
    simp only at hj
    split at hj
    · rename_i h0
      subst h0
      refine EffOk.val (v := .tuple #[]) (w' := w) ?_ h hj
      simp [Builtin.clear_, run_underlying ht]
    · rename_i h0
      obtain ⟨h1, S', hw, hk⟩ := hj
      obtain ⟨w', hr, hrel⟩ := h.write hw (oneC_mem h1)
      refine EffOk.val (v := .tuple #[]) (w' := w') ?_ hrel hk
      have hzr := zeroCells_row z.cells n i.size hzs
      obtain ⟨m, rfl⟩ : ∃ m, n = m + 1 := ⟨n - 1, by omega⟩
      simp [Builtin.clear_, run_underlying ht, zeroValue, typeInfo, hi, hz, hzr, hr P]

theorem sound_mkMap {t : TypeId} (h : Rel c0 S w) (hj : JE P fr S K .mkMap) : EffOk P c0 w K (do pure (Next.value (← Instr.makeMap t none))) := by
  have hr : (Instr.makeMap t none).run P w = .ok (.map (some w.heap.size)) (w.alloc (.map #[] 0)) := rfl
  exact EffOk.val hr (h.alloc (o := .map true [] 0) _ ⟨heap_alloc_new _ _, fun _ => Nat.le_trans h.base h.size⟩) (hj _ h.size)

theorem sound_mkSl {t : TypeId} {l c : Operand} {e : TypeId} {i : TypeInfo} {z : Value} (ht : P.underlying t = some (.slice e)) (hi : P.info? e = some i) (hz : i.zero = some z)
    (h : Rel c0 S w) (hj : JE P fr S K (.mkSl i.size i.bytes z.cells.toList l c)) : EffOk P c0 w K (do pure (Next.value (← Instr.makeSlice t (ev fr l) (ev fr c)))) := by
  simp only [JE] at hj
  cases hl : ev fr l <;> simp only [hl] at hj
  rename_i kl l'
  cases hcc : ev fr c <;> simp only [hcc] at hj
  rename_i kc c'
  obtain ⟨h0, hle, h63, hb, hk⟩ := hj
  have w1 : IntKind.i64.wrap l' = l' := by simp [IntKind.wrap, IntKind.bits, IntKind.signed]; omega
  have w2 : IntKind.i64.wrap c' = c' := by simp [IntKind.wrap, IntKind.bits, IntKind.signed]; omega
  have hnl : ¬ (l' < 0) := by omega
  have hnc : ¬ (c' < 0) := by omega
  have hcl : ¬ (c' < l') := by omega
  have hbig : ¬ (281474976710656 < (i.bytes : Int) * c') := by omega
  have hr : (Instr.makeSlice t (.int kl l') (.int kc c')).run P w = .ok (.slice (some ⟨w.heap.size, 0, none⟩) l'.toNat c'.toNat)
      (w.alloc (.cells (rowC z.cells.toList (c'.toNat * i.size)).toArray e)) := by
    by_cases hn : c'.toNat * i.size = 0
    · have hz0 : Array.range 0 = #[] := rfl
      simp [Instr.makeSlice, run_underlying ht, sizeOf, typeInfo, zeroValue, hi, w1, w2, hnl, hnc, hcl, hbig, hn, newRow, asInt, asIntOf, rowC, hz0]
    · have hrow : (rowC z.cells.toList (c'.toNat * i.size)).toArray = (Array.range (c'.toNat * i.size)).map (z.cells[· % z.cells.size]!) := rfl
      rw [hrow]
      simp [Instr.makeSlice, run_underlying ht, sizeOf, typeInfo, zeroValue, hi, hz, w1, w2, hnl, hnc, hcl, hbig, hn, newRow, asInt, asIntOf]
  refine EffOk.val hr (h.newCells ?_ ?_) (hk _ h.size)
  · simp [rowC]
  · exact List.take_length

theorem ba_beq (a b : ByteArray) : (a == b) = decide (a = b) := by
  obtain ⟨a⟩ := a
  obtain ⟨b⟩ := b
  show (a == b) = _
  rw [Bool.eq_iff_iff]
  simp

theorem eqC_bits : ∀ {ks : List PK} {xs ys : List Value}, eqC ks xs ys = some true → xs.length = ys.length ∧ (ys.zip xs).all (fun p => Instr.sameBits 9999 p.1 p.2) = true
  | [], [], [], _ => ⟨rfl, rfl⟩
  | .i k :: ks, .int k1 a :: xs, .int k2 b :: ys, h => by
    simp only [eqC] at h
    split at h
    · rename_i hk
      obtain ⟨rfl, rfl⟩ := hk
      cases hr : eqC ks xs ys with
      | none => simp [hr] at h
      | some r =>
        simp [hr] at h
        obtain ⟨h1, h2⟩ := h
        subst h1 h2
        obtain ⟨i1, i2⟩ := eqC_bits hr
        exact ⟨by simp [i1], by simpa [Instr.sameBits] using i2⟩
    · simp at h
  | .s :: ks, .string a :: xs, .string b :: ys, h => by
    simp only [eqC] at h
    cases hr : eqC ks xs ys with
    | none => simp [hr, ba_beq] at h
    | some r =>
      simp [hr, ba_beq] at h
      obtain ⟨h1, h2⟩ := h
      subst h1 h2
      obtain ⟨i1, i2⟩ := eqC_bits hr
      exact ⟨by simp [i1], by simpa [Instr.sameBits, ba_beq] using i2⟩
  | .b :: ks, .bool a :: xs, .bool b :: ys, h => by
    simp only [eqC] at h
    cases hr : eqC ks xs ys with
    | none => simp [hr] at h
    | some r =>
      simp [hr] at h
      obtain ⟨h1, h2⟩ := h
      subst h1 h2
      obtain ⟨i1, i2⟩ := eqC_bits hr
      exact ⟨by simp [i1], by simpa [Instr.sameBits] using i2⟩

theorem eqV_bits {ks : List PK} {agg : Bool} {x y : Value} (h : eqV ks agg x y = some true) : Instr.sameBits 10000 y x = true := by
  cases agg with
  | true =>
    cases x <;> simp only [eqV] at h <;> try (simp at h; done)
    cases y <;> simp only at h <;> try (simp at h; done)
    rename_i xs ys
    obtain ⟨h1, h2⟩ := eqC_bits h
    simp only [Array.length_toList] at h1
    simp only [Instr.sameBits, h1, beq_self_eq_true, Bool.true_and]
    exact h2
  | false =>
    simp only [eqV] at h
    match ks, x, y, h with
    | .i k :: ks, .int k1 a, .int k2 b, h =>
      simp only [eqC] at h
      split at h
      · rename_i hk
        obtain ⟨rfl, rfl⟩ := hk
        cases hr : eqC ks [] [] with
        | none => simp [hr] at h
        | some r => simp [hr] at h; simp [Instr.sameBits, h.1]
      · simp at h
    | .s :: ks, .string a, .string b, h =>
      simp only [eqC] at h
      cases hr : eqC ks [] [] with
      | none => simp [hr] at h
      | some r => simp [hr, ba_beq] at h; simp [Instr.sameBits, h.1, ba_beq]
    | .b :: ks, .bool a, .bool b, h =>
      simp only [eqC] at h
      cases hr : eqC ks [] [] with
      | none => simp [hr] at h
      | some r => simp [hr] at h; simp [Instr.sameBits, h.1]

theorem mfind_some {ks : List PK} {agg : Bool} {k : Value} : ∀ {ms : List (Value × Value)} {i : Nat} {v : Value}, mfind ks agg k ms = some (some (i, v)) → ∃ k', ms[i]? = some (k', v) ∧ eqV ks agg k k' = some true
  | [], _, _, h => by simp [mfind] at h
  | (k', v') :: r, i, v, h => by
    simp only [mfind] at h
    split at h
    · rename_i he
      simp at h
      obtain ⟨rfl, rfl⟩ := h
      exact ⟨k', rfl, he⟩
    · cases hr : mfind ks agg k r with
      | none => simp [hr] at h
      | some q =>
        cases q with
        | none => simp [hr] at h
        | some q =>
          obtain ⟨j, u⟩ := q
          simp [hr] at h
          obtain ⟨rfl, rfl⟩ := h
          obtain ⟨k'', h1, h2⟩ := mfind_some hr
          exact ⟨k'', by simpa using h1, h2⟩
    · simp at h

theorem Rel.setMap {b : Nat} {rw : Bool} {ms : List MapEntry} {clock : Nat} (h : Rel c0 S w) (ho : S.obj b = some (.map rw ms clock)) (hrw : rw = true) (ms' : List MapEntry) (clock' : Nat) :
    (∀ P : Program, (setObj b (.map ms'.toArray clock')).run P w = .ok () { w with heap := w.heap.setIfInBounds b (.map ms'.toArray clock') }) ∧
    Rel c0 (S.put b (.map true ms' clock')) { w with heap := w.heap.setIfInBounds b (.map ms'.toArray clock') } := by
  obtain ⟨h1, h2⟩ := h.map ho
  have hlt : b < w.heap.size := (Array.getElem?_eq_some_iff.1 h1).1
  refine ⟨fun P => by simp [Go.setObj, Sem.run, h1], h.upd ⟨rfl, rfl, rfl, by simp, fun k hk => ?_⟩ (Nat.le_refl _) (fun i hi _ => ?_) ⟨?_, fun _ => h2 hrw⟩⟩
  · rw [Array.getElem?_setIfInBounds_ne]
    have := h2 hrw
    omega
  · rw [Array.getElem?_setIfInBounds_ne (Ne.symm hi)]
  · simp [hlt]

theorem sound_mset {t kt et : TypeId} {ks : List PK} {agg : Bool} {m k v : Operand} (ht : P.underlying t = some (.map kt et)) (hp : plainT P 30 kt = some ks) (hag : isAggT P kt = some agg)
    (h : Rel c0 S w) (hj : JE P fr S K (.mset ks agg m k v)) : EffOk P c0 w K (do Instr.mapUpdate t (ev fr m) (ev fr k) (ev fr v); pure Next.skip) := by
  simp only [JE] at hj
  cases hm : ev fr m <;> simp only [hm] at hj
  rename_i b
  cases b <;> simp only at hj
  rename_i b
  cases ho : S.obj b with
  | none => simp [ho] at hj
  | some ob =>
    cases ob with
    | cells _ _ _ => simp [ho] at hj
    | iter _ _ _ _ => simp [ho] at hj
    | siter _ _ => simp [ho] at hj
    | map rw ms clock =>
      cases rw with
      | false => simp [ho] at hj
      | true =>
        simp only [ho] at hj
        obtain ⟨hk, r, hf, hj⟩ := hj
        obtain ⟨hw, _⟩ := h.map ho
        have hck := run_checkKeyV hp hag hk false w
        have hfk := run_findKey (P := P) hp hag hf w
        cases r with
        | none =>
          simp only at hj
          obtain ⟨hs, hrel⟩ := h.setMap ho rfl (ms ++ [⟨ev fr k, ev fr v, clock⟩]) (clock + 1)
          refine EffOk.unit ?_ hrel hj
          have := hs P
          simp [Instr.mapUpdate, run_underlying ht, run_getObj_map hw, hck, hfk]
          simpa using this
        | some iv =>
          obtain ⟨i, u⟩ := iv
          simp only at hj
          obtain ⟨k', hi, hb⟩ := mfind_some hf
          have hi' : (ms[i]?).map (·.key) = some k' := by
            simp only [kv, List.getElem?_map, Option.map_eq_some_iff] at hi
            obtain ⟨e, he, heq⟩ := hi
            simp [he]
            exact congrArg Prod.fst heq
          obtain ⟨hs, hrel⟩ := h.setMap ho rfl (ms.modify i fun e => { e with key := ev fr k, val := ev fr v }) clock
          refine EffOk.unit ?_ hrel hj
          have := hs P
          have hkeep : (Instr.keyThatStays k' (ev fr k)).run P w = .ok (ev fr k) w := by simp [Instr.keyThatStays, eqV_bits hb]
          simp [Instr.mapUpdate, run_underlying ht, run_getObj_map hw, hck, hfk, hi', hkeep]
          simpa using this

theorem sound_mdel {t u ty kt et : TypeId} {ks : List PK} {agg : Bool} {m k : Operand} (ht : P.underlying t = some (.map kt et)) (hp : plainT P 30 kt = some ks) (hag : isAggT P kt = some agg)
    (h : Rel c0 S w) (hj : JE P fr S K (.mdel ks agg m k)) : EffOk P c0 w K (do pure (Next.value (← Builtin.delete_ #[t, u] ty #[ev fr m, ev fr k]))) := by
  simp only [JE] at hj
  cases hm : ev fr m <;> simp only [hm] at hj
  rename_i b
  cases b with
  | none =>
    simp only at hj
    have hck := run_checkKeyV hp hag hj.1 true w
    refine EffOk.val (v := .tuple #[]) (w' := w) ?_ h hj.2
    simp [Builtin.delete_, run_underlying ht, hck]
  | some b =>
    simp only at hj
    cases ho : S.obj b with
    | none => simp [ho] at hj
    | some ob =>
      cases ob with
      | cells _ _ _ => simp [ho] at hj
      | iter _ _ _ _ => simp [ho] at hj
      | siter _ _ => simp [ho] at hj
      | map rw ms clock =>
        cases rw with
        | false => simp [ho] at hj
        | true =>
          simp only [ho] at hj
          obtain ⟨hk, r, hf, hj⟩ := hj
          obtain ⟨hw, _⟩ := h.map ho
          have hck := run_checkKeyV hp hag hk ms.toArray.isEmpty w
          have hfk := run_findKey (P := P) hp hag hf w
          cases r with
          | none =>
            simp only at hj
            obtain ⟨hs, hrel⟩ := h.setMap ho rfl ms clock
            refine EffOk.val (v := .tuple #[]) ?_ hrel hj
            have := hs P
            simp at hck
            simp [Builtin.delete_, run_underlying ht, run_getObj_map hw, hck, hfk, this]
          | some iv =>
            obtain ⟨i, u'⟩ := iv
            simp only at hj
            obtain ⟨k', hi, _⟩ := mfind_some hf
            have hil : i < ms.length := by
              have := (List.getElem?_eq_some_iff.1 hi).1
              simpa [kv] using this
            obtain ⟨hs, hrel⟩ := h.setMap ho rfl (ms.eraseIdx i) clock
            refine EffOk.val (v := .tuple #[]) ?_ hrel hj
            have := hs P
            simp at hck
            have he : ms.toArray.eraseIdxIfInBounds i = (ms.eraseIdx i).toArray := by simp [Array.eraseIdxIfInBounds, hil]
            simp [Builtin.delete_, run_underlying ht, run_getObj_map hw, hck, hfk, this]
end
end Go.Osj
