/- The operations that write, that make blocks, that call: what each asks, and that it does so. -/
import Derived.Test.YtfadbihdmohdiaaGreatDoorOsjG
namespace Go.Osj
open Go.RowKit

inductive EO where
  | box (x : Operand)
  | alloc (z : List Value)
  | bsl (len : Nat) (z : List Value) (ps : List (Nat × Nat × Operand))
  | st (n : Nat) (x v : Operand)
  | app (esz bytes : Nat) (s x : Operand)
  | appZ (esz bytes : Nat) (z : List Value) (s n : Operand)
  | cp (esz : Nat) (d s : Operand)
  | clr (esz : Nat) (z : List Value) (s : Operand)
  | mkMap
  | mkSl (esz bytes : Nat) (z : List Value) (l c : Operand)
  | mset (ks : List PK) (agg : Bool) (m k v : Operand)
  | mdel (ks : List PK) (agg : Bool) (m k : Operand)
  | rng (str : Bool) (x : Operand)
  | nxt (str : Bool) (it : Operand)
  | ent (it : Operand)
  | call (f : FuncId) (args : List Operand)
  | callv (f : Operand) (args : List Operand)
  | pan

def oneC (vs : List Value) : Bool := vs.all (·.oneCell')
theorem oneC_mem {vs : List Value} (h : oneC vs = true) : ∀ v ∈ vs, v.oneCell' = true := by simpa [oneC] using h

/-- the cells of a slice's first n elements -/
def St.loadSl (S : St) (esz : Nat) (base : Option Addr) (n : Nat) : Option (List Value) :=
  if n * esz = 0 then some [] else match base with | some a => S.loadN a (n * esz) | none => none

/-- the cells of what is appended: a slice's, or a text's bytes -/
def St.loadX (S : St) (esz : Nat) : Value → Option (Nat × List Value)
  | .slice b m _ => (S.loadSl esz b m).map fun cs => (m, cs)
  | .string s => if esz = 1 then some (s.size, s.data.toList.map fun b => .int .u8 b.toNat) else none
  | _ => none

def repC (z : List Value) : Nat → List Value
  | 0 => []
  | n + 1 => z ++ repC z n
def rowC (z : List Value) (n : Nat) : List Value := ((Array.range n).map (z.toArray[· % z.toArray.size]!)).toList
def unborn (seen : Array Nat) (ms : List MapEntry) : List MapEntry := ms.filter fun e => !seen.contains e.born

section
variable (P : Program) (fr : Fr) (S : St) (K : Value → St → Prop)

def JE : EO → Prop
  | .box x => ∀ b, S.n ≤ b → K (.pointer (some ⟨b, 0, none⟩)) (S.put b (.cells true (ev fr x).cells.toList.length (ev fr x).cells.toList))
  | .alloc z => ∀ b, S.n ≤ b → K (.pointer (some ⟨b, 0, none⟩)) (S.put b (.cells true z.length z))
  | .bsl len z ps => ∃ cs, fillC z (ps.map fun p => (p.1, p.2.1, ev fr p.2.2)) = some cs ∧ ∀ b, S.n ≤ b → K (.slice (some ⟨b, 0, none⟩) len len) (S.put b (.cells true cs.length cs))
  | .st n x v => match ev fr x with
    | .pointer (some a) => (ev fr v).cells.size = n ∧ oneC (ev fr v).cells.toList = true ∧ ∃ S', S.write a (ev fr v).cells.toList = some S' ∧ K undef S'
    | _ => False
  | .app esz bytes s x => match ev fr s with
    | .slice bs n c => ∃ m news, S.loadX esz (ev fr x) = some (m, news) ∧
      (n + m ≤ c → (match bs with
        | none => K (.slice none (n + m) c) S
        | some a => if m * esz = 0 then K (.slice (some a) (n + m) c) S else
          oneC news = true ∧ a.spot = none ∧ ∃ S', S.write ⟨a.block, a.off + n * esz, none⟩ news = some S' ∧ K (.slice (some a) (n + m) c) S')) ∧
      (c < n + m → ∃ olds, S.loadSl esz bs n = some olds ∧ (n + m) * bytes ≤ 140737488355328 ∧ n + m ≤ 9223372036854775807 ∧
        ∀ b c', S.n ≤ b → n + m ≤ c' → K (.slice (some ⟨b, 0, none⟩) (n + m) c') (S.put b (.cells true (c' * esz) (olds ++ news))))
    | _ => False
  | .appZ esz bytes z s x => match ev fr s, ev fr x with
    | .slice bs n c, .int _ m => 0 ≤ m ∧ m ≤ 9223372036854775807 ∧ m * bytes ≤ 281474976710656 ∧
      (n + m.toNat ≤ c → (match bs with
        | none => K (.slice none (n + m.toNat) c) S
        | some a => if m.toNat * esz = 0 then K (.slice (some a) (n + m.toNat) c) S else
          oneC (rowC z (m.toNat * esz)) = true ∧ a.spot = none ∧ ∃ S', S.write ⟨a.block, a.off + n * esz, none⟩ (rowC z (m.toNat * esz)) = some S' ∧ K (.slice (some a) (n + m.toNat) c) S')) ∧
      (c < n + m.toNat → ∃ olds, S.loadSl esz bs n = some olds ∧ 0 < m.toNat ∧ (n + m.toNat) * bytes ≤ 140737488355328 ∧ n + m.toNat ≤ 9223372036854775807 ∧
        ∀ b c', S.n ≤ b → n + m.toNat ≤ c' → K (.slice (some ⟨b, 0, none⟩) (n + m.toNat) c') (S.put b (.cells true (c' * esz) (olds ++ rowC z (m.toNat * esz)))))
    | _, _ => False
  | .cp esz d s => match ev fr d, ev fr s with
    | .slice bd n _, .slice bs m _ => ∃ news, S.loadSl esz bs (Nat.min m n) = some news ∧
      (match bd with
       | none => K (.int .i64 (Nat.min m n)) S
       | some a => if Nat.min m n * esz = 0 then K (.int .i64 (Nat.min m n)) S else oneC news = true ∧ ∃ S', S.write a news = some S' ∧ K (.int .i64 (Nat.min m n)) S')
    | _, _ => False
  | .clr esz z s => match ev fr s with
    | .slice bs n _ => (match bs with
      | none => K (.tuple #[]) S
      | some a => if n = 0 then K (.tuple #[]) S else oneC (rowC z (n * esz)) = true ∧ ∃ S', S.write a (rowC z (n * esz)) = some S' ∧ K (.tuple #[]) S')
    | _ => False
  | .mkMap => ∀ b, S.n ≤ b → K (.map (some b)) (S.put b (.map true [] 0))
  | .mkSl esz bytes z l c => match ev fr l, ev fr c with
    | .int _ l, .int _ c => 0 ≤ l ∧ l ≤ c ∧ c ≤ 9223372036854775807 ∧ bytes * c ≤ 281474976710656 ∧
      ∀ b, S.n ≤ b → K (.slice (some ⟨b, 0, none⟩) l.toNat c.toNat) (S.put b (.cells true (c.toNat * esz) (rowC z (c.toNat * esz))))
    | _, _ => False
  | .mset ks agg m k v => match ev fr m with
    | .map (some b) => (match S.obj b with
      | some (.map true ms clock) => okV ks agg (ev fr k) = true ∧ ∃ r, mfind ks agg (ev fr k) (kv ms) = some r ∧
        (match r with
         | some (i, _) => K undef (S.put b (.map true (ms.modify i fun e => { e with key := ev fr k, val := ev fr v }) clock))
         | none => K undef (S.put b (.map true (ms ++ [⟨ev fr k, ev fr v, clock⟩]) (clock + 1))))
      | _ => False)
    | _ => False
  | .mdel ks agg m k => match ev fr m with
    | .map none => okV ks agg (ev fr k) = true ∧ K (.tuple #[]) S
    | .map (some b) => (match S.obj b with
      | some (.map true ms clock) => okV ks agg (ev fr k) = true ∧ ∃ r, mfind ks agg (ev fr k) (kv ms) = some r ∧
        (match r with
         | some (i, _) => K (.tuple #[]) (S.put b (.map true (ms.eraseIdx i) clock))
         | none => K (.tuple #[]) (S.put b (.map true ms clock)))
      | _ => False)
    | _ => False
  | .rng str x => match str, ev fr x with
    | true, .string s => ∀ b, S.n ≤ b → K (.pointer (some ⟨b, 0, none⟩)) (S.put b (.siter s 0))
    | false, .map none => ∀ b, S.n ≤ b → K (.pointer (some ⟨b, 0, none⟩)) (S.put b (.iter none 0 #[] 0))
    | false, .map (some m) => (match S.obj m with
      | some (.map _ _ clock) => ∀ b, S.n ≤ b → K (.pointer (some ⟨b, 0, none⟩)) (S.put b (.iter (some m) clock #[] clock))
      | _ => False)
    | _, _ => False
  | .nxt str it => match ev fr it with
    | .pointer (some ⟨r, 0, none⟩) => (match str, S.obj r with
      | true, some (.siter s pos) => if pos < s.size then K (.tuple #[.bool true, .int .i64 pos, .int .i32 (Utf8.decode s pos).1]) (S.put r (.siter s (pos + (Utf8.decode s pos).2))) else K (.tuple #[.bool false]) S
      | false, some (.iter none _ _ _) => K (.tuple #[.bool false]) S
      | false, some (.iter (some m) since seen last) => (match S.obj m with
        | some (.map _ ms clock) => (!seen.isEmpty && !ms.isEmpty && ms.all (fun e => decide (last ≤ e.born))) = false ∧
          ((unborn seen ms).all (fun e => decide (since ≤ e.born)) = true → K (.tuple #[.bool false]) S) ∧
          ∀ e, e ∈ unborn seen ms → K (.tuple #[.bool true, e.key, e.val]) (S.put r (.iter (some m) since (seen.push e.born) clock))
        | _ => False)
      | _, _ => False)
    | _ => False
  | .ent it => match ev fr it with
    | .pointer (some ⟨r, 0, none⟩) => (match S.obj r with
      | some (.iter (some m) _ seen last) => (match S.obj m with
        | some (.map _ ms clock) => ∃ s e, seen.back? = some s ∧ clock = last ∧ ms.find? (fun e => e.born == s) = some e ∧ K (.tuple #[e.key, e.val]) S
        | _ => False)
      | _ => False)
    | _ => False
  | .call f args => J P f (args.map (ev fr)) S K
  | .callv f args => match ev fr f with
    | .func (.func g) first captured => callable P g = true ∧ J P g (first.toList ++ args.map (ev fr) ++ captured.toList) S K
    | _ => False
  | .pan => False
end

def cE (P : Program) : Op → Option EO
  | .box _ x => some (.box x)
  | .alloc t => ((P.info? t).bind (·.zero)).map fun z => .alloc z.cells.toList
  | .buildSlice t len parts =>
    match P.underlying t with
    | some (.slice e) => match P.info? e with
      | some i => match i.zero with
        | some z => if len * i.size > 2 ^ 24 ∨ z.cells.size ≠ i.size then none else
          some (.bsl len (rowC z.cells.toList (len * i.size)) (parts.toList.map fun p => (p.1 * i.size, i.size, p.2)))
        | none => none
      | none => none
    | _ => none
  | .store t x v => (P.info? t).map fun i => .st i.size x v
  | .mapUpdate t m k v =>
    match P.underlying t with
    | some (.map kt _) => match plainT P 30 kt, isAggT P kt with
      | some ks, some b => some (.mset ks b m k v)
      | _, _ => none
    | _ => none
  | .makeMap _ none => some .mkMap
  | .makeSlice t l c =>
    match P.underlying t with
    | some (.slice e) => match P.info? e with
      | some i => match i.zero with
        | some z => if z.cells.size ≠ i.size then none else some (.mkSl i.size i.bytes z.cells.toList l c)
        | none => none
      | none => none
    | _ => none
  | .range t x =>
    match P.underlying t with
    | some .string => some (.rng true x)
    | some (.map _ _) => some (.rng false x)
    | _ => none
  | .next it s => some (.nxt s it)
  | .entry it => some (.ent it)
  | .panic _ => some .pan
  | .call c =>
    match c.callee with
    | .value (.func f) => if callable P f then some (.call f c.args.toList) else none
    | .value f => some (.callv f c.args.toList)
    | .builtin .append =>
      match c.args.toList, c.argTypes.toList with
      | [s, x], [t, u] => if t ≠ u then
          (match P.underlying t, P.underlying u with
          | some (.slice e), some (.int _) => match P.info? e with
            | some i => match i.zero with
              | some z => if z.cells.size ≠ i.size ∨ i.size = 0 then none else some (.appZ i.size i.bytes z.cells.toList s x)
              | none => none
            | none => none
          | some (.slice e), some (.slice _) => match P.info? e with
            | some i => match i.zero with
              | some z => if z.cells.size ≠ i.size then none else some (.app i.size i.bytes s x)
              | none => none
            | none => none
          | some (.slice e), some .string => match P.info? e with
            | some i => match i.zero with
              | some z => if z.cells.size ≠ i.size then none else some (.app i.size i.bytes s x)
              | none => none
            | none => none
          | _, _ => none)
        else
        match P.underlying t with
        | some (.slice e) => match P.info? e with
          | some i => match i.zero with
            | some z => if z.cells.size ≠ i.size then none else some (.app i.size i.bytes s x)
            | none => none
          | none => none
        | _ => none
      | _, _ => none
    | .builtin .copy =>
      match c.args.toList, c.argTypes.toList with
      | [d, s], [t, _] =>
        match P.underlying t with
        | some (.slice e) => (P.info? e).map fun i => .cp i.size d s
        | _ => none
      | _, _ => none
    | .builtin .clear =>
      match c.args.toList, c.argTypes.toList with
      | [x], [t] =>
        match P.underlying t with
        | some (.slice e) => match P.info? e with
          | some i => match i.zero with
            | some z => if z.cells.size ≠ i.size then none else some (.clr i.size z.cells.toList x)
            | none => none
          | none => none
        | _ => none
      | _, _ => none
    | .builtin .delete =>
      match c.args.toList, c.argTypes.toList with
      | [m, k], [t, _] =>
        match P.underlying t with
        | some (.map kt _) => match plainT P 30 kt, isAggT P kt with
          | some ks, some b => some (.mdel ks b m k)
          | _, _ => none
        | _ => none
      | _, _ => none
    | _ => none
  | _ => none

section
variable {P : Program} {c0 w : World} {S : St} {fr : Fr} {K : Value → St → Prop} {o : Oper} {a : Act} {next : Act → World → Prop} {Q : Exit → Act → World → Prop}

/-- what an operation that writes comes to -/
def EffOk (P : Program) (c0 w : World) (K : Value → St → Prop) (s : Sem Next) : Prop :=
  (∃ v S' w', (s.run P w = .ok (.value v) w' ∨ (s.run P w = .ok .skip w' ∧ v = undef)) ∧ Rel c0 S' w' ∧ K v S') ∨
  (∃ f args w', s.run P w = .ok (.enter f args) w' ∧ Calls P f args w' (fun e w'' => ∃ v S', e = .returned v ∧ Rel c0 S' w'' ∧ K v S'))

theorem EffOk.upon (h : EffOk P c0 w K (execOp (ev fr) o)) (hk : ∀ v S' w', Rel c0 S' w' → K v S' → next (a.put o.dst v) w') : o.upon P a next Q ((execOp (ev fr) o).run P w) := by
  rcases h with ⟨v, S', w', hr, h1, h2⟩ | ⟨f, args, w', hr, hc⟩
  · rcases hr with hr | ⟨hr, rfl⟩ <;> rw [hr] <;> exact hk _ _ _ h1 h2
  · rw [hr]
    refine hc.mono fun e w'' ⟨v, S', he, h1, h2⟩ => ?_
    subst he
    exact hk _ _ _ h1 h2

theorem EffOk.val {s : Sem Value} {v : Value} {S' : St} {w' : World} (h : s.run P w = .ok v w') (h1 : Rel c0 S' w') (h2 : K v S') : EffOk P c0 w K (do pure (Next.value (← s))) :=
  .inl ⟨v, S', w', .inl (by simp [h]), h1, h2⟩
theorem EffOk.unit {s : Sem Unit} {S' : St} {w' : World} (h : s.run P w = .ok () w') (h1 : Rel c0 S' w') (h2 : K undef S') : EffOk P c0 w K (do s; pure Next.skip) :=
  .inl ⟨undef, S', w', .inr ⟨by simp [h], rfl⟩, h1, h2⟩

theorem sound_box {t : TypeId} {x : Operand} (h : Rel c0 S w) (hj : JE P fr S K (.box x)) : EffOk P c0 w K (do pure (Next.value (← Instr.box t (ev fr x)))) := by
  have hr : (Instr.box t (ev fr x)).run P w = .ok (.pointer (some ⟨w.heap.size, 0, none⟩)) (w.alloc (.cells (ev fr x).cells t)) := by
    simp [Instr.box, newVar, newRow]
  exact EffOk.val hr (h.newCells (by simp) List.take_length) (hj _ h.size)

theorem sound_alloc {t : TypeId} {z : List Value} (hc : cE P (.alloc t) = some (.alloc z)) (h : Rel c0 S w) (hj : JE P fr S K (.alloc z)) : EffOk P c0 w K (do pure (Next.value (← Instr.alloc t true (.tuple #[])))) := by
  cases hi : P.info? t with
  | none => simp [cE, hi] at hc
  | some i =>
    cases hz : i.zero with
    | none => simp [cE, hi, hz] at hc
    | some zz =>
      simp [cE, hi, hz] at hc
      subst hc
      have hr : (Instr.alloc t true (.tuple #[])).run P w = .ok (.pointer (some ⟨w.heap.size, 0, none⟩)) (w.alloc (.cells zz.cells t)) := by
        simp [Instr.alloc, newVar, newRow, zeroValue, typeInfo, hi, hz]
      exact EffOk.val hr (h.newCells (by simp) List.take_length) (hj _ h.size)

theorem mapM_some (sz : Nat) : ∀ (ps : List (Nat × Value)), ps.mapM (fun p => ((fun j => some (j * sz, sz)) p.1 : Option (Nat × Nat)).map fun q => (q.1, q.2, p.2)) = some (ps.map fun p => (p.1 * sz, sz, p.2))
  | [] => rfl
  | p :: ps => by simp only [List.mapM_cons, mapM_some sz ps]; rfl

theorem sound_bsl {t : TypeId} {len : Nat} {parts : Array (Nat × Operand)} {eo : EO} (hc : cE P (.buildSlice t len parts) = some eo) (h : Rel c0 S w) (hj : JE P fr S K eo) :
    EffOk P c0 w K (do pure (Next.value (← Instr.buildSlice t len (parts.map fun (i, x) => (i, ev fr x))))) := by
  simp only [cE] at hc
  cases hu : P.underlying t with
  | none => simp [hu] at hc
  | some d =>
    cases d <;> simp only [hu] at hc <;> try (simp at hc; done)
    rename_i e
    cases hi : P.info? e with
    | none => simp [hi] at hc
    | some i =>
      cases hz : i.zero with
      | none => simp [hi, hz] at hc
      | some z =>
        simp only [hi, hz] at hc
        split at hc
        · simp at hc
        · rename_i hsz
          simp only [not_or, Nat.not_lt, Decidable.not_not, gt_iff_lt] at hsz
          injection hc with hc
          subst hc
          obtain ⟨cs, hf, hk⟩ := hj
          have hfill : Instr.fill (fun j => some (j * i.size, i.size)) (rowC z.cells.toList (len * i.size)).toArray (parts.map fun (i, x) => (i, ev fr x)).toList = some cs.toArray := by
            refine run_fill (cs := (rowC z.cells.toList (len * i.size)).toArray) (mapM_some i.size _) ?_
            rw [List.map_map] at hf
            rw [Array.toList_map, List.map_map]
            exact hf
          have hc1 := hfill
          obtain ⟨c, hc2, hc3⟩ : ∃ c : Array Value, c.toList = cs ∧ cs.toArray = c := ⟨cs.toArray, rfl, rfl⟩
          rw [hc3] at hc1
          have hr : (Instr.buildSlice t len (parts.map fun (i, x) => (i, ev fr x))).run P w = .ok (.slice (some ⟨w.heap.size, 0, none⟩) len len) (w.alloc (.cells c e)) := by
            by_cases h0 : len * i.size = 0
            · have hrow : (rowC z.cells.toList (len * i.size)).toArray = #[] := by simp [rowC, h0]
              rw [hrow] at hc1
              have : ¬ (16777216 < len * i.size) := by omega
              have hz0 : Array.range 0 = #[] := rfl
              simp only [Array.toList_map] at hc1
              simp [Instr.buildSlice, run_underlying hu, sizeOf, typeInfo, hi, h0, newRow, hz0, hc1]
            · have hrow : (rowC z.cells.toList (len * i.size)).toArray = (Array.range (len * i.size)).map (z.cells[· % z.cells.size]!) := rfl
              rw [hrow] at hc1
              exact run_buildSlice w t e len _ c i z hu hi hz (by omega) h0 hc1
          refine EffOk.val hr (h.newCells (cs := cs) (cap := cs.length) ?_ ?_) (hk _ h.size)
          · rw [← hc2]; simp
          · rw [← hc2]; exact List.take_length

theorem sound_st {t : TypeId} {x v : Operand} {eo : EO} (hc : cE P (.store t x v) = some eo) (h : Rel c0 S w) (hj : JE P fr S K eo) :
    EffOk P c0 w K (do Instr.storeAt t (ev fr x) (ev fr v); pure Next.skip) := by
  simp only [cE, Option.map_eq_some_iff] at hc
  obtain ⟨i, hi, rfl⟩ := hc
  simp only [JE] at hj
  cases hx : ev fr x <;> simp only [hx] at hj
  rename_i p
  cases p <;> simp only at hj
  rename_i a
  obtain ⟨h1, h2, S', h3, h4⟩ := hj
  obtain ⟨w', hr, hrel⟩ := h.write h3 (oneC_mem h2)
  refine EffOk.unit (w' := w') ?_ hrel h4
  have hs : a.spot = none := by
    unfold St.write at h3
    cases hs : a.spot with
    | none => rfl
    | some y => simp [hs] at h3
  obtain ⟨b, off, sp⟩ := a
  simp only at hs
  subst hs
  simp [Instr.storeAt, Instr.sureAddr, storeVar, sizeOf, typeInfo, hi, h1, hr]
end
end Go.Osj
