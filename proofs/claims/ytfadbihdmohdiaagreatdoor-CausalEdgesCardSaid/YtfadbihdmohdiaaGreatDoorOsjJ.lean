/- The operations that write, that make blocks, that call: iterators, calls; the one theorem, 'sound_E'. -/
import Derived.Test.YtfadbihdmohdiaaGreatDoorOsjI
namespace Go.Osj
open Go.RowKit
section
variable {P : Program} {c0 w : World} {S : St} {fr : Fr} {K : Value → St → Prop} {o : Oper} {a : Act} {next : Act → World → Prop} {Q : Exit → Act → World → Prop}

theorem sound_rngS {t : TypeId} {x : Operand} (ht : P.underlying t = some .string) (h : Rel c0 S w) (hj : JE P fr S K (.rng true x)) : EffOk P c0 w K (do pure (Next.value (← Instr.range t (ev fr x)))) := by
  simp only [JE] at hj
  cases hx : ev fr x <;> simp only [hx] at hj
  rename_i s
  have hr : (Instr.range t (.string s)).run P w = .ok (.pointer (some ⟨w.heap.size, 0, none⟩)) (w.alloc (.stringIter s 0)) := by
    simp [Instr.range, run_underlying ht]
  exact EffOk.val hr (h.alloc (o := .siter s 0) _ ⟨heap_alloc_new _ _, Nat.le_trans h.base h.size⟩) (hj _ h.size)

theorem sound_rngM {t kt et : TypeId} {x : Operand} (ht : P.underlying t = some (.map kt et)) (h : Rel c0 S w) (hj : JE P fr S K (.rng false x)) : EffOk P c0 w K (do pure (Next.value (← Instr.range t (ev fr x)))) := by
  simp only [JE] at hj
  cases hx : ev fr x <;> simp only [hx] at hj
  rename_i m
  cases m with
  | none =>
    simp only at hj
    have hr : (Instr.range t (.map none)).run P w = .ok (.pointer (some ⟨w.heap.size, 0, none⟩)) (w.alloc (.mapIter none 0 #[] 0)) := by
      simp [Instr.range, run_underlying ht]
    exact EffOk.val hr (h.alloc (o := .iter none 0 #[] 0) _ ⟨heap_alloc_new _ _, Nat.le_trans h.base h.size⟩) (hj _ h.size)
  | some m =>
    simp only at hj
    cases ho : S.obj m with
    | none => simp [ho] at hj
    | some ob =>
      cases ob with
      | cells _ _ _ => simp [ho] at hj
      | iter _ _ _ _ => simp [ho] at hj
      | siter _ _ => simp [ho] at hj
      | map rw ms clock =>
        simp only [ho] at hj
        obtain ⟨hw, _⟩ := h.map ho
        have hr : (Instr.range t (.map (some m))).run P w = .ok (.pointer (some ⟨w.heap.size, 0, none⟩)) (w.alloc (.mapIter (some m) clock #[] clock)) := by
          simp [Instr.range, run_underlying ht, run_getObj_map hw]
        exact EffOk.val hr (h.alloc (o := .iter (some m) clock #[] clock) _ ⟨heap_alloc_new _ _, Nat.le_trans h.base h.size⟩) (hj _ h.size)

theorem Rel.setIter {b : Nat} {m : Option Nat} {since last : Nat} {seen : Array Nat} (h : Rel c0 S w) (ho : S.obj b = some (.iter m since seen last)) (seen' : Array Nat) (last' : Nat) :
    (∀ P : Program, (setObj b (.mapIter m since seen' last')).run P w = .ok () { w with heap := w.heap.setIfInBounds b (.mapIter m since seen' last') }) ∧
    Rel c0 (S.put b (.iter m since seen' last')) { w with heap := w.heap.setIfInBounds b (.mapIter m since seen' last') } := by
  obtain ⟨h1, h2⟩ := (h.obj _ _ ho).2
  have hlt : b < w.heap.size := (Array.getElem?_eq_some_iff.1 h1).1
  refine ⟨fun P => by simp [Go.setObj, Sem.run, h1], h.upd (o := .iter m since seen' last') ⟨rfl, rfl, rfl, by simp, fun k hk => ?_⟩ (Nat.le_refl _) (fun i hi _ => ?_) ⟨?_, h2⟩⟩
  · rw [Array.getElem?_setIfInBounds_ne]
    omega
  · rw [Array.getElem?_setIfInBounds_ne (Ne.symm hi)]
  · simp [hlt]

theorem Rel.setSIter {b : Nat} {s : ByteArray} {pos : Nat} (h : Rel c0 S w) (ho : S.obj b = some (.siter s pos)) (pos' : Nat) :
    (∀ P : Program, (setObj b (.stringIter s pos')).run P w = .ok () { w with heap := w.heap.setIfInBounds b (.stringIter s pos') }) ∧
    Rel c0 (S.put b (.siter s pos')) { w with heap := w.heap.setIfInBounds b (.stringIter s pos') } := by
  obtain ⟨h1, h2⟩ := (h.obj _ _ ho).2
  have hlt : b < w.heap.size := (Array.getElem?_eq_some_iff.1 h1).1
  refine ⟨fun P => by simp [Go.setObj, Sem.run, h1], h.upd (o := .siter s pos') ⟨rfl, rfl, rfl, by simp, fun k hk => ?_⟩ (Nat.le_refl _) (fun i hi _ => ?_) ⟨?_, h2⟩⟩
  · rw [Array.getElem?_setIfInBounds_ne]
    omega
  · rw [Array.getElem?_setIfInBounds_ne (Ne.symm hi)]
  · simp [hlt]

/-- the candidates of a step over a map -/
theorem run_pick (cand : Array (Option MapEntry)) (hn : 0 < cand.size) : ∃ c w', c ∈ cand ∧ w' = (if (Question.mapNext cand.size).forced then w else w.drew) ∧
    ∀ {β : Type} (f : Option (Option MapEntry) → Sem β), (do f (cand[← choose (.mapNext cand.size)]?) : Sem β).run P w = (f (some c)).run P w' := by
  by_cases hf : (Question.mapNext cand.size).forced = true
  · refine ⟨cand[0], w, Array.getElem_mem _, by simp [hf], fun f => ?_⟩
    simp [hf, hn]
  · have hlt := Nat.mod_lt (w.tape w.drawn (.mapNext cand.size)) hn
    refine ⟨cand[w.tape w.drawn (.mapNext cand.size) % cand.size], w.drew, Array.getElem_mem _, by simp [hf], fun f => ?_⟩
    simp [hf, Question.cut, hlt]

theorem getObj_iter {b : Nat} {m : Option Nat} {since last : Nat} {seen : Array Nat} (h : w.heap[b]? = some (.mapIter m since seen last)) : (getObj b).run P w = .ok (.mapIter m since seen last) w := by
  simp [getObj, Sem.run, h]
theorem getObj_siter {b : Nat} {s : ByteArray} {pos : Nat} (h : w.heap[b]? = some (.stringIter s pos)) : (getObj b).run P w = .ok (.stringIter s pos) w := by
  simp [getObj, Sem.run, h]

def afterPick (r m since clock : Nat) (seen : Array Nat) : Option (Option MapEntry) → Sem Value
  | some (some e) => do setObj r (.mapIter (some m) since (seen.push e.born) clock); pure (.tuple #[.bool true, e.key, e.val])
  | some none => pure (.tuple #[.bool false])
  | none => stuck "Next: no such candidate"

theorem sound_nxtM {ty : TypeId} {it : Operand} (h : Rel c0 S w) (hj : JE P fr S K (.nxt false it)) : EffOk P c0 w K (do pure (Next.value (← Instr.next (ev fr it) false ty))) := by
  simp only [JE] at hj
  split at hj
  · rename_i r hx
    rw [hx]
    cases ho : S.obj r with
    | none => simp [ho] at hj
    | some ob =>
      cases ob with
      | cells _ _ _ => simp [ho] at hj
      | map _ _ _ => simp [ho] at hj
      | siter _ _ => simp [ho] at hj
      | iter m since seen last =>
        have hw := (h.obj _ _ ho).2.1
        cases m with
        | none =>
          simp only [ho] at hj
          exact EffOk.val (v := .tuple #[.bool false]) (w' := w) (by simp [Instr.next, getObj_iter hw]) h hj
        | some m =>
          simp only [ho] at hj
          cases hm : S.obj m with
          | none => simp [hm] at hj
          | some ob =>
            cases ob with
            | cells _ _ _ => simp [hm] at hj
            | iter _ _ _ _ => simp [hm] at hj
            | siter _ _ => simp [hm] at hj
            | map rw ms clock =>
              simp only [hm] at hj
              obtain ⟨hg, hdone, hstep⟩ := hj
              obtain ⟨hmw, _⟩ := h.map hm
              have hleft : (ms.toArray.filter fun e => !seen.contains e.born) = (unborn seen ms).toArray := by simp [unborn]
              have hcand : ∃ cand : Array (Option MapEntry), cand = (if ((unborn seen ms).toArray.filter (·.born < since)).isEmpty then #[none] else #[]) ++ ((unborn seen ms).toArray.filter (·.born < since) ++ (unborn seen ms).toArray.filter (·.born ≥ since)).map some := ⟨_, rfl⟩
              obtain ⟨cand, hcd⟩ := hcand
              have hpos : 0 < cand.size := by
                rw [hcd]
                split
                · simp
                · rename_i hne
                  simp only [Array.isEmpty_iff_size_eq_zero] at hne
                  simp only [Array.size_append, Array.size_map]
                  omega
              obtain ⟨c, w', hc, hw', hrun⟩ := run_pick (P := P) (w := w) cand hpos
              have hrel : Rel c0 S w' := by rw [hw']; split; exact h; exact h.drew
              have hnext : (Instr.next (.pointer (some ⟨r, 0, none⟩)) false ty).run P w = (afterPick r m since clock seen (some c)).run P w' := by
                have h1 : (Instr.next (.pointer (some ⟨r, 0, none⟩)) false ty).run P w = ((do afterPick r m since clock seen (cand[← choose (.mapNext cand.size)]?)) : Sem Value).run P w := by
                  have hg' : (!seen.isEmpty && !ms.toArray.isEmpty && ms.toArray.all (·.born ≥ last)) = false := by
                    rw [← hg]
                    simp
                  simp only [Instr.next, Sem.run_bind, getObj_iter hw, Result.andThen_ok, run_getObj_map hmw, hg', Bool.false_eq_true, if_false, hleft, ← hcd]
                  rfl
                rw [h1, hrun (afterPick r m since clock seen)]
              cases c with
              | none =>
                refine EffOk.val (v := .tuple #[.bool false]) (w' := w') (by rw [hnext]; simp [afterPick]) hrel (hdone ?_)
                rw [hcd] at hc
                split at hc
                · rename_i he
                  simp only [Array.isEmpty_iff] at he
                  have he' := congrArg Array.toList he
                  simp at he'
                  simpa [List.all_eq_true] using he'
                · simp at hc
              | some e =>
                have hmem : e ∈ unborn seen ms := by
                  rw [hcd] at hc
                  split at hc <;> simp at hc
                  all_goals (rcases hc with hc | hc <;> exact hc.1)
                have ho' : S.obj r = some (.iter (some m) since seen last) := ho
                obtain ⟨hs, hrel'⟩ := hrel.setIter ho' (seen.push e.born) clock
                exact EffOk.val (v := .tuple #[.bool true, e.key, e.val]) (by rw [hnext]; simp [afterPick, hs P]) hrel' (hstep e hmem)
  · exact hj.elim

theorem sound_nxtS {ty : TypeId} {it : Operand} (h : Rel c0 S w) (hj : JE P fr S K (.nxt true it)) : EffOk P c0 w K (do pure (Next.value (← Instr.next (ev fr it) true ty))) := by
  simp only [JE] at hj
  split at hj
  · rename_i r hx
    rw [hx]
    cases ho : S.obj r with
    | none => simp [ho] at hj
    | some ob =>
      cases ob with
      | cells _ _ _ => simp [ho] at hj
      | map _ _ _ => simp [ho] at hj
      | iter _ _ _ _ => simp [ho] at hj
      | siter s pos =>
        have hw := (h.obj _ _ ho).2.1
        simp only [ho] at hj
        split at hj
        · rename_i hlt
          obtain ⟨hs, hrel⟩ := h.setSIter ho (pos + (Utf8.decode s pos).2)
          exact EffOk.val (by simp [Instr.next, getObj_siter hw, hlt, hs P, goInt]) hrel hj
        · rename_i hlt
          exact EffOk.val (v := .tuple #[.bool false]) (w' := w) (by simp [Instr.next, getObj_siter hw, hlt]) h hj
  · exact hj.elim

theorem sound_ent {it : Operand} (h : Rel c0 S w) (hj : JE P fr S K (.ent it)) : EffOk P c0 w K (do pure (Next.value (← Instr.entry (ev fr it)))) := by
  simp only [JE] at hj
  split at hj
  · rename_i r hx
    rw [hx]
    cases ho : S.obj r with
    | none => simp [ho] at hj
    | some ob =>
      cases ob with
      | cells _ _ _ => simp [ho] at hj
      | map _ _ _ => simp [ho] at hj
      | siter _ _ => simp [ho] at hj
      | iter m since seen last =>
        have hw := (h.obj _ _ ho).2.1
        cases m with
        | none => simp [ho] at hj
        | some m =>
          simp only [ho] at hj
          cases hm : S.obj m with
          | none => simp [hm] at hj
          | some ob =>
            cases ob with
            | cells _ _ _ => simp [hm] at hj
            | iter _ _ _ _ => simp [hm] at hj
            | siter _ _ => simp [hm] at hj
            | map rw ms clock =>
              simp only [hm] at hj
              obtain ⟨s, e, h1, h2, h3, hk⟩ := hj
              subst h2
              obtain ⟨hmw, _⟩ := h.map hm
              exact EffOk.val (v := .tuple #[e.key, e.val]) (w' := w) (by simp [Instr.entry, getObj_iter hw, h1, run_getObj_map hmw, h3]) h hk
  · exact hj.elim

theorem sound_enter {f : FuncId} {args : List Value} (hf : callable P f = true) (h : Rel c0 S w) (hj : J P f args S K) : EffOk P c0 w K (callFunc f args.toArray) := by
  unfold callable at hf
  cases hfn : P.funcs[f]? with
  | none => simp [hfn] at hf
  | some fn =>
    simp only [hfn, Bool.and_eq_true, Bool.not_eq_true', beq_eq_false_iff_ne] at hf
    obtain ⟨hb, hn⟩ := hf
    refine .inr ⟨f, args.toArray, w, ?_, hj c0 w h⟩
    have hb' : fn.body ≠ none := by intro hx; simp [hx] at hb
    simp [callFunc, hfn, hn, hb']

/-- What JE tells comes true. -/
theorem sound_E {eo : EO} (hc : cE P o.op = some eo) (h : Rel c0 S w) (hj : JE P fr S K eo) : EffOk P c0 w K (execOp (ev fr) o) := by
  unfold execOp
  cases hop : o.op <;> rw [hop] at hc <;> simp only
  case box t x => simp [cE] at hc; subst hc; exact sound_box h hj
  case alloc t =>
    have hc' := hc
    simp only [cE, Option.map_eq_some_iff] at hc'
    obtain ⟨z, _, rfl⟩ := hc'
    exact sound_alloc hc h hj
  case buildSlice t len parts => exact sound_bsl hc h hj
  case store t x v => exact sound_st hc h hj
  case mapUpdate t m k v =>
    simp only [cE] at hc
    cases hu : P.underlying t with
    | none => simp [hu] at hc
    | some d =>
      cases d <;> simp only [hu] at hc <;> try (simp at hc; done)
      rename_i kt et
      cases hp : plainT P 30 kt with
      | none => simp [hp] at hc
      | some ks =>
        cases ha : isAggT P kt with
        | none => simp [hp, ha] at hc
        | some b =>
          simp [hp, ha] at hc
          subst hc
          exact sound_mset hu hp ha h hj
  case makeMap t r =>
    cases r with
    | none => simp [cE] at hc; subst hc; exact sound_mkMap h hj
    | some r => simp [cE] at hc
  case makeSlice t l c =>
    simp only [cE] at hc
    cases hu : P.underlying t with
    | none => simp [hu] at hc
    | some d =>
      cases d <;> simp only [hu] at hc <;> try (simp at hc; done)
      rename_i e
      cases hi : P.info? e with
      | none => simp [hi] at hc
      | some i =>
        cases hz : i.zero with
        | none => simp [hi, hz] at hc
        | some z =>
          simp only [hi, hz] at hc
          split at hc
          · simp at hc
          · injection hc with hc
            subst hc
            exact sound_mkSl hu hi hz h hj
  case range t x =>
    simp only [cE] at hc
    cases hu : P.underlying t with
    | none => simp [hu] at hc
    | some d =>
      cases d <;> simp [hu] at hc <;> subst hc
      · exact sound_rngS hu h hj
      · exact sound_rngM hu h hj
  case next it s =>
    simp [cE] at hc
    subst hc
    cases s
    · exact sound_nxtM h hj
    · exact sound_nxtS h hj
  case entry it => simp [cE] at hc; subst hc; exact sound_ent h hj
  case panic x => simp [cE] at hc; subst hc; exact hj.elim
  case call c =>
    obtain ⟨callee, args, argTypes⟩ := c
    simp only [cE] at hc
    cases callee with
    | value f =>
      have hv : ∀ {eo'}, some (EO.callv f args.toList) = some eo' → eo' = eo → EffOk P c0 w K (do let d ← resolve (ev fr) { callee := .value f, args := args, argTypes := argTypes } o.type; invoke d.target d.args) := by
        intro eo' h1 h2
        injection h1 with h1
        subst h1 h2
        simp only [JE] at hj
        split at hj
        · rename_i g first captured hx
          obtain ⟨hcl, hj⟩ := hj
          simp only [resolve, Deferred.ofValue, hx]
          have := sound_enter hcl h hj
          rw [show (first.toList ++ args.toList.map (ev fr) ++ captured.toList).toArray = first ++ args.map (ev fr) ++ captured from Array.ext' (by simp)] at this
          simpa [invoke] using this
        · exact hj.elim
      cases f with
      | func f =>
        simp only at hc
        split at hc
        · rename_i hcl
          injection hc with hc
          subst hc
          simp only [JE] at hj
          have := sound_enter hcl h hj
          rw [show (args.toList.map (ev fr)).toArray = args.map (ev fr) from Array.ext' (by simp)] at this
          simpa [resolve, Deferred.ofValue, invoke, ev] using this
        · simp at hc
      | tmp t => exact hv rfl (by simpa using hc)
      | const v => exact hv rfl (by simpa using hc)
      | global g => exact hv rfl (by simpa using hc)
    | invoke r n => simp at hc
    | builtin b =>
      obtain ⟨args⟩ := args
      obtain ⟨argTypes⟩ := argTypes
      cases b <;> simp only at hc <;> try (simp at hc; done)
      case append =>
        match args, argTypes, hc with
        | [s, x], [t, u], hc =>
          simp only at hc
          split at hc
          · cases hu : P.underlying t with
            | none => simp [hu] at hc
            | some d =>
              cases hu2 : P.underlying u with
              | none => cases d <;> simp [hu, hu2] at hc
              | some d2 =>
                cases d <;> simp only [hu, hu2] at hc <;> try (simp at hc; done)
                cases d2 <;> simp only at hc <;> try (simp at hc; done)
                case int e ku =>
                  cases hi : P.info? e with
                  | none => simp [hi] at hc
                  | some i =>
                    cases hz : i.zero with
                    | none => simp [hi, hz] at hc
                    | some z =>
                      simp only [hi, hz] at hc
                      split at hc
                      · simp at hc
                      · rename_i hzs
                        simp only [not_or, ne_eq, Decidable.not_not] at hzs
                        injection hc with hc
                        subst hc
                        have := sound_appZ (ty := o.type) hu hu2 hi hz hzs.1 hzs.2 h hj
                        simpa [resolve, invoke, builtin] using this
                case string e =>
                  cases hi : P.info? e with
                  | none => simp [hi] at hc
                  | some i =>
                    cases hz : i.zero with
                    | none => simp [hi, hz] at hc
                    | some z =>
                      simp only [hi, hz] at hc
                      split at hc
                      · simp at hc
                      · rename_i hzs
                        simp only [ne_eq, Decidable.not_not] at hzs
                        injection hc with hc
                        subst hc
                        have := sound_app (u := u) (e2 := e) (ty := o.type) hu (.inr hu2) hi hz hzs h hj
                        simpa [resolve, invoke, builtin] using this
                case slice e e2 =>
                  cases hi : P.info? e with
                  | none => simp [hi] at hc
                  | some i =>
                    cases hz : i.zero with
                    | none => simp [hi, hz] at hc
                    | some z =>
                      simp only [hi, hz] at hc
                      split at hc
                      · simp at hc
                      · rename_i hzs
                        simp only [ne_eq, Decidable.not_not] at hzs
                        injection hc with hc
                        subst hc
                        have := sound_app (u := u) (ty := o.type) hu (.inl hu2) hi hz hzs h hj
                        simpa [resolve, invoke, builtin] using this
          · rename_i htu
            simp only [ne_eq, Decidable.not_not] at htu
            subst htu
            cases hu : P.underlying t with
            | none => simp [hu] at hc
            | some d =>
              cases d <;> simp only [hu] at hc <;> try (simp at hc; done)
              rename_i e
              cases hi : P.info? e with
              | none => simp [hi] at hc
              | some i =>
                cases hz : i.zero with
                | none => simp [hi, hz] at hc
                | some z =>
                  simp only [hi, hz] at hc
                  split at hc
                  · simp at hc
                  · rename_i hzs
                    simp only [ne_eq, Decidable.not_not] at hzs
                    injection hc with hc
                    subst hc
                    have := sound_app (ty := o.type) hu (.inl hu) hi hz hzs h hj
                    simpa [resolve, invoke, builtin] using this
      case copy =>
        match args, argTypes, hc with
        | [d, s], [t, u], hc =>
          simp only at hc
          cases hu : P.underlying t with
          | none => simp [hu] at hc
          | some d' =>
            cases d' <;> simp only [hu] at hc <;> try (simp at hc; done)
            rename_i e
            simp only [Option.map_eq_some_iff] at hc
            obtain ⟨i, hi, rfl⟩ := hc
            have := sound_cp (u := u) (ty := o.type) hu hi h hj
            simpa [resolve, invoke, builtin] using this
      case clear =>
        match args, argTypes, hc with
        | [x], [t], hc =>
          simp only at hc
          cases hu : P.underlying t with
          | none => simp [hu] at hc
          | some d' =>
            cases d' <;> simp only [hu] at hc <;> try (simp at hc; done)
            rename_i e
            cases hi : P.info? e with
            | none => simp [hi] at hc
            | some i =>
              cases hz : i.zero with
              | none => simp [hi, hz] at hc
              | some z =>
                simp only [hi, hz] at hc
                split at hc
                · simp at hc
                · rename_i hzs
                  simp only [ne_eq, Decidable.not_not] at hzs
                  injection hc with hc
                  subst hc
                  have := sound_clr (ty := o.type) hu hi hz hzs h hj
                  simpa [resolve, invoke, builtin] using this
      case delete =>
        match args, argTypes, hc with
        | [m, k], [t, u], hc =>
          simp only at hc
          cases hu : P.underlying t with
          | none => simp [hu] at hc
          | some d' =>
            cases d' <;> simp only [hu] at hc <;> try (simp at hc; done)
            rename_i kt et
            cases hp : plainT P 30 kt with
            | none => simp [hp] at hc
            | some ks =>
              cases ha : isAggT P kt with
              | none => simp [hp, ha] at hc
              | some b =>
                simp [hp, ha] at hc
                subst hc
                have := sound_mdel (u := u) (ty := o.type) hu hp ha h hj
                simpa [resolve, invoke, builtin] using this
  all_goals (simp [cE] at hc)
end
end Go.Osj
