/- Operations that only read: the one theorem, 'sound_R'. -/
import Derived.Test.YtfadbihdmohdiaaGreatDoorOsjE
import Derived.Laws.BytesString
namespace Go.Osj
open Go.RowKit
section
variable {P : Program} {c0 w : World} {S : St} {fr : Fr}

theorem sound_load {t : TypeId} {x : Operand} {ro : RO} {v : Value} (hc : cR P (.load t x) = some ro) (h : Rel c0 S w) (hv : evR S fr ro = some v) : (Instr.loadAt t (ev fr x)).run P w = .ok v w := by
  simp only [cR] at hc
  cases ha : isAggT P t with
  | none => simp [ha] at hc
  | some b =>
    cases hi : P.info? t with
    | none => cases b <;> simp [ha, hi] at hc
    | some i =>
      cases b with
      | true =>
        simp [ha, hi] at hc; subst hc
        simp only [evR] at hv
        cases hx : ev fr x <;> simp only [hx] at hv <;> try (simp at hv; done)
        rename_i a
        cases a with
        | none => simp at hv
        | some a =>
          simp only [Option.map_eq_some_iff] at hv
          obtain ⟨cs, hcs, rfl⟩ := hv
          obtain ⟨hl, hget⟩ := h.loadN hcs
          have := run_loadCells_list (P := P) w a cs hget
          rw [hl] at this
          simp [Instr.loadAt, Instr.sureAddr, loadVar, run_isAgg ha, run_sizeOf hi, this]
      | false =>
        simp [ha, hi] at hc; subst hc
        simp only [evR] at hv
        cases hx : ev fr x <;> simp only [hx] at hv <;> try (simp at hv; done)
        rename_i a
        cases a with
        | none => simp at hv
        | some a =>
          simp only at hv
          have := h.cell hv
          simp [Instr.loadAt, Instr.sureAddr, loadVar, run_isAgg ha, this]

theorem mapM_ev {places : List (Nat × Nat)} : ∀ {ps : List (Nat × Operand)} {qs : List (Nat × Nat × Operand)}, ps.mapM (fun (p : Nat × Operand) => (places[p.1]?).map fun q => (q.1, q.2, p.2)) = some qs →
    (ps.map fun p => (p.1, ev fr p.2)).mapM (fun (p : Nat × Value) => (places.toArray[p.1]?).map fun q => (q.1, q.2, p.2)) = some (qs.map fun p => (p.1, p.2.1, ev fr p.2.2))
  | [], qs, h => by simp at h; subst h; simp
  | p :: ps, qs, h => by
    simp only [List.mapM_cons, Option.bind_eq_bind, Option.pure_def] at h
    cases hp : places[p.1]? with
    | none => simp [hp] at h
    | some q =>
      cases hr : ps.mapM (fun (p : Nat × Operand) => (places[p.1]?).map fun q => (q.1, q.2, p.2)) with
      | none => simp [hp, hr] at h
      | some qs' =>
        simp [hp, hr] at h
        subst h
        have := mapM_ev hr
        simp only [List.map_cons, List.mapM_cons, Option.bind_eq_bind, Option.pure_def]
        rw [this]
        simp [hp]

theorem sound_build {t : TypeId} {parts : Array (Nat × Operand)} {ro : RO} {v : Value} (hc : cR P (.build t parts) = some ro) (hv : evR S fr ro = some v) :
    (Instr.build t (parts.map fun (i, x) => (i, ev fr x))).run P w = .ok v w := by
  simp only [cR] at hc
  cases hi : P.info? t with
  | none => simp [hi] at hc
  | some it =>
    cases hu : P.underlying t with
    | none => simp [hi, hu] at hc
    | some d =>
      cases d <;> simp only [hi, hu] at hc <;> try (simp at hc; done)
      rename_i fields
      cases hz : it.zero with
      | none => simp [hz] at hc
      | some z =>
        cases hp : fields.toList.mapM (fun f => (P.info? f.type).map fun i => (f.offset, i.size)) with
        | none => simp [hz, hp] at hc
        | some places =>
          simp only [hz, hp, Option.map_eq_some_iff] at hc
          obtain ⟨qs, hq, rfl⟩ := hc
          simp only [evR, Option.map_eq_some_iff] at hv
          obtain ⟨cs, hcs, rfl⟩ := hv
          refine run_build w t _ cs.toArray ?_
          unfold Program.built
          simp only [hi, hu, hz, hp]
          refine run_fill (qs := qs.map fun p => (p.1, p.2.1, ev fr p.2.2)) ?_ hcs
          have := mapM_ev (fr := fr) hq
          simpa using this

theorem sound_field {t : TypeId} {x : Operand} {f : Nat} {ro : RO} {v : Value} (hc : cR P (.field t x f) = some ro) (hv : evR S fr ro = some v) : (Instr.field t (ev fr x) f).run P w = .ok v w := by
  simp only [cR] at hc
  cases hu : P.underlying t with
  | none => simp [hu] at hc
  | some d =>
    cases d <;> simp only [hu] at hc <;> try (simp at hc; done)
    rename_i fields
    cases hf : fields[f]? with
    | none => simp [hf] at hc
    | some g =>
      cases ha : isAggT P g.type with
      | none => simp [hf, ha] at hc
      | some b =>
        cases hi : P.info? g.type with
        | none => simp [hf, ha, hi] at hc
        | some i =>
          simp [hf, ha, hi] at hc; subst hc
          simp only [evR] at hv
          cases hx : ev fr x <;> simp only [hx] at hv <;> try (simp at hv; done)
          rename_i cs
          cases b with
          | true =>
            simp only [if_true] at hv
            split at hv
            · injection hv with hv; subst hv
              simp [Instr.field, run_underlying hu, hf, asAgg, part, run_isAgg ha, run_sizeOf hi]
            · simp at hv
          | false =>
            simp only [Bool.false_eq_true, if_false] at hv
            simp [Instr.field, run_underlying hu, hf, asAgg, part, run_isAgg ha, hv]

theorem sound_fieldAddr {t : TypeId} {x : Operand} {f : Nat} {ro : RO} {v : Value} (hc : cR P (.fieldAddr t x f) = some ro) (hv : evR S fr ro = some v) : (Instr.fieldAt t (ev fr x) f).run P w = .ok v w := by
  simp only [cR] at hc
  cases hu : P.underlying t with
  | none => simp [hu] at hc
  | some d =>
    cases d <;> simp only [hu] at hc <;> try (simp at hc; done)
    rename_i fields
    cases hf : fields[f]? with
    | none => simp [hf] at hc
    | some g =>
      cases hi : P.info? g.type with
      | none => simp [hf, hi] at hc
      | some i =>
        simp only [hf, hi] at hc
        split at hc
        · simp at hc
        · rename_i hz
          injection hc with hc; subst hc
          simp only [evR] at hv
          cases hx : ev fr x <;> simp only [hx] at hv <;> try (simp at hv; done)
          rename_i a
          cases a with
          | none => simp at hv
          | some a =>
            simp only at hv
            cases hs : a.spot with
            | some s => simp [hs] at hv
            | none =>
              simp [hs] at hv; subst hv
              simp [Instr.fieldAt, run_underlying hu, hf, Instr.sureAddr, fieldPlace, run_sizeOf hi, hz, add_none a hs]

theorem sound_indexAddr {t : TypeId} {x i : Operand} {ro : RO} {v : Value} (hc : cR P (.indexAddr t x i) = some ro) (hv : evR S fr ro = some v) : (Instr.indexAt t (ev fr x) (ev fr i)).run P w = .ok v w := by
  simp only [cR] at hc
  cases hu : P.underlying t with
  | none => simp [hu] at hc
  | some d =>
    cases d <;> simp only [hu] at hc <;> try (simp at hc; done)
    case slice e =>
      cases hi : P.info? e with
      | none => simp [hi] at hc
      | some j =>
        simp [hi] at hc; subst hc
        simp only [evR] at hv
        cases hx : ev fr x <;> cases hy : ev fr i <;> simp only [hx, hy] at hv <;> try (simp at hv; done)
        case slice.int a len cap k n =>
          cases a with
          | none => simp at hv
          | some a =>
            simp only at hv
            cases hs : a.spot with
            | some s => simp [hs] at hv
            | none =>
              simp only [hs] at hv
              split at hv
              · rename_i hb
                injection hv with hv; subst hv
                simp [Instr.indexAt, asIntOf, run_underlying hu, run_sizeOf hi, hb, add_none a hs]
              · simp at hv
        all_goals (rename_i a _ _; cases a <;> simp at hv)
    case array n e =>
      cases hi : P.info? e with
      | none => simp [hi] at hc
      | some j =>
        simp [hi] at hc; subst hc
        simp only [evR] at hv
        cases hx : ev fr x <;> cases hy : ev fr i <;> simp only [hx, hy] at hv <;> try (simp at hv; done)
        case pointer.int a k m =>
          cases a with
          | none => simp at hv
          | some a =>
            simp only at hv
            cases hs : a.spot with
            | some s => simp [hs] at hv
            | none =>
              simp only [hs] at hv
              split at hv
              · rename_i hb
                injection hv with hv; subst hv
                simp [Instr.indexAt, Instr.sureAddr, asIntOf, run_underlying hu, run_sizeOf hi, hb, add_none a hs]
              · simp at hv
        all_goals (rename_i a; cases a <;> simp at hv)

theorem sound_lookup {t : TypeId} {m k : Operand} {ok : Bool} {ro : RO} {v : Value} (hc : cR P (.lookup t m k ok) = some ro) (h : Rel c0 S w) (hv : evR S fr ro = some v) : (Instr.lookup t (ev fr m) (ev fr k) ok).run P w = .ok v w := by
  simp only [cR] at hc
  cases hu : P.underlying t with
  | none => simp [hu] at hc
  | some d =>
    cases d <;> simp only [hu] at hc <;> try (simp at hc; done)
    rename_i kt e
    cases hp : plainT P 30 kt with
    | none => simp [hp] at hc
    | some ks =>
      cases ha : isAggT P kt with
      | none => simp [hp, ha] at hc
      | some agg =>
        cases hz : (P.info? e).bind (·.zero) with
        | none => simp [hp, ha, hz] at hc
        | some z =>
          simp [hp, ha, hz] at hc; subst hc
          simp only [evR] at hv
          split at hv
          rotate_left
          · simp at hv
          rename_i hok
          have hck := fun (b : Bool) => run_checkKeyV hp ha hok b w
          have hzv : (zeroValue e).run P w = .ok z w := by
            cases hie : P.info? e with
            | none => simp [hie] at hz
            | some ie => simp [hie] at hz; simp [zeroValue, typeInfo, hie, hz]
          simp only [Option.map_eq_some_iff] at hv
          obtain ⟨o, ho, rfl⟩ := hv
          cases hm : ev fr m <;> simp only [hm] at ho <;> try (simp at ho; done)
          rename_i b
          cases b with
          | none =>
            simp only [Option.some.injEq] at ho; subst ho
            have hfk := run_findKey (es := []) (r := none) (k := ev fr k) hp ha (by simp [kv, mfind]) w
            simp only [Instr.lookup, Sem.run_bind, run_underlying hu, Result.andThen_ok, Sem.run_pure, hck, hfk, hzv]
            cases ok <;> simp
          | some b =>
            simp only at ho
            cases hob : S.obj b with
            | none => simp [hob] at ho
            | some oo =>
              cases oo <;> simp only [hob] at ho <;> try (simp at ho; done)
              rename_i rw ms clock
              obtain ⟨hw, _⟩ := h.map hob
              have hfk := run_findKey (es := ms) (r := o) (k := ev fr k) hp ha ho w
              simp only [Instr.lookup, Sem.run_bind, run_underlying hu, Result.andThen_ok, Sem.run_pure, run_getObj_map hw, hck, hfk]
              cases o with
              | none => cases ok <;> simp [hzv]
              | some p => cases ok <;> simp

theorem sound_slice {t : TypeId} {x : Operand} {lo hi mx : Option Operand} {ro : RO} {v : Value} (hc : cR P (.slice t x lo hi mx) = some ro) (hv : evR S fr ro = some v) :
    (Instr.sliceAt t (ev fr x) (lo.map (ev fr)) (hi.map (ev fr)) (mx.map (ev fr))).run P w = .ok v w := by
  have hbd : ∀ {y d : Nat} {o : Option Operand} {r : Nat} (code : BoundsCode), bnd fr y d o = some r → ∀ z, o = some z → (Instr.sliceBound (ev fr z) y code).run P w = .ok r w := by
    intro y d o r code h z hz
    subst hz
    exact bnd_run code h
  have hnone : ∀ {y d r : Nat}, bnd fr y d none = some r → r = d := fun h => by simp [bnd] at h; exact h.symm
  simp only [cR] at hc
  cases hu : P.underlying t with
  | none => simp [hu] at hc
  | some d =>
    cases d <;> simp only [hu] at hc <;> try (simp at hc; done)
    case string =>
      cases mx with
      | some m => simp at hc
      | none =>
        simp at hc; subst hc
        simp only [evR] at hv
        cases hx : ev fr x <;> simp only [hx] at hv <;> try (simp at hv; done)
        rename_i s
        cases hi with
        | none =>
          simp only [Option.map_eq_some_iff] at hv
          obtain ⟨l, hl, rfl⟩ := hv
          cases lo with
          | none => obtain rfl := hnone hl; simp [Instr.sliceAt, run_underlying hu, Instr.slice, Instr.sliceBounds]
          | some z => have := hbd .sliceB hl z rfl; simp [Instr.sliceAt, run_underlying hu, Instr.slice, Instr.sliceBounds, this]
        | some hh =>
          cases hb : bnd fr s.size 0 (some hh) with
          | none => simp [hb] at hv
          | some hn =>
            simp only [hb, Option.map_eq_some_iff] at hv
            obtain ⟨l, hl, rfl⟩ := hv
            have h1 := hbd .sliceAlen hb hh rfl
            cases lo with
            | none => obtain rfl := hnone hl; simp [Instr.sliceAt, run_underlying hu, Instr.slice, Instr.sliceBounds, h1]
            | some z => have := hbd .sliceB hl z rfl; simp [Instr.sliceAt, run_underlying hu, Instr.slice, Instr.sliceBounds, h1, this]
    case slice e =>
      cases hie : P.info? e with
      | none => simp [hie] at hc
      | some j =>
        simp [hie] at hc; subst hc
        simp only [evR] at hv
        have hbd : ∀ {y d : Nat} {o : Option Value} {r : Nat} (code : BoundsCode), bndV y d o = some r → ∀ z, o = some z → (Instr.sliceBound z y code).run P w = .ok r w := by
          intro y d o r code h z hz
          subst hz
          exact bndV_run code h
        have hnone : ∀ {y d r : Nat}, bndV y d none = some r → r = d := fun h => by simp [bndV] at h; exact h.symm
        generalize lo.map (ev fr) = lo at hv ⊢
        generalize hi.map (ev fr) = hi at hv ⊢
        generalize mx.map (ev fr) = mx at hv ⊢
        cases hx : ev fr x <;> simp only [hx, slV] at hv <;> try (simp at hv; done)
        rename_i a len cap
        have hbounds : ∀ {m h l : Nat}, bndV cap cap mx = some m → bndHV m len hi mx = some h → bndV h 0 lo = some l →
            (Instr.sliceBounds true len cap lo hi mx).run P w = .ok (l, h, m) w := by
          intro m h l h1 h2 h3
          unfold bndHV at h2
          cases mx with
          | none =>
            obtain rfl := hnone h1
            cases hi with
            | none =>
              simp at h2; subst h2
              cases lo with
              | none => obtain rfl := hnone h3; simp [Instr.sliceBounds]
              | some z => have := hbd .sliceB h3 z rfl; simp [Instr.sliceBounds, this]
            | some hh =>
              have e1 := hbd .sliceAcap h2 hh rfl
              cases lo with
              | none => obtain rfl := hnone h3; simp [Instr.sliceBounds, e1]
              | some z => have := hbd .sliceB h3 z rfl; simp [Instr.sliceBounds, e1, this]
          | some mm =>
            have e0 := hbd .slice3Acap h1 mm rfl
            cases hi with
            | none => simp at h2
            | some hh =>
              have e1 := hbd .slice3B h2 hh rfl
              cases lo with
              | none => obtain rfl := hnone h3; simp [Instr.sliceBounds, e0, e1]
              | some z => have := hbd .slice3C h3 z rfl; simp [Instr.sliceBounds, e0, e1, this]
        cases a with
        | some a =>
          simp only [Option.bind_eq_some_iff] at hv
          obtain ⟨m, hm, h, hh, l, hl, hv⟩ := hv
          have := hbounds hm hh hl
          simp only [Instr.sliceAt, Sem.run_bind, run_underlying hu, Result.andThen_ok, Instr.slice, this, run_sizeOf hie, Sem.run_pure]
          by_cases hml : m = l
          · rw [if_pos hml] at hv
            injection hv with hv
            subst hv
            simp [hml]
          · rw [if_neg hml] at hv
            cases hs : a.spot with
            | some s => simp [hs] at hv
            | none =>
              simp only [hs, Option.some.injEq] at hv
              subst hv
              simp [hml, add_none a hs]
        | none =>
          simp only at hv
          split at hv
          rotate_left
          · simp at hv
          rename_i hlc
          obtain ⟨rfl, rfl⟩ := hlc
          simp only [Option.bind_eq_some_iff, Option.map_eq_some_iff] at hv
          obtain ⟨m, hm, h, hh, l, hl, rfl⟩ := hv
          have hz : ∀ {y : Nat} {o : Option Value} {r : Nat}, y = 0 → bndV y 0 o = some r → r = 0 := by
            intro y o r hy hr
            subst hy
            cases o with
            | none => exact hnone hr
            | some z =>
              cases z <;> simp only [bndV] at hr <;> try (simp at hr; done)
              split at hr
              · simp at hr; omega
              · simp at hr
          obtain rfl := hz rfl hm
          have hh0 : h = 0 := by
            unfold bndHV at hh
            cases hi with
            | none => cases mx <;> simp at hh; exact hh.symm
            | some q => exact hz rfl hh
          subst hh0
          obtain rfl := hz rfl hl
          have := hbounds hm hh hl
          simp [Instr.sliceAt, run_underlying hu, Instr.slice, this, run_sizeOf hie]

theorem bytes_fold : ∀ {cs : List Value} {bs : List UInt8}, bytesV cs = some bs → ∃ ns : List Int, cs = ns.map (Value.int .u8) ∧ bs = ns.map fun n => UInt8.ofNat n.toNat
  | [], bs, h => by simp [bytesV] at h; subst h; exact ⟨[], rfl, rfl⟩
  | v :: cs, bs, h => by
    cases v <;> try (simp [bytesV] at h; done)
    rename_i k n
    cases k <;> try (simp [bytesV] at h; done)
    simp only [bytesV, Option.map_eq_some_iff] at h
    obtain ⟨r, hr, rfl⟩ := h
    obtain ⟨ns, h1, h2⟩ := bytes_fold hr
    exact ⟨n :: ns, by simp [h1], by simp [h2]⟩
theorem push_fold (ns : List Int) : ∀ s : ByteArray, ns.foldl (fun r n => r.push (UInt8.ofNat n.toNat)) s = ⟨s.data ++ (ns.map fun n => UInt8.ofNat n.toNat).toArray⟩ := by
  induction ns with
  | nil => intro s; simp
  | cons n ns ih =>
    intro s
    rw [List.foldl_cons, ih]
    simp [ByteArray.push]
theorem sound_bs {src dst e : TypeId} {x : Operand} {v : Value} (hs : P.underlying src = some (.slice e)) (he : P.underlying e = some (.int .u8)) (hd : P.underlying dst = some .string) (h : Rel c0 S w)
    (hv : evR S fr (.bs x) = some v) : (convert src dst (ev fr x)).run P w = .ok v w := by
  simp only [evR] at hv
  split at hv
  · rename_i l c hx
    injection hv with hv
    subst hv
    rw [hx, run_convert_bytes_string w src dst e none l c hs he hd]
    rfl
  · rename_i a n c hx
    rw [hx, run_convert_bytes_string w src dst e (some a) n c hs he hd]
    split at hv
    · rename_i h0
      subst h0
      injection hv with hv
      subst hv
      have := run_bytesToString (P := P) w a 0 c [] (by simp [loadCells, loadCellsFrom])
      simpa using this
    · cases hl : S.loadN a n with
      | none => simp [hl] at hv
      | some cs =>
        simp only [hl, Option.bind_some, Option.map_eq_some_iff] at hv
        obtain ⟨bs, hb, rfl⟩ := hv
        obtain ⟨ns, rfl, rfl⟩ := bytes_fold hb
        obtain ⟨h1, h2⟩ := h.loadN hl
        have hrun := run_loadCells_list (P := P) w a _ h2
        rw [h1] at hrun
        rw [run_bytesToString w a n c ns hrun, push_fold]
        simp
  · simp at hv

theorem sound_R {o : Oper} {ro : RO} {v : Value} (hc : cR P o.op = some ro) (h : Rel c0 S w) (hv : evR S fr ro = some v) : (execOp (ev fr) o).run P w = .ok (.value v) w := by
  unfold execOp
  cases hop : o.op <;> rw [hop] at hc
  case move x => simp [cR] at hc; subst hc; simp [evR] at hv; subst hv; simp
  case assign x => simp [cR] at hc; subst hc; simp [evR] at hv; subst hv; simp
  case pick c a b =>
    simp [cR] at hc; subst hc
    simp only [evR] at hv
    cases hx : ev fr c <;> simp only [hx] at hv <;> try (simp at hv; done)
    injection hv with hv; subst hv
    simp [asBool, hx]
  case load t x => exact v_run (sound_load hc h hv)
  case build t ps => exact v_run (sound_build hc hv)
  case field t x f => exact v_run (sound_field hc hv)
  case fieldAddr t x f => exact v_run (sound_fieldAddr hc hv)
  case indexAddr t x i => exact v_run (sound_indexAddr hc hv)
  case lookup t m k ok => exact v_run (sound_lookup hc h hv)
  case slice t x lo hi mx => exact v_run (sound_slice hc hv)
  case nilCheck x =>
    simp [cR] at hc; subst hc
    simp only [evR] at hv
    cases hx : ev fr x <;> simp only [hx] at hv <;> try (simp at hv; done)
    case pointer a => cases a <;> simp at hv; subst hv; simp [hx]
    case func fn a b => cases fn <;> simp at hv; subst hv; simp [hx]
  case extract x i =>
    simp [cR] at hc; subst hc
    simp only [evR] at hv
    cases hx : ev fr x <;> simp only [hx] at hv <;> try (simp at hv; done)
    simp [Instr.extract, hx, hv]
  case unOp op t x =>
    simp [cR] at hc; subst hc
    simp only [evR] at hv
    cases op <;> cases hx : ev fr x <;> simp only [hx] at hv <;> try (simp at hv; done)
    all_goals (injection hv with hv; subst hv; simp [Op.unary, Op.intArith, intBits_xor, hx])
  case makeInterface t x =>
    simp only [cR] at hc
    cases hu : P.underlying t with
    | none => simp [hu] at hc
    | some d =>
      cases d <;> simp [hu] at hc
      all_goals (subst hc; simp [evR] at hv; subst hv; simp [Instr.makeInterface, run_underlying hu])
  case makeFunc fn first captured =>
    simp [cR] at hc; subst hc
    simp [evR] at hv; subst hv
    obtain ⟨first⟩ := first
    obtain ⟨captured⟩ := captured
    simp [Instr.makeFunc]
  case convert src dst x =>
    simp only [cR] at hc
    cases hs : P.underlying src with
    | none => simp [hs] at hc
    | some ds =>
      cases hd : P.underlying dst with
      | none => cases ds <;> simp [hs, hd] at hc
      | some dd =>
        cases ds <;> cases dd <;> simp [hs, hd] at hc
        case slice.string e =>
          split at hc
          · rename_i he
            injection hc with hc
            subst hc
            simp [sound_bs hs he hd h hv]
          · simp at hc
        all_goals
          subst hc
          simp only [evR] at hv
          cases hx : ev fr x <;> simp only [hx] at hv <;> try (simp at hv; done)
          injection hv with hv; subst hv
          simp [convert, run_underlying hs, run_underlying hd, Conv.intToInt, Conv.intToString, hx]
  case index t x i =>
    simp only [cR] at hc
    cases hu : P.underlying t with
    | none => simp [hu] at hc
    | some d =>
      cases d <;> simp [hu] at hc
      subst hc
      simp only [evR] at hv
      cases hx : ev fr x <;> cases hy : ev fr i <;> simp only [hx, hy] at hv <;> try (simp at hv; done)
      split at hv
      · rename_i h0
        simp only [Option.map_eq_some_iff] at hv
        obtain ⟨b, hb, rfl⟩ := hv
        simp [Instr.index, asIntOf, run_underlying hu, hx, hy, h0, hb]
      · simp at hv
  case binOp op t x y yt =>
    simp only [cR] at hc
    cases hu : P.underlying t with
    | none => simp [hu] at hc
    | some d =>
      have hb : ∀ {op' : BinOp}, ro = .bin op' x y → op' = op → (execOp (ev fr) o).run P w = .ok (.value v) w := by
        intro op' h1 h2
        subst h1 h2
        simp only [evR] at hv
        unfold execOp
        rw [hop]
        exact v_run (run_binV t x y hv)
      have hnil : ∀ {k : NK} {neq : Bool}, ro = .eqNil k neq x y → op = (if neq then .neq else .eql) → k.fits d = true → (execOp (ev fr) o).run P w = .ok (.value v) w := by
        intro k neq h1 h2 h3
        subst h1 h2
        simp only [evR, Option.map_eq_some_iff] at hv
        obtain ⟨b, hbb, rfl⟩ := hv
        unfold execOp
        rw [hop]
        exact v_run (run_nilOp hu h3 hbb neq x y w)
      have hmain : (execOp (ev fr) o).run P w = .ok (.value v) w := by
        cases d <;> simp only [hu] at hc <;> try (simp at hc; done)
        case int k => injection hc with hc; exact hb hc.symm rfl
        case string => injection hc with hc; exact hb hc.symm rfl
        case pointer e => cases op <;> simp at hc <;> first | exact hnil (neq := false) hc.symm rfl rfl | exact hnil (neq := true) hc.symm rfl rfl
        case slice e => cases op <;> simp at hc <;> first | exact hnil (neq := false) hc.symm rfl rfl | exact hnil (neq := true) hc.symm rfl rfl
        case map e f => cases op <;> simp at hc <;> first | exact hnil (neq := false) hc.symm rfl rfl | exact hnil (neq := true) hc.symm rfl rfl
        case func e f g => cases op <;> simp at hc <;> first | exact hnil (neq := false) hc.symm rfl rfl | exact hnil (neq := true) hc.symm rfl rfl
        case bool =>
          cases op <;> simp at hc
          all_goals
            subst hc
            simp only [evR, Option.map_eq_some_iff, eqV] at hv
            obtain ⟨b, hb', rfl⟩ := hv
            cases hx : ev fr x <;> cases hy : ev fr y <;> simp only [hx, hy, eqC] at hb' <;> try (simp at hb'; done)
            simp at hb'; subst hb'
            unfold execOp
            rw [hop]
            refine v_run ?_
            simp [eqGuard, hx, hy, run_eql_bool, run_neq_bool, hu]
        case struct fs =>
          cases hp : plainT P 30 t with
          | none => simp [hp] at hc
          | some ks =>
            cases hg : P.eqGuardType P.depth t with
            | true => simp [hp, hg] at hc
            | false =>
              have hag : isAggT P t = some true := by simp [isAggT, hu]
              simp only [hp, hg] at hc
              cases op <;> simp at hc
              all_goals
                subst hc
                simp only [evR, Option.map_eq_some_iff] at hv
                obtain ⟨b, hb', rfl⟩ := hv
                cases hx : ev fr x <;> simp only [hx, eqV] at hb' <;> try (simp at hb'; done)
                cases hy : ev fr y <;> simp only [hy] at hb' <;> try (simp at hb'; done)
                rename_i xs ys
                have hq := run_eqV (x := .agg xs) (y := .agg ys) (b := b) hp hag (by simpa [eqV] using hb') 10000 (by omega) w
                unfold execOp
                rw [hop]
                refine v_run ?_
                simp only [hx, hy, Sem.run_bind, run_eqGuard_agg w _ t x y xs ys hg, Result.andThen_ok]
                first | rw [run_eql_struct] | rw [run_neq_struct]
                simp [hq]
      unfold execOp at hmain
      rw [hop] at hmain
      exact hmain
  case call c =>
    simp only [cR] at hc
    obtain ⟨callee, args, argTypes⟩ := c
    cases callee <;> simp only at hc <;> try (simp at hc; done)
    rename_i b
    obtain ⟨args⟩ := args
    obtain ⟨argTypes⟩ := argTypes
    cases b <;> simp only at hc <;> try (simp at hc; done)
    case cap =>
      match args, argTypes, hc with
      | [x], [t], hc =>
        cases hu : P.underlying t with
        | none => simp [hu] at hc
        | some d =>
          cases d <;> simp [hu] at hc
          subst hc
          simp only [evR] at hv
          cases hx : ev fr x <;> simp only [hx] at hv <;> try (simp at hv; done)
          injection hv with hv
          subst hv
          simp [resolve, invoke, builtin, Builtin.cap_, run_underlying hu, hx, goInt]
    case len =>
      match args, argTypes, hc with
      | [x], [t], hc =>
        cases hu : P.underlying t with
        | none => simp [hu] at hc
        | some d =>
          have hl : ∀ {k : NK}, ro = .len k x → k.fits d = true → (Builtin.len_ #[t] o.type #[ev fr x]).run P w = .ok v w := by
            intro k h1 h2
            subst h1
            exact sound_len h hu h2 hv
          have hl2 : (Builtin.len_ #[t] o.type #[ev fr x]).run P w = .ok v w := by
            cases d <;> simp [hu] at hc
            case string => exact hl hc.symm rfl
            case slice e => exact hl hc.symm rfl
            case map a b => exact hl hc.symm rfl
          simp [resolve, invoke, builtin, hl2]
    all_goals
      match args, argTypes, hc with
      | [x, y], ts, hc =>
        simp at hc; subst hc
        simp only [evR] at hv
        cases hx : ev fr x <;> cases hy : ev fr y <;> simp only [hx, hy] at hv <;> try (simp at hv; done)
        split at hv
        · rename_i hk; subst hk
          injection hv with hv; subst hv
          simp [resolve, invoke, builtin, hx, hy, run_max_int2, run_min_int2]
          omega
        · simp at hv
  all_goals (simp [cR] at hc)
end
end Go.Osj
