/- The code's tree, calls: the judgement 'JC', and that it tells the truth. -/
import Derived.Test.YtfadbihdmohdiaaGreatDoorOsjL
import Derived.Scope
namespace Go.Osj
open Go.RowKit

inductive IC where
  | skip
  | reg (p : Plan)
  | seq (a b : IC)
  | cond (c : Operand) (a b : IC)
  | block (id : Nat) (a : IC)
  | loop (a : IC)
  | exit (id : Nat)
  | ret

inductive XE where
  | normal
  | exit (id : Nat)
  | ret
abbrev Post := XE → Fr → St → Prop
def thenQ (K : Fr → St → Prop) (Q : Post) : Post
  | .normal => K
  | e => Q e
def inQ (id : Nat) (Q : Post) : Post
  | .exit i => if i = id then Q .normal else Q (.exit i)
  | e => Q e

def JC (P : Program) : IC → Post → Fr → St → Prop
  | .skip, Q, fr, S => Q .normal fr S
  | .reg p, Q, fr, S => JI P (Q .normal) p fr S []
  | .seq a b, Q, fr, S => JC P a (thenQ (JC P b Q) Q) fr S
  | .cond c a b, Q, fr, S => ∃ t, ev fr c = .bool t ∧ (t = true → JC P a Q fr S) ∧ (t = false → JC P b Q fr S)
  | .block id a, Q, fr, S => JC P a (inQ id Q) fr S
  | .loop a, Q, fr, S => ∀ I : Fr → St → Prop, (∀ fr S, JC P a (thenQ I Q) fr S → I fr S) → I fr S
  | .exit id, Q, fr, S => Q (.exit id) fr S
  | .ret, Q, fr, S => Q .ret fr S

def cCode (P : Program) (nt : Nat) : Code → Option IC
  | .skip | .label _ => some .skip
  | .region _ ops drawn => (cRegion P nt ops drawn).map .reg
  | .seq a b => match cCode P nt a, cCode P nt b with | some x, some y => some (.seq x y) | _, _ => none
  | .cond c a b => match cCode P nt a, cCode P nt b with | some x, some y => some (.cond c x y) | _, _ => none
  | .block id a => (cCode P nt a).map (.block id)
  | .loop a => (cCode P nt a).map .loop
  | .scope a => cCode P nt a
  | .exit id => some (.exit id)
  | .ret => some .ret
  | _ => none

section
variable {P : Program} {c0 : World} {nt : Nat}

/-- a Post as the kit's calculus has it -/
def liftQ (c0 : World) (nt : Nat) (Q : Post) : Exit → Act → World → Prop
  | .normal, a, w => ∃ fr S, FRel nt fr a ∧ Rel c0 S w ∧ Q .normal fr S
  | .exit id, a, w => ∃ fr S, FRel nt fr a ∧ Rel c0 S w ∧ Q (.exit id) fr S
  | .ret, a, w => ∃ fr S, FRel nt fr a ∧ Rel c0 S w ∧ Q .ret fr S
  | _, _, _ => False

/-- where a loop's round begins -/
def WL (P : Program) (c : Code) (Q : Exit → Act → World → Prop) (a : Act) (w : World) : Prop :=
  ∀ b k cs, ∃ e a' w', Q e a' w' ∧ Arrives P (lone (b.at a (.code c :: .inLoop c :: k)) cs w) b k cs e a' w'
theorem WL.round {c : Code} {Q : Exit → Act → World → Prop} {a : Act} {w : World} (h : c.wp P (Exit.then (WL P c Q) Q) a w) : WL P c Q a w := by
  intro b k cs
  obtain ⟨e, a₁, w₁, hq, harr⟩ := h b (.inLoop c :: k) cs
  cases e with
  | normal =>
    obtain ⟨e₂, a₂, w₂, hq₂, harr₂⟩ := hq b k cs
    exact ⟨e₂, a₂, w₂, hq₂, .of_steps (Steps.trans harr (.one step_inLoop)) harr₂⟩
  | exit id => exact ⟨_, a₁, w₁, hq, .pass (x := .inLoop c) rfl (fun _ _ => .inl (by simp)) harr⟩
  | goto l => exact ⟨_, a₁, w₁, hq, .pass (x := .inLoop c) rfl (fun _ _ => .inl (by simp)) harr⟩
  | ret => exact ⟨_, a₁, w₁, hq, .pass (x := .inLoop c) rfl (fun _ _ => .inl (by simp)) harr⟩
  | panic ch => exact ⟨_, a₁, w₁, hq, .pass (x := .inLoop c) rfl (fun _ _ => .inl (by simp)) harr⟩
  | outgrown => exact ⟨_, a₁, w₁, hq, .pass (x := .inLoop c) rfl (fun _ _ => .inl (by simp)) harr⟩
theorem WL.loop {c : Code} {Q : Exit → Act → World → Prop} {a : Act} {w : World} (h : WL P c Q a w) : (Code.loop c).wp P Q a w := by
  intro b k cs
  obtain ⟨e, a₁, w₁, hq, harr⟩ := h b k cs
  exact ⟨e, a₁, w₁, hq, .of_steps (.one step_loop) harr⟩

theorem sound_C (hm : P.follows .mixedOrders = true) : ∀ (code : Code) (ic : IC) (Q : Post) (fr : Fr) (S : St) (a : Act) (w : World), cCode P nt code = some ic → JC P ic Q fr S → FRel nt fr a → Rel c0 S w → code.wp P (liftQ c0 nt Q) a w := by
  intro code
  induction code with
  | skip => intro ic Q fr S a w hc hj hf hr; simp [cCode] at hc; subst hc; exact wp_skip ⟨fr, S, hf, hr, hj⟩
  | label l => intro ic Q fr S a w hc hj hf hr; simp [cCode] at hc; subst hc; exact wp_label ⟨fr, S, hf, hr, hj⟩
  | region id ops drawn =>
    intro ic Q fr S a w hc hj hf hr
    simp only [cCode, Option.map_eq_some_iff] at hc
    obtain ⟨p, hp, rfl⟩ := hc
    exact sound_region hm hp hj hf hr fun a w fr S h1 h2 h3 => ⟨fr, S, h1, h2, h3⟩
  | seq x y ihx ihy =>
    intro ic Q fr S a w hc hj hf hr
    simp only [cCode] at hc
    cases hx : cCode P nt x with
    | none => simp [hx] at hc
    | some ix =>
      cases hy : cCode P nt y with
      | none => simp [hx, hy] at hc
      | some iy =>
        simp [hx, hy] at hc
        subst hc
        refine wp_seq (wp_mono (ihx ix _ fr S a w hx hj hf hr) fun e a' w' h => ?_)
        cases e <;> simp only [liftQ] at h
        · obtain ⟨fr', S', h1, h2, h3⟩ := h
          exact ihy iy Q fr' S' a' w' hy h3 h1 h2
        · exact h
        · exact h
  | cond c x y ihx ihy =>
    intro ic Q fr S a w hc hj hf hr
    simp only [cCode] at hc
    cases hx : cCode P nt x with
    | none => simp [hx] at hc
    | some ix =>
      cases hy : cCode P nt y with
      | none => simp [hx, hy] at hc
      | some iy =>
        simp [hx, hy] at hc
        subst hc
        obtain ⟨t, ht, h1, h2⟩ := hj
        exact wp_cond_split (by rw [hf.eval]; exact ht) (fun e => ihx ix Q fr S a w hx (h1 e) hf hr) (fun e => ihy iy Q fr S a w hy (h2 e) hf hr)
  | block id x ih =>
    intro ic Q fr S a w hc hj hf hr
    simp only [cCode, Option.map_eq_some_iff] at hc
    obtain ⟨ix, hx, rfl⟩ := hc
    refine wp_block (wp_mono (ih ix _ fr S a w hx hj hf hr) fun e a' w' h => ?_)
    cases e <;> simp only [liftQ] at h
    · exact h
    · rename_i i
      simp only [inQ] at h
      simp only [Exit.inBlock]
      split
      · rename_i he
        rw [if_pos he] at h
        exact h
      · rename_i he
        rw [if_neg he] at h
        exact h
    · exact h
  | loop x ih =>
    intro ic Q fr S a w hc hj hf hr
    simp only [cCode, Option.map_eq_some_iff] at hc
    obtain ⟨ix, hx, rfl⟩ := hc
    have key := hj (fun fr S => ∀ a w, FRel nt fr a → Rel c0 S w → WL P x (liftQ c0 nt Q) a w) fun fr S h a w hf hr => by
      refine WL.round (wp_mono (ih ix _ fr S a w hx h hf hr) fun e a' w' h => ?_)
      cases e <;> simp only [liftQ] at h
      · obtain ⟨fr', S', h1, h2, h3⟩ := h
        exact h3 a' w' h1 h2
      · exact h
      · exact h
    exact (key a w hf hr).loop
  | rangeFunc f ps x y => intro ic Q fr S a w hc; simp [cCode] at hc
  | exit id => intro ic Q fr S a w hc hj hf hr; simp [cCode] at hc; subst hc; exact wp_exit ⟨fr, S, hf, hr, hj⟩
  | scope x ih =>
    intro ic Q fr S a w hc hj hf hr
    simp only [cCode] at hc
    refine wp_scope_straight (wp_mono (ih ic Q fr S a w hc hj hf hr) fun e a' w' h => ?_)
    cases e <;> first | exact h | exact h.elim
  | goto l => intro ic Q fr S a w hc; simp [cCode] at hc
  | ret => intro ic Q fr S a w hc hj hf hr; simp [cCode] at hc; subst hc; exact wp_ret ⟨fr, S, hf, hr, hj⟩
  | refuse s => intro ic Q fr S a w hc; simp [cCode] at hc

/-! ### results, calls -/
def cRes (P : Program) : List ResultVar → Option (List RO)
  | [] => some []
  | .tmp t :: r => (cRes P r).map (.mv (.tmp t) :: ·)
  | .cell a t :: r => match isAggT P t, P.info? t, cRes P r with
    | some true, some i, some x => some (.ldn i.size (.tmp a) :: x)
    | some false, some _, some x => some (.ld1 (.tmp a) :: x)
    | _, _, _ => none
def evRes (S : St) (fr : Fr) : List RO → Option (List Value)
  | [] => some []
  | r :: rs => match evR S fr r, evRes S fr rs with | some v, some vs => some (v :: vs) | _, _ => none
def packed : List Value → Value
  | [v] => v
  | vs => .tuple vs.toArray
/-- the post of a function's body -/
def retQ (rs : List RO) (Q : Value → St → Prop) : Post
  | .exit _, _, _ => False
  | _, fr, S => ∃ vs, evRes S fr rs = some vs ∧ Q (packed vs) S
def mkFr (args : List Value) : Fr := fun s => args.getD s undef

/-- a function, compiled: how many slots, its code, its results -/
def cFunc (P : Program) (f : FuncId) : Option (Nat × IC × List RO) :=
  match P.funcs[f]? with
  | some fn => match fn.body with
    | some c => match cCode P fn.ntmps c, cRes P fn.results.toList with
      | some ic, some rs => some (fn.ntmps, ic, rs)
      | _, _ => none
    | none => none
  | none => none

def resOne (a : Act) : ResultVar → Sem Value
  | .tmp t => pure (a.tmps.getD t undef)
  | .cell b t => do loadVar t (← asAddr (a.tmps.getD b undef))
theorem run_resTmp {t : Tmp} {v : Value} {a : Act} {w : World} (h : a.tmps.getD t undef = v) : (resOne a (.tmp t)).run P w = .ok v w := by
  simp only [resOne, h]
  rfl

theorem run_res {S : St} {fr : Fr} {a : Act} {w : World} (hf : FRel nt fr a) (hr : Rel c0 S w) : ∀ (rs : List ResultVar) (ros : List RO) (vs : List Value), cRes P rs = some ros → evRes S fr ros = some vs →
    (rs.mapM (resOne a) : Sem (List Value)).run P w = .ok vs w
  | [], ros, vs, hc, hv => by
    simp [cRes] at hc; subst hc
    simp [evRes] at hv; subst hv
    rfl
  | .tmp t :: r, ros, vs, hc, hv => by
    simp only [cRes, Option.map_eq_some_iff] at hc
    obtain ⟨x, hx, rfl⟩ := hc
    simp only [evRes, evR, ev] at hv
    cases hy : evRes S fr x with
    | none => simp [hy] at hv
    | some y =>
      simp [hy] at hv
      subst hv
      have ih := run_res hf hr r x y hx hy
      simp only [List.mapM_cons, Sem.run_bind, run_resTmp (P := P) (w := w) (hf.get t), Result.andThen_ok, ih]
      rfl
  | .cell b t :: r, ros, vs, hc, hv => by
    simp only [cRes] at hc
    have hsp : ∀ {ro : RO} {x : List RO}, cRes P r = some x → ros = ro :: x → cR P (.load t (.tmp b)) = some ro →
        (List.mapM (resOne a) (.cell b t :: r) : Sem (List Value)).run P w = .ok vs w := by
      intro ro x hx he hcl
      subst he
      simp only [evRes] at hv
      cases h1 : evR S fr ro with
      | none => simp [h1] at hv
      | some v =>
        cases hy : evRes S fr x with
        | none => simp [h1, hy] at hv
        | some y =>
          simp [h1, hy] at hv
          subst hv
          have ih := run_res hf hr r x y hx hy
          have hl := sound_load hcl hr h1
          have hg : a.tmps.getD b undef = fr b := hf.get b
          have hb : ∃ ad, fr b = .pointer (some ad) := by
            simp only [cR] at hcl
            cases h2 : isAggT P t with
            | none => simp [h2] at hcl
            | some bb =>
              cases h3 : P.info? t with
              | none => cases bb <;> simp [h2, h3] at hcl
              | some i =>
                cases bb <;> simp [h2, h3] at hcl <;> subst hcl <;> simp only [evR, ev] at h1 <;> split at h1 <;> first | exact ⟨_, by assumption⟩ | simp at h1
          obtain ⟨ad, hb⟩ := hb
          have hl2 : (loadVar t ad).run P w = .ok v w := by
            simpa [Instr.loadAt, Instr.sureAddr, ev, hb] using hl
          have hone : (resOne a (.cell b t)).run P w = .ok v w := by
            simp only [resOne, hg, hb, asAddr]
            exact hl2
          simp only [List.mapM_cons, Sem.run_bind, hone, Result.andThen_ok, ih]
          rfl
    cases h1 : isAggT P t with
    | none => simp [h1] at hc
    | some bb =>
      cases h2 : P.info? t with
      | none => cases bb <;> simp [h1, h2] at hc
      | some i =>
        cases h3 : cRes P r with
        | none => cases bb <;> simp [h1, h2, h3] at hc
        | some x =>
          cases bb <;> simp [h1, h2, h3] at hc
          · exact hsp h3 hc.symm (by simp [cR, h1, h2])
          · exact hsp h3 hc.symm (by simp [cR, h1, h2])

/-- A function, by its compiled code. -/
theorem J_of (hm : P.follows .mixedOrders = true) {f : FuncId} {nt : Nat} {ic : IC} {rs : List RO} (hf : cFunc P f = some (nt, ic, rs)) {args : List Value} {S : St} {Q : Value → St → Prop} (ha : args.length ≤ nt)
    (h : JC P ic (retQ rs Q) (mkFr args) S) : J P f args S Q := by
  intro c0 w hr
  unfold cFunc at hf
  cases hfn : P.funcs[f]? with
  | none => simp [hfn] at hf
  | some fn =>
    simp only [hfn] at hf
    cases hb : fn.body with
    | none => simp [hb] at hf
    | some c =>
      simp only [hb] at hf
      cases hc : cCode P fn.ntmps c with
      | none => simp [hc] at hf
      | some ic' =>
        cases hrs : cRes P fn.results.toList with
        | none => simp [hc, hrs] at hf
        | some rs' =>
          simp [hc, hrs] at hf
          obtain ⟨rfl, rfl, rfl⟩ := hf
          have hfr : FRel fn.ntmps (mkFr args) { tmps := args.toArray ++ Array.replicate (fn.ntmps - args.toArray.size) undef, defers := [] } := by
            refine ⟨rfl, by simp; omega, fun s => ?_⟩
            simp only [mkFr, Array.getD_eq_getD_getElem?, Array.getElem?_append, List.getElem?_toArray, List.size_toArray, List.getD_eq_getElem?_getD]
            split
            · rfl
            · rename_i hs
              rw [List.getElem?_eq_none (by omega), Array.getElem?_replicate]
              split <;> rfl
          refine calls_of_wp hfn hb (wp_mono (sound_C hm c ic' _ _ S _ w hc h hfr hr) fun e a' w' hq => ?_)
          have hfin : ∀ {fr' S'}, FRel fn.ntmps fr' a' → Rel c0 S' w' → (∃ vs, evRes S' fr' rs' = some vs ∧ Q (packed vs) S') → a'.defers = [] ∧ ∃ v, (results fn a'.tmps).run P w' = .ok v w' ∧ ∃ v' S', Ending.returned v = .returned v' ∧ Rel c0 S' w' ∧ Q v' S' := by
            intro fr' S' hf' hr' ⟨vs, hv, hq⟩
            have hrun := run_res (P := P) hf' hr' _ _ _ hrs hv
            refine ⟨hf'.defers, packed vs, ?_, packed vs, S', rfl, hr', hq⟩
            have hres : results fn a'.tmps = (do
                let vs ← fn.results.mapM (resOne a')
                pure (if h : vs.size = 1 then vs[0] else .tuple vs)) := by
              unfold results
              congr 1
            rw [hres, Array.mapM_eq_mapM_toList]
            simp only [Sem.run_bind, Sem.run_map, hrun, Result.andThen_ok]
            simp only [Sem.run_pure]
            congr 1
            match vs with
            | [] => rfl
            | [v] => rfl
            | v :: u :: r => simp [packed]
          cases e <;> simp only [liftQ] at hq
          · obtain ⟨fr', S', h1, h2, h3⟩ := hq
            exact hfin h1 h2 h3
          · obtain ⟨fr', S', h1, h2, h3⟩ := hq
            exact h3.elim
          · obtain ⟨fr', S', h1, h2, h3⟩ := hq
            exact hfin h1 h2 h3

/-! ### what follows from more -/
theorem JE_mono {fr : Fr} {S : St} {K K' : Value → St → Prop} (hk : ∀ v S', K v S' → K' v S') : ∀ {eo : EO}, JE P fr S K eo → JE P fr S K' eo := by
  intro eo h
  cases eo with
  | box x => exact fun b hb => hk _ _ (h b hb)
  | alloc z => exact fun b hb => hk _ _ (h b hb)
  | bsl len z ps => obtain ⟨cs, h1, h2⟩ := h; exact ⟨cs, h1, fun b hb => hk _ _ (h2 b hb)⟩
  | st n x v =>
    simp only [JE] at h ⊢
    split at h
    · obtain ⟨h1, h2, S', h3, h4⟩ := h; exact ⟨h1, h2, S', h3, hk _ _ h4⟩
    · exact h.elim
  | app esz bytes s x =>
    simp only [JE] at h ⊢
    split at h
    · obtain ⟨m, news, h1, h2, h3⟩ := h
      refine ⟨m, news, h1, fun hle => ?_, fun hlt => ?_⟩
      · have := h2 hle
        split at this
        · exact hk _ _ this
        · split at this
          · rename_i h0
            simp only [h0, if_true]
            exact hk _ _ this
          · rename_i h0
            obtain ⟨g1, g2, S', g3, g4⟩ := this
            simp only [h0, if_false]
            exact ⟨g1, g2, S', g3, hk _ _ g4⟩
      · obtain ⟨olds, g1, g2, g3, g4⟩ := h3 hlt
        exact ⟨olds, g1, g2, g3, fun b c hb hc => hk _ _ (g4 b c hb hc)⟩
    · exact h.elim
  | appZ esz bytes z s x =>
    simp only [JE] at h ⊢
    split at h
    · obtain ⟨h1, h2, h2', h3, h4⟩ := h
      refine ⟨h1, h2, h2', fun hle => ?_, fun hlt => ?_⟩
      · have := h3 hle
        split at this
        · exact hk _ _ this
        · split at this
          · rename_i h0
            simp only [h0, if_true]
            exact hk _ _ this
          · rename_i h0
            obtain ⟨g1, g2, S', g3, g4⟩ := this
            simp only [h0, if_false]
            exact ⟨g1, g2, S', g3, hk _ _ g4⟩
      · obtain ⟨olds, g1, g2, g3, g3', g4⟩ := h4 hlt
        exact ⟨olds, g1, g2, g3, g3', fun b c hb hc => hk _ _ (g4 b c hb hc)⟩
    · exact h.elim
  | cp esz d s =>
    simp only [JE] at h ⊢
    split at h
    · obtain ⟨news, h1, h2⟩ := h
      refine ⟨news, h1, ?_⟩
      split at h2
      · exact hk _ _ h2
      · split at h2
        · rename_i h0
          simp only [h0, if_true]
          exact hk _ _ h2
        · rename_i h0
          obtain ⟨g1, S', g3, g4⟩ := h2
          simp only [h0, if_false]
          exact ⟨g1, S', g3, hk _ _ g4⟩
    · exact h.elim
  | clr esz z s =>
    simp only [JE] at h ⊢
    split at h
    · split at h
      · exact hk _ _ h
      · split at h
        · rename_i h0
          simp only [h0, if_true]
          exact hk _ _ h
        · rename_i h0
          obtain ⟨g1, S', g3, g4⟩ := h
          simp only [h0, if_false]
          exact ⟨g1, S', g3, hk _ _ g4⟩
    · exact h.elim
  | mkMap => exact fun b hb => hk _ _ (h b hb)
  | mkSl esz bytes z l c =>
    simp only [JE] at h ⊢
    split at h
    · obtain ⟨h1, h2, h3, h4, h5⟩ := h; exact ⟨h1, h2, h3, h4, fun b hb => hk _ _ (h5 b hb)⟩
    · exact h.elim
  | mset ks agg m k v =>
    simp only [JE] at h ⊢
    split at h
    · split at h
      · obtain ⟨h1, r, h2, h3⟩ := h
        refine ⟨h1, r, h2, ?_⟩
        split at h3 <;> exact hk _ _ h3
      · exact h.elim
    · exact h.elim
  | mdel ks agg m k =>
    simp only [JE] at h ⊢
    split at h
    · exact ⟨h.1, hk _ _ h.2⟩
    · split at h
      · obtain ⟨h1, r, h2, h3⟩ := h
        refine ⟨h1, r, h2, ?_⟩
        split at h3 <;> exact hk _ _ h3
      · exact h.elim
    · exact h.elim
  | rng str x =>
    simp only [JE] at h ⊢
    split at h
    · exact fun b hb => hk _ _ (h b hb)
    · exact fun b hb => hk _ _ (h b hb)
    · split at h
      · exact fun b hb => hk _ _ (h b hb)
      · exact h.elim
    · exact h.elim
  | nxt str it =>
    simp only [JE] at h ⊢
    split at h
    · split at h
      · split at h
        · rename_i hlt
          simp only [hlt, if_true]
          exact hk _ _ h
        · rename_i hlt
          simp only [hlt, if_false]
          exact hk _ _ h
      · exact hk _ _ h
      · split at h
        · exact ⟨h.1, fun hx => hk _ _ (h.2.1 hx), fun e he => hk _ _ (h.2.2 e he)⟩
        · exact h.elim
      · exact h.elim
    · exact h.elim
  | ent it =>
    simp only [JE] at h ⊢
    split at h
    · split at h
      · split at h
        · obtain ⟨s, e, h1, h2, h3, h4⟩ := h; exact ⟨s, e, h1, h2, h3, hk _ _ h4⟩
        · exact h.elim
      · exact h.elim
    · exact h.elim
  | call f args => exact J.mono h hk
  | callv f args =>
    simp only [JE] at h ⊢
    split at h
    · exact ⟨h.1, J.mono h.2 hk⟩
    · exact h.elim
  | pan => exact h.elim

theorem JI_mono {K K' : Fr → St → Prop} (hk : ∀ fr S, K fr S → K' fr S) : ∀ {p : Plan} {fr : Fr} {S : St} {kept : Kept}, JI P K p fr S kept → JI P K' p fr S kept := by
  intro p
  induction p with
  | done => intro fr S kept h; exact hk _ _ h
  | none => intro fr S kept h; trivial
  | rd i g ro dst keep rest ih =>
    intro fr S kept h
    exact ⟨fun hw => let ⟨v, h1, h2⟩ := h.1 hw; ⟨v, h1, ih h2⟩, fun hw => ih (h.2 hw)⟩
  | ef i g eo dst keep rest other ih1 ih2 =>
    intro fr S kept h
    exact ⟨⟨fun hw => JE_mono (fun v S' hx => ⟨hx.1, ih1 hx.2⟩) (h.1.1 hw), fun hw => ih1 (h.1.2 hw)⟩, ih2 h.2⟩

theorem JC_mono : ∀ {c : IC} {Q Q' : Post} {fr : Fr} {S : St}, (∀ e fr S, Q e fr S → Q' e fr S) → JC P c Q fr S → JC P c Q' fr S := by
  intro c
  induction c with
  | skip => intro Q Q' fr S hq h; exact hq _ _ _ h
  | reg p => intro Q Q' fr S hq h; exact JI_mono (fun fr S => hq _ fr S) h
  | seq a b iha ihb =>
    intro Q Q' fr S hq h
    refine iha (fun e fr S hx => ?_) h
    cases e
    · exact ihb hq hx
    · exact hq _ _ _ hx
    · exact hq _ _ _ hx
  | cond c a b iha ihb =>
    intro Q Q' fr S hq h
    obtain ⟨t, h1, h2, h3⟩ := h
    exact ⟨t, h1, fun e => iha hq (h2 e), fun e => ihb hq (h3 e)⟩
  | block id a ih =>
    intro Q Q' fr S hq h
    refine ih (fun e fr S hx => ?_) h
    cases e
    · exact hq _ _ _ hx
    · simp only [inQ] at hx ⊢
      split
      · rename_i he; rw [if_pos he] at hx; exact hq _ _ _ hx
      · rename_i he; rw [if_neg he] at hx; exact hq _ _ _ hx
    · exact hq _ _ _ hx
  | loop a ih =>
    intro Q Q' fr S hq h I hI
    refine h I fun fr S hx => hI fr S (ih (fun e fr S hy => ?_) hx)
    cases e
    · exact hy
    · exact hq _ _ _ hy
    · exact hq _ _ _ hy
  | exit id => intro Q Q' fr S hq h; exact hq _ _ _ h
  | ret => intro Q Q' fr S hq h; exact hq _ _ _ h

/-- A loop, unrolled once. -/
theorem JC_unroll {a : IC} {Q : Post} {fr : Fr} {S : St} (h : JC P a (thenQ (JC P (.loop a) Q) Q) fr S) : JC P (.loop a) Q fr S := by
  intro I hI
  refine hI fr S (JC_mono (fun e fr S hx => ?_) h)
  cases e
  · exact hx I hI
  · exact hx
  · exact hx

/-- A loop, by an invariant that bears a measure. -/
theorem JC_loop {a : IC} {Q : Post} (I : Nat → Fr → St → Prop) (h : ∀ n fr S, I n fr S → JC P a (thenQ (fun fr S => ∃ m, m < n ∧ I m fr S) Q) fr S) : ∀ n fr S, I n fr S → JC P (.loop a) Q fr S := by
  intro n
  induction n using Nat.strongRecOn with
  | _ n ih =>
    intro fr S hi
    refine JC_unroll (JC_mono (fun e fr S hx => ?_) (h n fr S hi))
    cases e
    · obtain ⟨m, hm, hx⟩ := hx
      exact ih m hm fr S hx
    · exact hx
    · exact hx
end
end Go.Osj
