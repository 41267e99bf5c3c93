/- Regions: a plan in one order, and that it serves every order that the region may be drawn in. -/
import Derived.Test.YtfadbihdmohdiaaGreatDoorOsjJ
namespace Go.Osj
open Go.RowKit

/-- a guard: a slot, and what it must hold -/
abbrev Gd := Option (Nat × Bool)
def wantF (fr : Fr) : Gd → Bool
  | none => true
  | some (t, b) => match fr t with | .bool c => c == b | _ => false

inductive Plan where
  | done
  | none
  | rd (i : Nat) (g : Gd) (ro : RO) (dst : Option Nat) (keep : Bool) (rest : Plan)
  | ef (i : Nat) (g : Gd) (eo : EO) (dst : Option Nat) (keep : List Nat) (rest other : Plan)

abbrev Kept := List (Nat × (St → Prop))
def keepOf (ks : List Nat) (kept : Kept) : Kept := kept.filter fun q => ks.contains q.1

def JI (P : Program) (K : Fr → St → Prop) : Plan → Fr → St → Kept → Prop
  | .done, fr, S, _ => K fr S
  | .none, _, _, _ => True
  | .rd i g ro dst keep rest, fr, S, kept =>
    (wantF fr g = true → ∃ v, evR S fr ro = some v ∧ JI P K rest (fr.putO dst v) S (if keep then (i, fun S' => evR S' fr ro = some v) :: kept else kept)) ∧
    (wantF fr g = false → JI P K rest (fr.putO dst undef) S kept)
  | .ef _ g eo dst keep rest other, fr, S, kept =>
    ((wantF fr g = true → JE P fr S (fun v S' => (∀ q ∈ keepOf keep kept, q.2 S') ∧ JI P K rest (fr.putO dst v) S' (keepOf keep kept)) eo) ∧
     (wantF fr g = false → JI P K rest (fr.putO dst undef) S kept)) ∧ JI P K other fr S kept

def gdOf (ops : Array Oper) (o : Oper) : Option Gd :=
  match o.guard with
  | none => some none
  | some (j, b) => match (ops[j]?).bind (·.dst) with | some t => some (some (t, b)) | none => none
def dstOk (nt : Nat) (o : Oper) : Bool := match o.dst with | some d => decide (d < nt) | none => true

/-- the plan in the text's order -/
def textPlan (P : Program) (nt : Nat) (ops : Array Oper) : List Nat → Option Plan
  | [] => some .done
  | i :: is =>
    match ops[i]? with
    | none => none
    | some o =>
      match gdOf ops o, textPlan P nt ops is with
      | some g, some rest =>
        if dstOk nt o then
          match cR P o.op with
          | some ro => some (.rd i g ro o.dst false rest)
          | none => match cE P o.op with
            | some eo => some (.ef i g eo o.dst [] rest .none)
            | none => none
        else none
      | _, _ => none

section
variable {P : Program} {c0 : World} {nt : Nat} {ops : Array Oper} {Q : Exit → Act → World → Prop} {K : Fr → St → Prop}

theorem wanted_eq {o : Oper} {g : Gd} {fr : Fr} {a : Act} (hg : gdOf ops o = some g) (h : FRel nt fr a) : Region.wanted o (yielded ops a.tmps) = wantF fr g := by
  unfold gdOf at hg
  unfold Region.wanted
  cases hgu : o.guard with
  | none => simp [hgu] at hg; subst hg; rfl
  | some jb =>
    obtain ⟨j, b⟩ := jb
    simp only [hgu] at hg
    cases hd : (ops[j]?).bind (·.dst) with
    | none => simp [hd] at hg
    | some t =>
      simp only [hd] at hg
      injection hg with hg
      subst hg
      have ht := h.get t
      simp only [yielded, hd, wantF]
      rw [← ht]
      simp only [Array.getD_eq_getD_getElem?]
      cases hx : a.tmps[t]? with
      | none => simp [hx, undef]
      | some v => cases v <;> simp [hx]

theorem dst_lt {o : Oper} (h : dstOk nt o = true) : ∀ x, o.dst = some x → x < nt := by
  intro x hx
  simpa [dstOk, hx] using h

theorem text_sound (hQ : ∀ a w fr S, FRel nt fr a → Rel c0 S w → K fr S → Q .normal a w) : ∀ (is : List Nat) (plan : Plan) (fr : Fr) (S : St) (kept : Kept) (a : Act) (w : World),
    textPlan P nt ops is = some plan → JI P K plan fr S kept → FRel nt fr a → Rel c0 S w → wpOps P ops Q is a w
  | [], plan, fr, S, kept, a, w, hp, hj, hf, hr => by
    simp [textPlan] at hp
    subst hp
    exact hQ _ _ _ _ hf hr hj
  | i :: is, plan, fr, S, kept, a, w, hp, hj, hf, hr => by
    simp only [textPlan] at hp
    rw [wpOps_cons]
    unfold wpOp
    cases ho : ops[i]? with
    | none => simp [ho] at hp
    | some o =>
      simp only [ho] at hp
      cases hg : gdOf ops o with
      | none => simp [hg] at hp
      | some g =>
        cases hr' : textPlan P nt ops is with
        | none => simp [hg, hr'] at hp
        | some rest =>
          simp only [hg, hr'] at hp
          split at hp
          · rename_i hd
            simp only [wanted_eq hg hf]
            cases hc : cR P o.op with
            | some ro =>
              simp only [hc] at hp
              injection hp with hp
              subst hp
              obtain ⟨h1, h2⟩ := hj
              split
              · rename_i hw
                obtain ⟨v, hv, hj⟩ := h1 hw
                refine .inl ?_
                unfold Oper.wp
                rw [hf.eval, sound_R hc hr hv]
                exact text_sound hQ is rest _ S _ _ _ hr' hj (hf.put _ (dst_lt hd) _) hr
              · rename_i hw
                exact text_sound hQ is rest _ S _ _ _ hr' (h2 (by simpa using hw)) (hf.put _ (dst_lt hd) _) hr
            | none =>
              simp only [hc] at hp
              cases he : cE P o.op with
              | none => simp [he] at hp
              | some eo =>
                simp only [he] at hp
                injection hp with hp
                subst hp
                obtain ⟨⟨h1, h2⟩, -⟩ := hj
                split
                · rename_i hw
                  refine .inl ?_
                  unfold Oper.wp
                  rw [hf.eval]
                  refine (sound_E he hr (h1 hw)).upon fun v S' w' hr2 hk => ?_
                  exact text_sound hQ is rest _ S' _ _ _ hr' hk.2 (hf.put _ (dst_lt hd) _) hr2
                · rename_i hw
                  exact text_sound hQ is rest _ S _ _ _ hr' (h2 (by simpa using hw)) (hf.put _ (dst_lt hd) _) hr
          · simp at hp
end
end Go.Osj
