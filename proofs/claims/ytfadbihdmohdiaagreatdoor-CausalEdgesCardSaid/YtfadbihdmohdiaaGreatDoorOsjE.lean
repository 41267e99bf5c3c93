/- Operations that only read: the one theorem. -/
import Derived.Test.YtfadbihdmohdiaaGreatDoorOsjD
namespace Go.Osj
open Go.RowKit
section
variable {P : Program} {c0 w : World} {S : St} {fr : Fr}

theorem v_run {s : Sem Value} {v : Value} (h : s.run P w = .ok v w) : (do pure (Next.value (← s)) : Sem Next).run P w = .ok (.value v) w := by
  simp [h]

def NK.fits (k : NK) : TypeDesc → Bool
  | .pointer _ => k == .ptr
  | .slice _ => k == .sl
  | .map _ _ => k == .mp
  | .func _ _ _ => k == .fn
  | .string => k == .str
  | _ => false
theorem run_eqN' (D : Nat) {t : TypeId} {d : TypeDesc} {x y : Value} {b : Bool} {k : NK} (hu : P.underlying t = some d) (hd : k.fits d = true) (h : eqN k x y = some b) (w : World) : (Op.equalIn (D + 1) t x y).run P w = .ok b w := by
  cases d <;> simp [NK.fits] at hd <;> subst hd
  case pointer e =>
    cases x <;> cases y <;> simp only [eqN] at h <;> try (simp at h; done)
    rename_i a b'
    cases a <;> cases b' <;> simp at h <;> subst h <;> simp [Op.equalIn, run_underlying hu]
  case slice e =>
    cases x <;> cases y <;> simp only [eqN] at h <;> try (simp at h; done)
    rename_i a _ _ b' _ _
    cases a <;> cases b' <;> simp at h <;> subst h <;> simp [Op.equalIn, run_underlying hu]
  case map k e =>
    cases x <;> cases y <;> simp only [eqN] at h <;> try (simp at h; done)
    rename_i a b'
    cases a <;> cases b' <;> simp at h <;> subst h <;> simp [Op.equalIn, run_underlying hu]
  case func ps rs vv =>
    cases x <;> cases y <;> simp only [eqN] at h <;> try (simp at h; done)
    all_goals (simp at h; subst h; simp [Op.equalIn, run_underlying hu])
  case string => cases x <;> cases y <;> simp [eqN] at h

theorem run_eqN {t : TypeId} {d : TypeDesc} {x y : Value} {b : Bool} {k : NK} (hu : P.underlying t = some d) (hd : k.fits d = true) (h : eqN k x y = some b) (w : World) : (Op.equal t x y).run P w = .ok b w :=
  run_eqN' 9999 hu hd h w

theorem run_nilOp {t : TypeId} {d : TypeDesc} {x y : Value} {b : Bool} {k : NK} (hu : P.underlying t = some d) (hd : k.fits d = true) (h : eqN k x y = some b) (neq : Bool) (ox oy : Operand) (w : World) :
    ((do eqGuard (if neq then .neq else .eql) t ox oy x y; binOp (if neq then .neq else .eql) t x y) : Sem Value).run P w = .ok (.bool (if neq then !b else b)) w := by
  have hq := run_eqN hu hd h w
  have hg : (eqGuard (if neq then .neq else .eql) t ox oy x y).run P w = .ok () w := by
    cases k <;> cases x <;> cases y <;> simp only [eqN] at h <;> try (simp at h; done)
    all_goals (cases neq <;> simp [eqGuard])
  simp only [Sem.run_bind, hg, Result.andThen_ok]
  cases k <;> cases x <;> cases y <;> simp only [eqN] at h <;> try (simp at h; done)
  all_goals (cases neq <;> simp [binOp, hq])

theorem bnd_run {y d : Nat} {x : Operand} {r : Nat} (code : BoundsCode) (h : bnd fr y d (some x) = some r) : (Instr.sliceBound (ev fr x) y code).run P w = .ok r w := by
  simp only [bnd] at h
  cases hx : ev fr x <;> simp only [hx] at h <;> try (simp at h; done)
  rename_i k n
  split at h
  · rename_i hb
    injection h with h; subst h
    exact run_sliceBound w k n y code hb.1 hb.2
  · simp at h

theorem bndV_run {y d : Nat} {x : Value} {r : Nat} (code : BoundsCode) (h : bndV y d (some x) = some r) : (Instr.sliceBound x y code).run P w = .ok r w := by
  cases x <;> simp only [bndV] at h <;> try (simp at h; done)
  rename_i k n
  split at h
  · rename_i hb
    injection h with h; subst h
    exact run_sliceBound w k n y code hb.1 hb.2
  · simp at h

theorem Rel.map {b : Nat} {rw : Bool} {ms : List MapEntry} {clock : Nat} (h : Rel c0 S w) (ho : S.obj b = some (.map rw ms clock)) : w.heap[b]? = some (.map ms.toArray clock) ∧ (rw = true → c0.heap.size ≤ b) := (h.obj _ _ ho).2

theorem run_getObj_map {b : Nat} {ms : Array MapEntry} {clock : Nat} (h : w.heap[b]? = some (.map ms clock)) : (getObj b).run P w = .ok (.map ms clock) w := by
  simp [getObj, Sem.run, h]

theorem sound_len {t ty : TypeId} {d : TypeDesc} {k : NK} {x : Operand} {v : Value} (h : Rel c0 S w) (hu : P.underlying t = some d) (hd : k.fits d = true)
    (hv : evR S fr (.len k x) = some v) : (Builtin.len_ #[t] ty #[ev fr x]).run P w = .ok v w := by
  simp only [evR] at hv
  cases d <;> simp [NK.fits] at hd <;> subst hd
  case string => cases hx : ev fr x <;> simp [hx] at hv; subst hv; simp [Builtin.len_, run_underlying hu, goInt]
  case slice e => cases hx : ev fr x <;> simp [hx] at hv; subst hv; simp [Builtin.len_, run_underlying hu, goInt]
  case pointer e => simp at hv
  case func => simp at hv
  case map kt e =>
    cases hx : ev fr x <;> simp only [hx] at hv <;> try (simp at hv; done)
    rename_i m
    cases m with
    | none => simp at hv; subst hv; simp [Builtin.len_, run_underlying hu, goInt]
    | some b =>
      simp only at hv
      cases ho : S.obj b with
      | none => simp [ho] at hv
      | some o =>
        cases o <;> simp only [ho] at hv <;> try (simp at hv; done)
        rename_i rw ms clock
        injection hv with hv; subst hv
        obtain ⟨hw, _⟩ := h.map ho
        simp [Builtin.len_, run_underlying hu, run_getObj_map hw, goInt]
end
end Go.Osj
