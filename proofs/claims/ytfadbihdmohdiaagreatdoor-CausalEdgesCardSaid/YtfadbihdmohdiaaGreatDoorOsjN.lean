/- Words for walking compiled code by rewriting: what is still to come is kept in instance arguments, which rewriting does not enter. -/
import Derived.Test.YtfadbihdmohdiaaGreatDoorOsjM
namespace Go.Osj
open Go.RowKit

/-! ### what is to come -/
class KA (α : Type) where
  run : α → Prop
class KP where
  run : Prop
class KP2 where
  run : Prop
class KF where
  run : Fr → St → Prop
class KV where
  run : Value → St → Prop
class KX where
  run : Post
@[go_sem] theorem KA.run_mk {α : Type} (f : α → Prop) (a : α) : (KA.mk f).run a = f a := rfl
@[go_sem] theorem KP.run_mk (p : Prop) : (KP.mk p).run = p := rfl
@[go_sem] theorem KP2.run_mk (p : Prop) : (KP2.mk p).run = p := rfl
@[go_sem] theorem KF.run_mk (f : Fr → St → Prop) (fr : Fr) (S : St) : (KF.mk f).run fr S = f fr S := rfl
@[go_sem] theorem KV.run_mk (f : Value → St → Prop) (v : Value) (S : St) : (KV.mk f).run v S = f v S := rfl
@[go_sem] theorem KX.run_mk (f : Post) (e : XE) (fr : Fr) (S : St) : (KX.mk f).run e fr S = f e fr S := rfl

def wbind {α : Type} (o : Option α) [k : KA α] : Prop := ∃ v, o = some v ∧ k.run v
def wguard (c : Bool) [a : KP] [b : KP2] : Prop := (c = true → a.run) ∧ (c = false → b.run)
def wcond (c : Value) [a : KP] [b : KP2] : Prop := ∃ t, c = .bool t ∧ (t = true → a.run) ∧ (t = false → b.run)
def wfresh (n : Nat) [k : KA Nat] : Prop := ∀ b, n ≤ b → k.run b
def wI (P : Program) (p : Plan) (fr : Fr) (S : St) (kept : Kept) [k : KF] : Prop := JI P k.run p fr S kept
def wE (P : Program) (eo : EO) (fr : Fr) (S : St) [k : KV] : Prop := JE P fr S k.run eo
def wC (P : Program) (c : IC) (fr : Fr) (S : St) [q : KX] : Prop := JC P c q.run fr S
def wJ (P : Program) (f : FuncId) (args : List Value) (S : St) [k : KV] : Prop := J P f args S k.run

section
variable {α : Type}
@[go_sem] theorem wbind_some (v : α) [k : KA α] : wbind (some v) = k.run v := by simp [wbind]
@[go_sem] theorem wbind_none [k : KA α] : wbind (none : Option α) = False := by simp [wbind]
@[go_sem] theorem wbind_map {β : Type} (o : Option α) (f : α → β) [k : KA β] : wbind (o.map f) = @wbind α o ⟨fun v => k.run (f v)⟩ := by cases o <;> simp [wbind]
@[go_sem] theorem wbind_bind {β : Type} (o : Option α) (f : α → Option β) [k : KA β] : wbind (o.bind f) = @wbind α o ⟨fun v => wbind (f v)⟩ := by cases o <;> simp [wbind]
theorem wbind_of {o : Option α} {k : KA α} (v : α) (h : o = some v) (hk : k.run v) : @wbind α o k := ⟨v, h, hk⟩
@[go_sem] theorem wguard_true [a : KP] [b : KP2] : wguard true = a.run := by simp [wguard]
@[go_sem] theorem wguard_false [a : KP] [b : KP2] : wguard false = b.run := by simp [wguard]
theorem wguard_of {c : Bool} {a : KP} {b : KP2} (h1 : c = true → a.run) (h2 : c = false → b.run) : @wguard c a b := ⟨h1, h2⟩
@[go_sem] theorem wcond_true [a : KP] [b : KP2] : wcond (.bool true) = a.run := by simp [wcond]
@[go_sem] theorem wcond_false [a : KP] [b : KP2] : wcond (.bool false) = b.run := by simp [wcond]
theorem wcond_of {t : Bool} {a : KP} {b : KP2} (h1 : t = true → a.run) (h2 : t = false → b.run) : @wcond (.bool t) a b := ⟨t, rfl, h1, h2⟩
theorem wcond_dec {p : Prop} {_ : Decidable p} {a : KP} {b : KP2} (h1 : p → a.run) (h2 : ¬ p → b.run) : @wcond (.bool (decide p)) a b := ⟨_, rfl, fun h => h1 (of_decide_eq_true h), fun h => h2 (of_decide_eq_false h)⟩
theorem wcond_ndec {p : Prop} {_ : Decidable p} {a : KP} {b : KP2} (h1 : ¬ p → a.run) (h2 : p → b.run) : @wcond (.bool (!decide p)) a b :=
  ⟨_, rfl, fun h => h1 (of_decide_eq_false (by simpa using h)), fun h => h2 (of_decide_eq_true (by simpa using h))⟩
theorem wguard_dec {p : Prop} {_ : Decidable p} {a : KP} {b : KP2} (h1 : p → a.run) (h2 : ¬ p → b.run) : @wguard (decide p) a b := ⟨fun h => h1 (of_decide_eq_true h), fun h => h2 (of_decide_eq_false h)⟩
theorem wguard_ndec {p : Prop} {_ : Decidable p} {a : KP} {b : KP2} (h1 : ¬ p → a.run) (h2 : p → b.run) : @wguard (!decide p) a b :=
  ⟨fun h => h1 (of_decide_eq_false (by simpa using h)), fun h => h2 (of_decide_eq_true (by simpa using h))⟩
theorem wfresh_of {n : Nat} {k : KA Nat} (h : ∀ b, n ≤ b → k.run b) : @wfresh n k := h
theorem wJ_of {P : Program} {f : FuncId} {args : List Value} {S : St} {Q : Value → St → Prop} {k : KV} (h : J P f args S Q) (hk : ∀ v S', Q v S' → k.run v S') : @wJ P f args S k := h.mono hk
theorem wJ_iff {P : Program} {f : FuncId} {args : List Value} {S : St} {Q : Value → St → Prop} : J P f args S Q = @wJ P f args S ⟨Q⟩ := rfl
end

section
variable {P : Program} {fr : Fr} {S : St} {kept : Kept}
@[go_sem] theorem wI_done [k : KF] : wI P .done fr S kept = k.run fr S := rfl
@[go_sem] theorem wI_rd {i : Nat} {ro : RO} {dst : Option Nat} {rest : Plan} [k : KF] : wI P (.rd i none ro dst false rest) fr S kept = @wbind _ (evR S fr ro) ⟨fun v => wI P rest (fr.putO dst v) S kept⟩ := by
  simp [wI, JI, wantF, wbind]
@[go_sem] theorem wI_rdk {i : Nat} {ro : RO} {dst : Option Nat} {rest : Plan} [k : KF] :
    wI P (.rd i none ro dst true rest) fr S kept = @wbind _ (evR S fr ro) ⟨fun v => wI P rest (fr.putO dst v) S ((i, fun S' => evR S' fr ro = some v) :: kept)⟩ := by
  simp [wI, JI, wantF, wbind]
@[go_sem] theorem wI_rdg {i : Nat} {t : Nat} {b : Bool} {ro : RO} {dst : Option Nat} {rest : Plan} [k : KF] : wI P (.rd i (some (t, b)) ro dst false rest) fr S kept =
    @wguard (wantF fr (some (t, b))) ⟨@wbind _ (evR S fr ro) ⟨fun v => wI P rest (fr.putO dst v) S kept⟩⟩ ⟨wI P rest (fr.putO dst undef) S kept⟩ := by
  simp [wI, JI, wguard, wbind]
@[go_sem] theorem wI_rdgk {i : Nat} {t : Nat} {b : Bool} {ro : RO} {dst : Option Nat} {rest : Plan} [k : KF] : wI P (.rd i (some (t, b)) ro dst true rest) fr S kept =
    @wguard (wantF fr (some (t, b))) ⟨@wbind _ (evR S fr ro) ⟨fun v => wI P rest (fr.putO dst v) S ((i, fun S' => evR S' fr ro = some v) :: kept)⟩⟩ ⟨wI P rest (fr.putO dst undef) S kept⟩ := by
  simp [wI, JI, wguard, wbind]
@[go_sem] theorem wI_ef0 {i : Nat} {eo : EO} {dst : Option Nat} {ks : List Nat} {rest : Plan} [k : KF] : wI P (.ef i none eo dst ks rest .none) fr S [] = @wE P eo fr S ⟨fun v S' => wI P rest (fr.putO dst v) S' []⟩ := by
  simp [wI, wE, JI, wantF, keepOf]
@[go_sem] theorem wI_ef {i : Nat} {eo : EO} {dst : Option Nat} {ks : List Nat} {rest : Plan} {q : Nat × (St → Prop)} [k : KF] : wI P (.ef i none eo dst ks rest .none) fr S (q :: kept) =
    @wE P eo fr S ⟨fun v S' => (∀ p ∈ keepOf ks (q :: kept), p.2 S') ∧ wI P rest (fr.putO dst v) S' (keepOf ks (q :: kept))⟩ := by
  simp [wI, wE, JI, wantF]
@[go_sem] theorem wI_efg0 {i : Nat} {t : Nat} {b : Bool} {eo : EO} {dst : Option Nat} {ks : List Nat} {rest : Plan} [k : KF] : wI P (.ef i (some (t, b)) eo dst ks rest .none) fr S [] =
    @wguard (wantF fr (some (t, b))) ⟨@wE P eo fr S ⟨fun v S' => wI P rest (fr.putO dst v) S' []⟩⟩ ⟨wI P rest (fr.putO dst undef) S []⟩ := by
  simp [wI, wE, JI, keepOf, wguard]
@[go_sem] theorem wI_efg {i : Nat} {t : Nat} {b : Bool} {eo : EO} {dst : Option Nat} {ks : List Nat} {rest : Plan} {q : Nat × (St → Prop)} [k : KF] : wI P (.ef i (some (t, b)) eo dst ks rest .none) fr S (q :: kept) =
    @wguard (wantF fr (some (t, b))) ⟨@wE P eo fr S ⟨fun v S' => (∀ p ∈ keepOf ks (q :: kept), p.2 S') ∧ wI P rest (fr.putO dst v) S' (keepOf ks (q :: kept))⟩⟩ ⟨wI P rest (fr.putO dst undef) S (q :: kept)⟩ := by
  simp [wI, wE, JI, wguard]
@[go_sem] theorem keepOf_nil (ks : List Nat) : keepOf ks [] = [] := rfl
@[go_sem] theorem keepOf_cons (ks : List Nat) (q : Nat × (St → Prop)) (kept : Kept) : keepOf ks (q :: kept) = if ks.contains q.1 then q :: keepOf ks kept else keepOf ks kept := by simp only [keepOf, List.filter_cons]
@[go_sem] theorem keepOf_none (kept : Kept) : keepOf [] kept = [] := by simp [keepOf]

@[go_sem] theorem wE_box {x : Operand} [k : KV] : wE P (.box x) fr S = @wfresh S.n ⟨fun b => k.run (.pointer (some ⟨b, 0, none⟩)) (S.put b (.cells true (ev fr x).cells.toList.length (ev fr x).cells.toList))⟩ := rfl
@[go_sem] theorem wE_alloc {z : List Value} [k : KV] : wE P (.alloc z) fr S = @wfresh S.n ⟨fun b => k.run (.pointer (some ⟨b, 0, none⟩)) (S.put b (.cells true z.length z))⟩ := rfl
@[go_sem] theorem wE_bsl {len : Nat} {z : List Value} {ps : List (Nat × Nat × Operand)} [k : KV] : wE P (.bsl len z ps) fr S =
    @wbind _ (fillC z (ps.map fun p => (p.1, p.2.1, ev fr p.2.2))) ⟨fun cs => @wfresh S.n ⟨fun b => k.run (.slice (some ⟨b, 0, none⟩) len len) (S.put b (.cells true cs.length cs))⟩⟩ := rfl
@[go_sem] theorem wE_call {f : FuncId} {args : List Operand} [k : KV] : wE P (.call f args) fr S = wJ P f (args.map (ev fr)) S := rfl
@[go_sem] theorem wE_mkMap [k : KV] : wE P .mkMap fr S = @wfresh S.n ⟨fun b => k.run (.map (some b)) (S.put b (.map true [] 0))⟩ := rfl

@[go_sem] theorem wC_skip [q : KX] : wC P .skip fr S = q.run .normal fr S := rfl
@[go_sem] theorem wC_reg {p : Plan} [q : KX] : wC P (.reg p) fr S = @wI P p fr S [] ⟨q.run .normal⟩ := rfl
@[go_sem] theorem wC_seq {a b : IC} [q : KX] : wC P (.seq a b) fr S = @wC P a fr S ⟨thenQ (fun fr S => wC P b fr S) q.run⟩ := rfl
@[go_sem] theorem wC_cond {c : Operand} {a b : IC} [q : KX] : wC P (.cond c a b) fr S = @wcond (ev fr c) ⟨wC P a fr S⟩ ⟨wC P b fr S⟩ := rfl
@[go_sem] theorem wC_block {id : Nat} {a : IC} [q : KX] : wC P (.block id a) fr S = @wC P a fr S ⟨inQ id q.run⟩ := rfl
@[go_sem] theorem wC_exit {id : Nat} [q : KX] : wC P (.exit id) fr S = q.run (.exit id) fr S := rfl
@[go_sem] theorem wC_ret [q : KX] : wC P .ret fr S = q.run .ret fr S := rfl
@[go_sem] theorem thenQ_normal {K : Fr → St → Prop} {Q : Post} : thenQ K Q .normal fr S = K fr S := rfl
@[go_sem] theorem thenQ_exit {K : Fr → St → Prop} {Q : Post} {i : Nat} : thenQ K Q (.exit i) fr S = Q (.exit i) fr S := rfl
@[go_sem] theorem thenQ_ret {K : Fr → St → Prop} {Q : Post} : thenQ K Q .ret fr S = Q .ret fr S := rfl
@[go_sem] theorem inQ_normal {id : Nat} {Q : Post} : inQ id Q .normal fr S = Q .normal fr S := rfl
@[go_sem] theorem inQ_exit {id : Nat} {Q : Post} {i : Nat} : inQ id Q (.exit i) fr S = if i = id then Q .normal fr S else Q (.exit i) fr S := by simp only [inQ]; split <;> rfl
@[go_sem] theorem inQ_ret {id : Nat} {Q : Post} : inQ id Q .ret fr S = Q .ret fr S := rfl
@[go_sem] theorem retQ_normal {rs : List RO} {Q : Value → St → Prop} : retQ rs Q .normal fr S = @wbind _ (evRes S fr rs) ⟨fun vs => Q (packed vs) S⟩ := rfl
@[go_sem] theorem retQ_ret {rs : List RO} {Q : Value → St → Prop} : retQ rs Q .ret fr S = @wbind _ (evRes S fr rs) ⟨fun vs => Q (packed vs) S⟩ := rfl
@[go_sem] theorem evRes_nil : evRes S fr [] = some [] := rfl
@[go_sem] theorem evRes_one {r : RO} : evRes S fr [r] = (evR S fr r).map fun v => [v] := by
  simp only [evRes]
  cases evR S fr r <;> rfl
@[go_sem] theorem evRes_two {r s : RO} : evRes S fr [r, s] = (evR S fr r).bind fun v => (evR S fr s).map fun u => [v, u] := by
  simp only [evRes]
  cases evR S fr r <;> simp <;> cases evR S fr s <;> rfl
@[go_sem] theorem evRes_three {r s t : RO} : evRes S fr [r, s, t] = (evR S fr r).bind fun v => (evR S fr s).bind fun u => (evR S fr t).map fun x => [v, u, x] := by
  simp only [evRes]
  cases evR S fr r <;> simp <;> cases evR S fr s <;> simp <;> cases evR S fr t <;> rfl
@[go_sem] theorem packed_one (v : Value) : packed [v] = v := rfl
@[go_sem] theorem packed_two (v u : Value) : packed [v, u] = .tuple #[v, u] := rfl
@[go_sem] theorem packed_three (v u x : Value) : packed [v, u, x] = .tuple #[v, u, x] := rfl
@[go_sem] theorem packed_nil : packed [] = .tuple #[] := rfl

/-- A loop, by an invariant that bears a measure. -/
theorem wC_loop {a : IC} {q : KX} (I : Nat → Fr → St → Prop) (n : Nat) (h0 : I n fr S) (h : ∀ n fr S, I n fr S → @wC P a fr S ⟨thenQ (fun fr S => ∃ m, m < n ∧ I m fr S) q.run⟩) : @wC P (.loop a) fr S q :=
  JC_loop I h n fr S h0
theorem wC_unroll {a : IC} {q : KX} (h : @wC P a fr S ⟨thenQ (fun fr S => @wC P (.loop a) fr S q) q.run⟩) : @wC P (.loop a) fr S q := JC_unroll h
theorem wC_mono {a : IC} {q q' : KX} (h : @wC P a fr S q) (hq : ∀ e fr S, q.run e fr S → q'.run e fr S) : @wC P a fr S q' := JC_mono hq h

/-- A cut: what holds between two parts. -/
theorem wC_cut {a b : IC} {q : KX} (M : Fr → St → Prop) (h1 : @wC P a fr S ⟨thenQ M q.run⟩) (h2 : ∀ fr S, M fr S → @wC P b fr S q) : @wC P (.seq a b) fr S q :=
  wC_mono (q' := ⟨thenQ (fun fr S => @wC P b fr S q) q.run⟩) h1 fun e fr S h => by cases e <;> first | exact h2 _ _ h | exact h
/-- what holds where a loop is left -/
def cutQ (id : Nat) (M : Fr → St → Prop) (Q : Post) : Post
  | .exit i => if i = id then M else Q (.exit i)
  | e => Q e
@[go_sem] theorem cutQ_normal {id : Nat} {M : Fr → St → Prop} {Q : Post} : cutQ id M Q .normal fr S = Q .normal fr S := rfl
@[go_sem] theorem cutQ_ret {id : Nat} {M : Fr → St → Prop} {Q : Post} : cutQ id M Q .ret fr S = Q .ret fr S := rfl
@[go_sem] theorem cutQ_exit {id : Nat} {M : Fr → St → Prop} {Q : Post} {i : Nat} : cutQ id M Q (.exit i) fr S = if i = id then M fr S else Q (.exit i) fr S := by simp only [cutQ]; split <;> rfl
theorem wC_at {a : IC} {q : KX} (id : Nat) (M : Fr → St → Prop) (h1 : @wC P a fr S ⟨cutQ id M q.run⟩) (h2 : ∀ fr S, M fr S → q.run (.exit id) fr S) : @wC P a fr S q :=
  wC_mono h1 fun e fr S h => by
    cases e with
    | exit i =>
      simp only [cutQ] at h
      split at h
      · rename_i hi; subst hi; exact h2 _ _ h
      · exact h
    | _ => exact h
/-- A function, by its compiled code. -/
theorem J_by (hm : P.follows .mixedOrders = true) {f nt : Nat} {ic : IC} {rs : List RO} (hf : cFunc P f = some (nt, ic, rs)) {args : List Value} {Q : Value → St → Prop} (ha : args.length ≤ nt)
    (h : @wC P ic (mkFr args) S ⟨retQ rs Q⟩) : J P f args S Q := J_of hm hf ha h
end

/-! ### frames -/
@[go_sem] theorem Fr.put_apply (fr : Fr) (d : Nat) (v : Value) (i : Nat) : fr.put d v i = if i = d then v else fr i := rfl
@[go_sem] theorem Fr.putO_some (fr : Fr) (d : Nat) (v : Value) : fr.putO (some d) v = fr.put d v := rfl
@[go_sem] theorem Fr.putO_none (fr : Fr) (v : Value) : fr.putO none v = fr := rfl
@[go_sem] theorem ev_tmp (fr : Fr) (t : Nat) : ev fr (.tmp t) = fr t := rfl
@[go_sem] theorem ev_const (fr : Fr) (v : Value) : ev fr (.const v) = v := rfl
@[go_sem] theorem ev_func (fr : Fr) (f : Nat) : ev fr (.func f) = .func (.func f) #[] #[] := rfl
@[go_sem] theorem mkFr_zero (a : Value) (l : List Value) : mkFr (a :: l) 0 = a := rfl
@[go_sem] theorem mkFr_one (a : Value) (l : List Value) : mkFr (a :: l) 1 = mkFr l 0 := rfl
@[go_sem] theorem mkFr_two (a b : Value) (l : List Value) : mkFr (a :: b :: l) 2 = mkFr l 0 := rfl
@[go_sem] theorem mkFr_three (a b c : Value) (l : List Value) : mkFr (a :: b :: c :: l) 3 = mkFr l 0 := rfl
@[go_sem] theorem mkFr_four (a b c d : Value) (l : List Value) : mkFr (a :: b :: c :: d :: l) 4 = mkFr l 0 := rfl
@[go_sem] theorem mkFr_five (a b c d e : Value) (l : List Value) : mkFr (a :: b :: c :: d :: e :: l) 5 = mkFr l 0 := rfl
@[go_sem] theorem wantF_some {fr : Fr} {t : Nat} {b : Bool} : wantF fr (some (t, b)) = (match fr t with | .bool c => c == b | _ => false) := rfl
/-- a map's entry, looked up -/
def lookV (S : St) (ks : List PK) (agg : Bool) (z : Value) (ok : Bool) (m k : Value) : Option Value := evR S (mkFr [m, k]) (.look ks agg z ok (.tmp 0) (.tmp 1))
/-- bytes as a text -/
def bsV (S : St) (v : Value) : Option Value := match v with
  | .slice none _ _ => some (.string .empty)
  | .slice (some a) n _ => if n = 0 then some (.string .empty) else (S.loadN a n).bind fun cs => (bytesV cs).map fun bs => .string ⟨bs.toArray⟩
  | _ => none
/-- a map's length -/
def mlenV (S : St) (m : Value) : Option Value := evR S (mkFr [m]) (.len .mp (.tmp 0))
section
variable {S : St} {fr : Fr}
@[go_sem] theorem evR_mv {x : Operand} : evR S fr (.mv x) = some (ev fr x) := rfl
@[go_sem] theorem evR_pick {c a b : Operand} : evR S fr (.pick c a b) = (match ev fr c with | .bool t => some (if t then ev fr a else ev fr b) | _ => none) := rfl
@[go_sem] theorem evR_bin {op : BinOp} {x y : Operand} : evR S fr (.bin op x y) = binV op (ev fr x) (ev fr y) := rfl
@[go_sem] theorem evR_eqS {ks : List PK} {agg neq : Bool} {x y : Operand} : evR S fr (.eqS ks agg neq x y) = (eqV ks agg (ev fr x) (ev fr y)).map fun b => .bool (if neq then !b else b) := rfl
@[go_sem] theorem evR_eqNil {k : NK} {neq : Bool} {x y : Operand} : evR S fr (.eqNil k neq x y) = (eqN k (ev fr x) (ev fr y)).map fun b => .bool (if neq then !b else b) := rfl
@[go_sem] theorem evR_not {x : Operand} : evR S fr (.un .not x) = (match ev fr x with | .bool b => some (.bool !b) | _ => none) := by
  cases h : ev fr x <;> simp [evR, h]
@[go_sem] theorem evR_neg {x : Operand} : evR S fr (.un .neg x) = (match ev fr x with | .int k n => some (.int k (k.wrap (0 - n))) | _ => none) := by
  cases h : ev fr x <;> simp [evR, h]
@[go_sem] theorem evR_build {z : List Value} {ps : List (Nat × Nat × Operand)} : evR S fr (.build z ps) = (fillC z (ps.map fun p => (p.1, p.2.1, ev fr p.2.2))).map fun cs => .agg cs.toArray := rfl
@[go_sem] theorem evR_fld {off n : Nat} {agg : Bool} {x : Operand} : evR S fr (.fld off n agg x) = (match ev fr x with
    | .agg cs => if agg then (if off + n ≤ cs.size then some (.agg (cs.extract off (off + n))) else none) else cs[off]?
    | _ => none) := rfl
@[go_sem] theorem evR_fldA {off : Nat} {x : Operand} : evR S fr (.fldA off x) = (match ev fr x with | .pointer (some a) => (match a.spot with | none => some (.pointer (some ⟨a.block, a.off + off, none⟩)) | _ => none) | _ => none) := rfl
@[go_sem] theorem evR_nilC {x : Operand} : evR S fr (.nilC x) = (match ev fr x with | .pointer (some a) => some (.pointer (some a)) | .func (.func f) a b => some (.func (.func f) a b) | _ => none) := rfl
@[go_sem] theorem evR_idxA {esz : Nat} {x i : Operand} : evR S fr (.idxA esz x i) = (match ev fr x, ev fr i with
    | .slice (some a) len _, .int _ n => (match a.spot with | none => if 0 ≤ n ∧ n < len then some (.pointer (some ⟨a.block, a.off + n.toNat * esz, none⟩)) else none | _ => none)
    | _, _ => none) := rfl
@[go_sem] theorem evR_arrA {l esz : Nat} {x i : Operand} : evR S fr (.arrA l esz x i) = (match ev fr x, ev fr i with
    | .pointer (some a), .int _ n => (match a.spot with | none => if 0 ≤ n ∧ n < l then some (.pointer (some ⟨a.block, a.off + n.toNat * esz, none⟩)) else none | _ => none)
    | _, _ => none) := rfl
@[go_sem] theorem evR_idxS {x i : Operand} : evR S fr (.idxS x i) = (match ev fr x, ev fr i with
    | .string s, .int _ n => if 0 ≤ n then (s[n.toNat]?).map fun b => .int .u8 b.toNat else none
    | _, _ => none) := rfl
@[go_sem] theorem evR_ld1 {x : Operand} : evR S fr (.ld1 x) = (match ev fr x with | .pointer (some a) => S.cell a | _ => none) := rfl
@[go_sem] theorem evR_ldn {n : Nat} {x : Operand} : evR S fr (.ldn n x) = (match ev fr x with | .pointer (some a) => (S.loadN a n).map fun cs => .agg cs.toArray | _ => none) := rfl
@[go_sem] theorem evR_lenS {x : Operand} : evR S fr (.len .str x) = (match ev fr x with | .string s => some (.int .i64 s.size) | _ => none) := by
  cases h : ev fr x <;> simp [evR, h]
@[go_sem] theorem evR_lenSl {x : Operand} : evR S fr (.len .sl x) = (match ev fr x with | .slice _ n _ => some (.int .i64 n) | _ => none) := by
  cases h : ev fr x <;> simp [evR, h]
@[go_sem] theorem evR_lenM {x : Operand} : evR S fr (.len .mp x) = mlenV S (ev fr x) := by
  unfold mlenV
  simp only [evR]
  rfl
@[go_sem] theorem evR_look {ks : List PK} {agg : Bool} {z : Value} {ok : Bool} {m k : Operand} : evR S fr (.look ks agg z ok m k) = lookV S ks agg z ok (ev fr m) (ev fr k) := rfl
@[go_sem] theorem evR_ext {i : Nat} {x : Operand} : evR S fr (.ext i x) = (match ev fr x with | .tuple vs => vs[i]? | _ => none) := rfl
@[go_sem] theorem evR_sl {esz : Nat} {x : Operand} {lo hi mx : Option Operand} : evR S fr (.sl esz x lo hi mx) = slV esz (ev fr x) (lo.map (ev fr)) (hi.map (ev fr)) (mx.map (ev fr)) := rfl
@[go_sem] theorem evR_slS {x : Operand} {lo hi : Option Operand} : evR S fr (.slS x lo hi) = (match ev fr x with
    | .string s => match (match hi with | none => some s.size | some _ => bnd fr s.size 0 hi) with
      | some h => (bnd fr h 0 lo).map fun l => .string (s.extract l h)
      | none => none
    | _ => none) := rfl
@[go_sem] theorem evR_convI {k : IntKind} {x : Operand} : evR S fr (.convI k x) = (match ev fr x with | .int _ n => some (.int k (k.wrap n)) | _ => none) := rfl
@[go_sem] theorem evR_mkI {t : TypeId} {x : Operand} : evR S fr (.mkI t x) = some (.iface t (ev fr x)) := rfl
@[go_sem] theorem evR_mkF {fn : Fn} {a b : List Operand} : evR S fr (.mkF fn a b) = some (.func fn (a.map (ev fr)).toArray (b.map (ev fr)).toArray) := rfl
@[go_sem] theorem evR_maxI {mx : Bool} {x y : Operand} : evR S fr (.maxI mx x y) = (match ev fr x, ev fr y with
    | .int k a, .int k' b => if k = k' then some (.int k (if mx then max a b else min a b)) else none
    | _, _ => none) := rfl
@[go_sem] theorem evR_capS {x : Operand} : evR S fr (.capS x) = (match ev fr x with | .slice _ _ c => some (.int .i64 c) | _ => none) := rfl
@[go_sem] theorem evR_bs {x : Operand} : evR S fr (.bs x) = bsV S (ev fr x) := rfl
end
attribute [go_sem] binV binI binS List.map_cons List.map_nil if_true if_false eq_self

/-! ### views -/
/-- nothing that was known, or could be, has changed: new blocks at most -/
structure St.Ext (S S' : St) : Prop where
  n : S.n ≤ S'.n
  obj : ∀ i, i < S.n → S'.obj i = S.obj i
theorem St.Ext.refl (S : St) : S.Ext S := ⟨Nat.le_refl _, fun _ _ => rfl⟩
theorem St.Ext.trans {S S' S'' : St} (h : S.Ext S') (k : S'.Ext S'') : S.Ext S'' := ⟨Nat.le_trans h.n k.n, fun i hi => (k.obj i (Nat.lt_of_lt_of_le hi h.n)).trans (h.obj i hi)⟩
theorem St.Ext.put {S S' : St} (h : S.Ext S') {b : Nat} (hb : S'.n ≤ b) (o : AObj) : S.Ext (S'.put b o) :=
  ⟨Nat.le_trans h.n (Nat.le_max_left _ _), fun i hi => by
    have := h.n
    rw [St.put_other _ _ _ (by omega)]
    exact h.obj i hi⟩
theorem St.lt_put_self (S : St) (b : Nat) (o : AObj) : b < (S.put b o).n := by rw [St.put_n]; omega
theorem St.lt_put {S : St} {i : Nat} (h : i < S.n) (b : Nat) (o : AObj) : i < (S.put b o).n := by rw [St.put_n]; omega
theorem St.obj_put_lt {S : St} {i b : Nat} (hi : i < S.n) (hb : S.n ≤ b) (o : AObj) : (S.put b o).obj i = S.obj i := St.put_other _ _ _ (by omega)

theorem St.loadN_def (S : St) (b off n : Nat) : S.loadN ⟨b, off, none⟩ n = match S.obj b with | some (.cells _ _ cs) => if off + n ≤ cs.length then some ((cs.drop off).take n) else none | _ => none := by
  unfold St.loadN
  cases S.obj b with
  | none => rfl
  | some o => cases o <;> rfl
theorem St.cell_def (S : St) (b off : Nat) : S.cell ⟨b, off, none⟩ = match S.obj b with | some (.cells _ _ cs) => cs[off]? | _ => none := by
  unfold St.cell
  cases S.obj b with
  | none => rfl
  | some o => cases o <;> rfl
@[go_sem] theorem St.loadN_same (S : St) (b off n : Nat) (rw : Bool) (cap : Nat) (cs : List Value) : (S.put b (.cells rw cap cs)).loadN ⟨b, off, none⟩ n = if off + n ≤ cs.length then some ((cs.drop off).take n) else none := by
  rw [St.loadN_def, St.put_same]
@[go_sem] theorem St.cell_same (S : St) (b off : Nat) (rw : Bool) (cap : Nat) (cs : List Value) : (S.put b (.cells rw cap cs)).cell ⟨b, off, none⟩ = cs[off]? := by
  rw [St.cell_def, St.put_same]
theorem St.loadN_other {S : St} {b c : Nat} (h : c ≠ b) (o : AObj) (off n : Nat) : (S.put b o).loadN ⟨c, off, none⟩ n = S.loadN ⟨c, off, none⟩ n := by
  rw [St.loadN_def, St.loadN_def, St.put_other _ _ _ h]
theorem St.cell_other {S : St} {b c : Nat} (h : c ≠ b) (o : AObj) (off : Nat) : (S.put b o).cell ⟨c, off, none⟩ = S.cell ⟨c, off, none⟩ := by
  rw [St.cell_def, St.cell_def, St.put_other _ _ _ h]
@[go_sem] theorem drop_zero' {α : Type} (l : List α) : l.drop 0 = l := rfl
@[go_sem] theorem cells_agg (cs : Array Value) : (Value.agg cs).cells = cs := rfl
@[go_sem] theorem cells_int (k : IntKind) (n : Int) : (Value.int k n).cells = #[.int k n] := rfl
@[go_sem] theorem cells_bool (b : Bool) : (Value.bool b).cells = #[.bool b] := rfl
@[go_sem] theorem cells_string (b : ByteArray) : (Value.string b).cells = #[.string b] := rfl
@[go_sem] theorem cells_slice (a : Option Addr) (l c : Nat) : (Value.slice a l c).cells = #[.slice a l c] := rfl
@[go_sem] theorem cells_map (a : Option Nat) : (Value.map a).cells = #[.map a] := rfl
@[go_sem] theorem cells_pointer (a : Option Addr) : (Value.pointer a).cells = #[.pointer a] := rfl
@[go_sem] theorem cells_func (f : Fn) (a b : Array Value) : (Value.func f a b).cells = #[.func f a b] := rfl
attribute [go_sem] List.getElem?_toArray Option.map_some Option.map_none List.length_cons List.length_nil List.take_succ_cons List.take_zero List.drop_succ_cons List.getElem?_cons_succ List.getElem?_cons_zero St.put_n List.contains_cons List.contains_nil Bool.or_false Bool.false_or Bool.or_true Bool.true_or List.forall_mem_cons List.not_mem_nil false_implies implies_true forall_const and_true true_and Option.some.injEq Bool.false_eq_true Int.cast_ofNat_Int beq_true beq_false decide_true decide_false not_false_eq_true not_true_eq_false Bool.not_true Bool.not_false fillC List.size_toArray and_self List.cons_append List.nil_append
theorem wrap64 {n : Int} (h1 : -9223372036854775808 ≤ n) (h2 : n ≤ 9223372036854775807) : IntKind.i64.wrap n = n := by simp [IntKind.wrap, IntKind.bits, IntKind.signed]; omega
end Go.Osj
