/- Operations, taken: what is taken; the state on the way. -/
import Derived.Test.YtfadbihdmohdiaaDoorKE
set_option linter.unusedVariables false
set_option linter.unusedSimpArgs false
namespace Go.Osj
abbrev nilS : Value := .slice none 0 0
def oz : OpA := ⟨(0, 0), 0, [], 0, (0, 0), (0, 0), 0, 0, (0, 0), ⟨#[]⟩⟩
abbrev Rd := List Int × Int
def failP (x : Int) (p : Rd) : Rd := (if p.2 = 0 then [] else p.1, if p.2 = 0 then x else p.2)
def goodR (L : Nat) (p : Rd) : Prop := isB p.1 ∧ (p.2 ≠ 0 → p.1 = []) ∧ p.1.length ≤ L
theorem goodR.fail {L : Nat} {p : Rd} (h : goodR L p) (x : Int) : goodR L (failP x p) := by
  unfold failP
  by_cases h0 : p.2 = 0
  · simp [goodR, h0, isB]
  · simp only [h0, if_false]
    exact h
theorem goodR.d {L : Nat} {p : Rd} (h : goodR L p) : goodR L (rdD p.1 p.2).2 := let g := rdD_good h.1 h.2.1; ⟨g.1, g.2.1, Nat.le_trans g.2.2 h.2.2⟩
theorem goodR.i {L : Nat} {p : Rd} (h : goodR L p) : goodR L (rdI p.1 p.2).2 := let g := rdI_good h.1 h.2.1; ⟨g.1, g.2.1, Nat.le_trans g.2.2 h.2.2⟩
theorem goodR.v {L : Nat} {p : Rd} (h : goodR L p) : goodR L (rdV p.1 p.2).2 := let g := rdV_good h.1 h.2.1; ⟨g.1, g.2.1, Nat.le_trans g.2.2.1 h.2.2⟩
theorem goodR.t {L : Nat} {p : Rd} (h : goodR L p) : goodR L (rdT p.1 p.2).2 := let g := rdT_good h.1 h.2.1; ⟨g.1, g.2.1, Nat.le_trans g.2.2.1 h.2.2⟩
def formP (k : Int) (p : Rd) : Rd := if k = 1 ∨ k = 2 ∨ k = 3 then p else failP 11 p
theorem goodR.form {L : Nat} {p : Rd} (h : goodR L p) (k : Int) : goodR L (formP k p) := by
  unfold formP
  split
  · exact h
  · exact h.fail 11
/-- an operation's head, taken -/
def rdH (p : Rd) : OpA × Rd :=
  let a := rdD p.1 p.2
  let b := rdI a.2.1 a.2.2
  let c := rdV b.2.1 b.2.2
  let k := rdI c.2.1 c.2.2
  let g := formP k.1 k.2
  let h := rdD g.1 g.2
  (⟨a.1, b.1, c.1, k.1, h.1, (0, 0), 0, 0, (0, 0), ⟨#[]⟩⟩, h.2)
def rdB (o : OpA) (p : Rd) : OpA × Rd :=
  if o.kind = 1 then
    ({ o with at_ := (rdD p.1 p.2).1, side := (rdI (rdD p.1 p.2).2.1 (rdD p.1 p.2).2.2).1, char := (rdI (rdI (rdD p.1 p.2).2.1 (rdD p.1 p.2).2.2).2.1 (rdI (rdD p.1 p.2).2.1 (rdD p.1 p.2).2.2).2.2).1 },
      (rdI (rdI (rdD p.1 p.2).2.1 (rdD p.1 p.2).2.2).2.1 (rdI (rdD p.1 p.2).2.1 (rdD p.1 p.2).2.2).2.2).2)
  else if o.kind = 2 then ({ o with at_ := (rdD p.1 p.2).1 }, (rdD p.1 p.2).2)
  else if o.kind = 3 then ({ o with parent := (rdD p.1 p.2).1, key := (rdT (rdD p.1 p.2).2.1 (rdD p.1 p.2).2.2).1 }, (rdT (rdD p.1 p.2).2.1 (rdD p.1 p.2).2.2).2)
  else (o, p)
def rdF (o : OpA) (p : Rd) : OpA × Rd := if p.2 = 0 then (if mayO o then (o, p) else (oz, failP 30 p)) else (oz, p)
def rdO (p : Rd) : OpA × Rd := rdF (rdB (rdH p).1 (rdH p).2).1 (rdB (rdH p).1 (rdH p).2).2
theorem goodR.h {L : Nat} {p : Rd} (h : goodR L p) : goodR L (rdH p).2 := (((h.d.i).v.i).form _).d
theorem goodR.b {L : Nat} {p : Rd} (h : goodR L p) (o : OpA) : goodR L (rdB o p).2 := by
  unfold rdB
  split
  · exact h.d.i.i
  split
  · exact h.d
  split
  · exact h.d.t
  · exact h
theorem goodR.f {L : Nat} {p : Rd} (h : goodR L p) (o : OpA) : goodR L (rdF o p).2 := by
  unfold rdF
  split
  · split
    · exact h
    · exact h.fail 30
  · exact h
theorem goodR.o {L : Nat} {p : Rd} (h : goodR L p) : goodR L (rdO p).2 := ((h.h).b _).f _
theorem opB.ne {S S' : St} {u : Value} {w : Nat} {o : OpA} {d : Value} (h : opB S w o d) (hb : St.But u S S') (hu : blkOf u ≠ some w) : opB S' w o d :=
  ⟨Nat.lt_of_lt_of_le h.1 hb.n, (hb.obj w h.1 hu).trans h.2⟩
/-- on the way -/
structure TakeSt (S0 S : St) (q B x w : Nat) (p : Rd) (o : OpA) (d : Value) : Prop where
  rd : RdT S q B p.1 p.2
  ox : opB S x oz nilS
  ob : opB S w o d
  ow : OwnT dotE S0.n S d o.deps
  nw : ∀ j, blkOf d = some j → j ≠ w ∧ j ≠ x
  bt : St.But (ptrV q) S0 S
  hB : B ≤ S0.n
  hq : q < S0.n
  hx : S0.n ≤ x
  hw : S0.n ≤ w
  xw : x ≠ w
namespace TakeSt
variable {S0 S S' : St} {q B x w : Nat} {p p' : Rd} {o o' : OpA} {d d' : Value}
theorem n (T : TakeSt S0 S q B x w p o d) : S0.n ≤ S.n := T.bt.n
/-- the reader moved on -/
theorem step (T : TakeSt S0 S q B x w p o d) (hr : RdT S' q B p'.1 p'.2) (hb : St.But (ptrV q) S S') : TakeSt S0 S' q B x w p' o d where
  rd := hr
  ox := T.ox.ne hb (by have := T.hq; have := T.hx; simp [blkOf]; omega)
  ob := T.ob.ne hb (by have := T.hq; have := T.hw; simp [blkOf]; omega)
  ow := T.ow.ptr T.hq hb
  nw := T.nw
  bt := T.bt.trans hb
  hB := T.hB
  hq := T.hq
  hx := T.hx
  hw := T.hw
  xw := T.xw
/-- the operation's cells were set -/
theorem setD (T : TakeSt S0 S q B x w p o d) (hob : opB S' w o' d') (hb : St.But (ptrV w) S S') (ho : OwnT dotE S0.n S d' o'.deps) (hn : ∀ j, blkOf d' = some j → j ≠ w ∧ j ≠ x) : TakeSt S0 S' q B x w p o' d' where
  rd := T.rd.keep hb.n (hb.obj q T.rd.lt (by have := T.hq; have := T.hw; simp [blkOf]; omega)) fun i hi hi2 => hb.obj i hi2 (by have := T.hB; have := T.hw; simp [blkOf]; omega)
  ox := T.ox.ne hb (by have := T.xw; simp [blkOf]; omega)
  ob := hob
  ow := ho.but dotE hb fun j hj => by have := (hn j hj).1; simp [blkOf]; omega
  nw := hn
  bt := ⟨Nat.le_trans T.bt.n hb.n, fun i hi hne => by rw [hb.obj i (Nat.lt_of_lt_of_le hi T.bt.n) (by have := T.hw; simp [blkOf]; omega)]; exact T.bt.obj i hi hne⟩
  hB := T.hB
  hq := T.hq
  hx := T.hx
  hw := T.hw
  xw := T.xw
theorem set (T : TakeSt S0 S q B x w p o d) (hob : opB S' w o' d) (hb : St.But (ptrV w) S S') (ho : o'.deps = o.deps) : TakeSt S0 S' q B x w p o' d :=
  T.setD hob hb (by rw [ho]; exact T.ow) T.nw
theorem fin (T : TakeSt S0 S q B x w p o d) (hb : St.But (ptrV x) S S') : RdT S' q B p.1 p.2 ∧ OwnT dotE S0.n S' d o.deps ∧ St.But (ptrV q) S0 S' :=
  ⟨T.rd.keep hb.n (hb.obj q T.rd.lt (by have := T.hq; have := T.hx; simp [blkOf]; omega)) fun i hi hi2 => hb.obj i hi2 (by have := T.hB; have := T.hx; simp [blkOf]; omega),
    T.ow.but dotE hb fun j hj => by have := (T.nw j hj).2; simp [blkOf]; omega,
    ⟨Nat.le_trans T.bt.n hb.n, fun i hi hne => by rw [hb.obj i (Nat.lt_of_lt_of_le hi T.bt.n) (by have := T.hx; simp [blkOf]; omega)]; exact T.bt.obj i hi hne⟩⟩
end TakeSt
theorem wst_op {S : St} {w off n : Nat} {o : OpA} {d v : Value} {k : KV} (o' : OpA) (d' : Value) (h : opB S w o d) (h1 : v.cells.size = n) (h2 : oneC v.cells.toList = true) (h3 : off + n ≤ 14) (hw : wrote (opC o d) off v.cells.toList = opC o' d')
    (hk : ∀ S', opB S' w o' d' → St.But (ptrV w) S S' → k.run undef S') : @wst (.pointer (some ⟨w, off, none⟩)) v n S k := by
  refine wst_of h.2 h1 h2 (by rw [opC_len]; omega) h3 ?_
  rw [hw]
  exact hk _ opB.put (but_put ..)
theorem walloc_O {S : St} {k : KV} (hk : ∀ x S1, S.Ext S1 → opB S1 x oz nilS → S.n ≤ x → k.run (ptrV x) S1) :
    @wfresh S.n ⟨fun b => k.run (.pointer (some ⟨b, 0, none⟩)) (S.put b (.cells true (opC oz nilS).length (opC oz nilS)))⟩ :=
  wfresh_of fun b hb => hk b _ ((St.Ext.refl S).put hb _) opB.put hb
end Go.Osj
