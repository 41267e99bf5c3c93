/- Regions that may be drawn in any order: the plan's table, and the theorem. -/
import Derived.Test.YtfadbihdmohdiaaGreatDoorOsjK
namespace Go.Osj
open Go.RowKit

/-- what must come before an operation, by a table of the earlier ones -/
def predsOf (tbl : List Nat) (o : Oper) : Nat :=
  o.after.toList.foldl (fun m e => if Region.binds .any e then m ||| (1 <<< e.on) ||| tbl.getD e.on 0 else m) 0
def predTbl (ops : Array Oper) : List Nat := ops.toList.foldl (fun t o => t ++ [predsOf t o]) []
def tblOk (ops : Array Oper) (tbl : List Nat) : Bool :=
  (List.range ops.size).all fun y => match ops[y]? with
    | some o => tbl.getD y 0 == predsOf tbl o && o.after.toList.all fun e => !Region.binds .any e || decide (e.on < y)
    | none => false
def rdOf (P : Program) (ops : Array Oper) (i : Nat) : Bool := match ops[i]? with | some o => (cR P o.op).isSome | none => false
def apartI (ops : Array Oper) (x y : Nat) : Bool := match ops[x]?, ops[y]? with | some a, some b => a.apart ops b | _, _ => false
def readyL (ops : Array Oper) (L : Nat) (i : Nat) : Bool :=
  match ops[i]? with | some o => o.after.toList.all fun e => !Region.binds .any e || L.testBit e.on | none => false
def confOk (P : Program) (ops : Array Oper) (tbl : List Nat) (L i : Nat) : Bool :=
  (List.range ops.size).all fun x => !L.testBit x || !rdOf P ops x || (tbl.getD i 0).testBit x || apartI ops x i
def RO.mem : RO → Bool
  | .ld1 _ | .ldn _ _ | .look .. | .bs _ => true
  | .len .mp _ => true
  | _ => false
/-- is an operation to come that is not ordered behind x, and may write? -/
def needK (P : Program) (ops : Array Oper) (tbl : List Nat) (L x : Nat) : Bool :=
  (List.range ops.size).any fun e => !L.testBit e && !rdOf P ops e && !(tbl.getD e 0).testBit x
def keepL (P : Program) (ops : Array Oper) (tbl : List Nat) (L i : Nat) : List Nat :=
  (List.range ops.size).filter fun x => L.testBit x && rdOf P ops x && !(tbl.getD i 0).testBit x

def altStep (P : Program) (nt : Nat) (ops : Array Oper) (tbl : List Nat) (L : Nat) (next : Nat → Option Plan) (i : Nat) (acc : Option Plan) : Option Plan :=
  match ops[i]? with
  | none => none
  | some o =>
    match gdOf ops o, cE P o.op, next (L ||| 1 <<< i), acc with
    | some g, some eo, some rest, some other => if dstOk nt o && confOk P ops tbl L i then some (.ef i g eo o.dst (keepL P ops tbl L i) rest other) else none
    | _, _, _, _ => none
def heads (ops : Array Oper) (L : Nat) : List Nat := (List.range ops.size).filter fun i => !L.testBit i && readyL ops L i

def anyPlan (P : Program) (nt : Nat) (ops : Array Oper) (tbl : List Nat) : Nat → Nat → Option Plan
  | 0, _ => none
  | fuel + 1, L =>
    match (List.range ops.size).find? fun i => !L.testBit i && rdOf P ops i && readyL ops L i with
    | some i =>
      match ops[i]? with
      | none => none
      | some o =>
        match gdOf ops o, cR P o.op, anyPlan P nt ops tbl fuel (L ||| 1 <<< i) with
        | some g, some ro, some rest => if dstOk nt o && confOk P ops tbl L i then some (.rd i g ro o.dst (ro.mem && needK P ops tbl (L ||| 1 <<< i) i) rest) else none
        | _, _, _ => none
    | none =>
      if (List.range ops.size).all fun i => L.testBit i then some .done
      else (heads ops L).foldr (altStep P nt ops tbl L (anyPlan P nt ops tbl fuel)) (some .none)

def cRegion (P : Program) (nt : Nat) (ops : Array Oper) (drawn : Bool) : Option Plan :=
  if drawn then (if tblOk ops (predTbl ops) then anyPlan P nt ops (predTbl ops) (ops.size + 1) 0 else none)
  else textPlan P nt ops (List.range ops.size)

section
variable {P : Program} {c0 : World} {nt : Nat} {ops : Array Oper} {tbl : List Nat} {Q : Exit → Act → World → Prop} {K : Fr → St → Prop}

theorem mem_predsOf {x : Nat} (es : List Edge) (m : Nat) (h : (es.foldl (fun m e => if Region.binds .any e then m ||| (1 <<< e.on) ||| tbl.getD e.on 0 else m) m).testBit x = true) :
    m.testBit x = true ∨ ∃ e ∈ es, Region.binds .any e = true ∧ (e.on = x ∨ (tbl.getD e.on 0).testBit x = true) := by
  induction es generalizing m with
  | nil => exact .inl h
  | cons e es ih =>
    simp only [List.foldl_cons] at h
    rcases ih _ h with h | ⟨e', he', h⟩
    · split at h
      · rename_i hb
        simp only [Nat.testBit_or, Bool.or_eq_true] at h
        rcases h with (h | h) | h
        · exact .inl h
        · refine .inr ⟨e, by simp, hb, .inl ?_⟩
          rw [Nat.one_shiftLeft, Nat.testBit_two_pow] at h
          simpa using h
        · exact .inr ⟨e, by simp, hb, .inr h⟩
      · exact .inl h
    · exact .inr ⟨e', by simp [he'], h⟩

theorem tblOk_spec (h : tblOk ops tbl = true) {y : Nat} {o : Oper} (ho : ops[y]? = some o) :
    (∀ x, (tbl.getD y 0).testBit x = true → ∃ e ∈ o.after, Region.binds .any e = true ∧ (e.on = x ∨ (tbl.getD e.on 0).testBit x = true)) ∧ (∀ e ∈ o.after, Region.binds .any e = true → e.on < y) := by
  unfold tblOk at h
  simp only [List.all_eq_true, List.mem_range] at h
  have h1 := h y (Array.getElem?_eq_some_iff.1 ho).1
  simp only [ho, Bool.and_eq_true, beq_iff_eq] at h1
  obtain ⟨h1, h2⟩ := h1
  refine ⟨fun x hx => ?_, fun e he hb => ?_⟩
  · rw [h1] at hx
    rcases mem_predsOf _ _ hx with h | ⟨e, he, h⟩
    · simp at h
    · exact ⟨e, by simpa using he, h⟩
  · have := List.all_eq_true.1 h2 e (by simpa using he)
    simpa [hb] using this

/-- What must come before a listed operation is listed. -/
theorem closed (ht : tblOk ops tbl = true) {listed : Array Bool} (hd : ∀ j o, ops[j]? = some o → listed.getD j false = true → ∀ e ∈ o.after, Region.binds .any e = true → listed.getD e.on false = true) :
    ∀ (y : Nat) (o : Oper), ops[y]? = some o → (∀ e ∈ o.after, Region.binds .any e = true → listed.getD e.on false = true) → ∀ x, (tbl.getD y 0).testBit x = true → listed.getD x false = true := by
  intro y
  induction y using Nat.strongRecOn with
  | _ y ih =>
    intro o ho hall x hx
    obtain ⟨h1, h2⟩ := tblOk_spec ht ho
    obtain ⟨e, he, hb, h⟩ := h1 x hx
    have hl := hall e he hb
    rcases h with rfl | h
    · exact hl
    · cases hz : ops[e.on]? with
      | none =>
        have : tbl.getD e.on 0 = 0 ∨ True := .inr trivial
        have hlt := h2 e he hb
        have := (Array.getElem?_eq_some_iff.1 ho).1
        rw [Array.getElem?_eq_none_iff] at hz
        omega
      | some z => exact ih e.on (h2 e he hb) z hz (hd _ _ hz hl) x h

theorem ready_nil (ht : tblOk ops tbl = true) {listed : Array Bool} (hsz : listed.size = ops.size) (h : Region.ready .any ops listed = []) : ∀ j, j < ops.size → listed.getD j true = true := by
  intro j
  induction j using Nat.strongRecOn with
  | _ j ih =>
    intro hj
    cases hl : listed.getD j true with
    | true => rfl
    | false =>
      exfalso
      have ho : ops[j]? = some ops[j] := by simp [hj]
      have hm : j ∈ Region.ready .any ops listed := by
        rw [mem_ready]
        refine ⟨hl, ops[j], ho, fun e he hb => ?_⟩
        have hlt := (tblOk_spec ht ho).2 e he hb
        have := ih e.on hlt (by omega)
        simpa [show e.on < listed.size by omega] using this
      rw [h] at hm
      cases hm

/-! ### frames and single operations -/
theorem ev_putO {fr : Fr} {dst : Option Nat} {v : Value} {x : Operand} (h : ∀ d, dst = some d → x ≠ .tmp d) : ev (fr.putO dst v) x = ev fr x := by
  cases dst with
  | none => rfl
  | some d =>
    cases x with
    | tmp t =>
      have hne : t ≠ d := fun e => h d rfl (e ▸ rfl)
      simp [Fr.putO, Fr.put, ev, hne]
    | _ => rfl
theorem exec_putO {fr : Fr} {dst : Option Nat} {v : Value} {o : Oper} (hs : ∀ cs b, o.op ≠ .select cs b) (h : ∀ d, dst = some d → d ∉ o.looksAt ops) : execOp (ev (fr.putO dst v)) o = execOp (ev fr) o :=
  execOp_congr o hs fun x hx => ev_putO fun d hd hxd => h d hd (by
    subst hxd
    exact List.mem_append_left _ (List.mem_filterMap.2 ⟨.tmp d, by simpa using hx, rfl⟩))
theorem want_putO {fr : Fr} {dst : Option Nat} {v : Value} {o : Oper} {g : Gd} (hg : gdOf ops o = some g) (h : ∀ d, dst = some d → d ∉ o.looksAt ops) : wantF (fr.putO dst v) g = wantF fr g := by
  unfold gdOf at hg
  cases hgu : o.guard with
  | none => simp [hgu] at hg; subst hg; rfl
  | some jb =>
    obtain ⟨j, b⟩ := jb
    simp only [hgu] at hg
    cases hd : (ops[j]?).bind (·.dst) with
    | none => simp [hd] at hg
    | some t =>
      simp only [hd] at hg
      injection hg with hg
      subst hg
      cases dst with
      | none => rfl
      | some d =>
        have hne : t ≠ d := fun e => h d rfl (by subst e; simp [Oper.looksAt, hgu, hd])
        simp [wantF, Fr.putO, Fr.put, hne]
theorem putO_comm (fr : Fr) {x y : Option Nat} (v u : Value) (h : ∀ d, x = some d → y ≠ some d) : (fr.putO x v).putO y u = (fr.putO y u).putO x v := by
  cases x with
  | none => rfl
  | some d =>
    cases y with
    | none => rfl
    | some e =>
      have hne : e ≠ d := fun q => h d rfl (q ▸ rfl)
      funext s
      simp only [Fr.putO, Fr.put]
      split <;> split <;> simp_all

/-- In every world of which S tells, the operation yields v. -/
def Run (P : Program) (c0 : World) (S : St) (fr : Fr) (o : Oper) (v : Value) : Prop := ∀ w, Rel c0 S w → (execOp (ev fr) o).run P w = .ok (.value v) w

/-- what is told of one pending operation -/
def Pend1 (P : Program) (c0 : World) (ops : Array Oper) (tbl : List Nat) (nt : Nat) (S : St) (L : Nat) (kept : Kept) (i : Nat) (o : Oper) (g : Gd) (v : Value) (fr : Fr) : Prop :=
  ops[i]? = some o ∧ gdOf ops o = some g ∧ (∀ cs b, o.op ≠ .select cs b) ∧ dstOk nt o = true ∧
  ((wantF fr g = true ∧ Run P c0 S fr o v ∧ (needK P ops tbl L i = true → ∀ S', (∀ q ∈ kept, q.1 = i → q.2 S') → Run P c0 S' fr o v)) ∨ (wantF fr g = false ∧ v = undef))
def PendR (P : Program) (c0 : World) (ops : Array Oper) (tbl : List Nat) (nt : Nat) (S : St) (L : Nat) (kept : Kept) : List Nat → Fr → Fr → Prop
  | [], fr, frv => frv = fr
  | i :: is, fr, frv => ∃ o g v, Pend1 P c0 ops tbl nt S L kept i o g v fr ∧ PendR P c0 ops tbl nt S L kept is (fr.putO o.dst v) frv

theorem apartI_spec {x y : Nat} {a b : Oper} (hx : ops[x]? = some a) (hy : ops[y]? = some b) (h : apartI ops x y = true) : a.apart ops b = true := by
  simpa [apartI, hx, hy] using h

theorem Pend1.move {S : St} {L : Nat} {kept : Kept} {i : Nat} {o : Oper} {g : Gd} {v : Value} {fr fr' : Fr} (h : Pend1 P c0 ops tbl nt S L kept i o g v fr)
    (he : execOp (ev fr') o = execOp (ev fr) o) (hw : wantF fr' g = wantF fr g) : Pend1 P c0 ops tbl nt S L kept i o g v fr' := by
  obtain ⟨h1, h2, h3, h4, h5⟩ := h
  refine ⟨h1, h2, h3, h4, ?_⟩
  unfold Run at *
  rw [he, hw]
  exact h5

/-- A pending operation from which all earlier pending ones stand apart may be taken first. -/
theorem PendR.pull {S : St} {L : Nat} {kept : Kept} {j : Nat} {p2 : List Nat} {frv : Fr} : ∀ (p1 : List Nat) (fr : Fr), PendR P c0 ops tbl nt S L kept (p1 ++ j :: p2) fr frv → (∀ x ∈ p1, apartI ops x j = true) →
    ∃ o g v, Pend1 P c0 ops tbl nt S L kept j o g v fr ∧ PendR P c0 ops tbl nt S L kept (p1 ++ p2) (fr.putO o.dst v) frv
  | [], fr, h, _ => h
  | x :: p1, fr, h, ha => by
    obtain ⟨ox, gx, vx, hx, h⟩ := h
    obtain ⟨oj, gj, vj, hj, h⟩ := PendR.pull p1 _ h (fun y hy => ha y (by simp [hy]))
    have hap := apartI_spec hx.1 hj.1 (ha x (by simp))
    obtain ⟨a1, a2, a3⟩ := Oper.apart_spec hap
    refine ⟨oj, gj, vj, hj.move (exec_putO hj.2.2.1 a1).symm (want_putO hj.2.1 a1).symm, ox, gx, vx, hx.move (exec_putO hx.2.2.1 a3) (want_putO hx.2.1 a3), ?_⟩
    rw [putO_comm fr vj vx (fun d hd he => a2 d he hd)]
    exact h

/-- Behind pending operations an operation that stands apart from all of them finds what it found. -/
theorem PendR.thru {S : St} {L : Nat} {kept : Kept} {j : Nat} {oj : Oper} {gj : Gd} {frv : Fr} (hj : ops[j]? = some oj) (hg : gdOf ops oj = some gj) (hs : ∀ cs b, oj.op ≠ .select cs b) :
    ∀ (p : List Nat) (fr : Fr), PendR P c0 ops tbl nt S L kept p fr frv → (∀ x ∈ p, apartI ops x j = true) → execOp (ev frv) oj = execOp (ev fr) oj ∧ wantF frv gj = wantF fr gj
  | [], fr, h, _ => by subst h; exact ⟨rfl, rfl⟩
  | x :: p, fr, h, ha => by
    obtain ⟨ox, gx, vx, hx, h⟩ := h
    obtain ⟨e1, e2⟩ := PendR.thru hj hg hs p _ h (fun y hy => ha y (by simp [hy]))
    obtain ⟨a1, _, _⟩ := Oper.apart_spec (apartI_spec hx.1 hj (ha x (by simp)))
    exact ⟨e1.trans (exec_putO hs a1), e2.trans (want_putO hg a1)⟩

/-- Behind an operation that stands apart from all pending ones these are still pending. -/
theorem PendR.push {S S' : St} {L L' : Nat} {kept kept' : Kept} {j : Nat} {oj : Oper} {v : Value} {frv : Fr} (hj : ops[j]? = some oj) :
    ∀ (p : List Nat) (fr : Fr), PendR P c0 ops tbl nt S L kept p fr frv → (∀ x ∈ p, apartI ops x j = true) →
    (∀ x ∈ p, ∀ o g u fr, Pend1 P c0 ops tbl nt S L kept x o g u fr → Pend1 P c0 ops tbl nt S' L' kept' x o g u fr) →
    PendR P c0 ops tbl nt S' L' kept' p (fr.putO oj.dst v) (frv.putO oj.dst v)
  | [], fr, h, _, _ => by subst h; rfl
  | x :: p, fr, h, ha, hk => by
    obtain ⟨ox, gx, vx, hx, h⟩ := h
    obtain ⟨a1, a2, a3⟩ := Oper.apart_spec (apartI_spec hx.1 hj (ha x (by simp)))
    refine ⟨ox, gx, vx, (hk x (by simp) _ _ _ _ hx).move (exec_putO hx.2.2.1 a3) (want_putO hx.2.1 a3), ?_⟩
    rw [putO_comm fr v vx (fun d hd he => a2 d he hd)]
    exact PendR.push hj p _ h (fun y hy => ha y (by simp [hy])) (fun y hy => hk y (by simp [hy]))

theorem PendR.mono {S S' : St} {L L' : Nat} {kept kept' : Kept} {frv : Fr} :
    ∀ (p : List Nat) (fr : Fr), PendR P c0 ops tbl nt S L kept p fr frv →
    (∀ x ∈ p, ∀ o g u fr, Pend1 P c0 ops tbl nt S L kept x o g u fr → Pend1 P c0 ops tbl nt S' L' kept' x o g u fr) → PendR P c0 ops tbl nt S' L' kept' p fr frv
  | [], fr, h, _ => h
  | x :: p, fr, h, hk => by
    obtain ⟨ox, gx, vx, hx, h⟩ := h
    exact ⟨ox, gx, vx, hk x (by simp) _ _ _ _ hx, PendR.mono p _ h (fun y hy => hk y (by simp [hy]))⟩

theorem PendR.snoc {S : St} {L : Nat} {kept : Kept} {j : Nat} {oj : Oper} {gj : Gd} {v : Value} {frv : Fr} (hj : Pend1 P c0 ops tbl nt S L kept j oj gj v frv) :
    ∀ (p : List Nat) (fr : Fr), PendR P c0 ops tbl nt S L kept p fr frv → PendR P c0 ops tbl nt S L kept (p ++ [j]) fr (frv.putO oj.dst v)
  | [], fr, h => by subst h; exact ⟨oj, gj, v, hj, rfl⟩
  | x :: p, fr, h => by
    obtain ⟨ox, gx, vx, hx, h⟩ := h
    exact ⟨ox, gx, vx, hx, PendR.snoc hj p _ h⟩

theorem evR_pure {ro : RO} (h : ro.mem = false) (S S' : St) (fr : Fr) : evR S fr ro = evR S' fr ro := by
  cases ro <;> first | rfl | (simp [RO.mem] at h; done) | skip
  rename_i k x
  cases k <;> simp [RO.mem] at h <;> simp only [evR] <;> cases ev fr x <;> rfl

theorem run_of_evR {S : St} {fr : Fr} {o : Oper} {ro : RO} {v : Value} (hc : cR P o.op = some ro) (hv : evR S fr ro = some v) : Run P c0 S fr o v := fun _ hw => sound_R hc hw hv
theorem noSel_R {o : Oper} {ro : RO} (hc : cR P o.op = some ro) : ∀ cs b, o.op ≠ .select cs b := by
  intro cs b h
  rw [h] at hc
  simp [cR] at hc
theorem noSel_E {o : Oper} {eo : EO} (hc : cE P o.op = some eo) : ∀ cs b, o.op ≠ .select cs b := by
  intro cs b h
  rw [h] at hc
  simp [cE] at hc

theorem needK_mono {L L' x : Nat} (hL : ∀ e, L.testBit e = true → L'.testBit e = true) (h : needK P ops tbl L' x = true) : needK P ops tbl L x = true := by
  unfold needK at *
  rw [List.any_eq_true] at *
  obtain ⟨e, he, h⟩ := h
  refine ⟨e, he, ?_⟩
  simp only [Bool.and_eq_true, Bool.not_eq_true'] at h ⊢
  refine ⟨⟨?_, h.1.2⟩, h.2⟩
  cases hx : L.testBit e with
  | false => rfl
  | true => have := hL e hx; rw [h.1.1] at this; cases this

theorem testBit_set (L i j : Nat) : (L ||| 1 <<< i).testBit j = (L.testBit j || decide (i = j)) := by
  rw [Nat.testBit_or, Nat.one_shiftLeft, Nat.testBit_two_pow]

/-- where an execution of a drawn region stands, against the plan -/
structure Inv (P : Program) (c0 : World) (nt : Nat) (ops : Array Oper) (tbl : List Nat) (K : Fr → St → Prop) (fuelp : Nat) (L : Nat) (pend : List Nat) (plan : Plan) (fr frv : Fr) (S : St) (kept : Kept)
    (listed : Array Bool) (a : Act) (w : World) : Prop where
  frel : FRel nt fr a
  rel : Rel c0 S w
  size : listed.size = ops.size
  mask : ∀ j, j < ops.size → (listed.getD j true = true ↔ L.testBit j = true ∧ j ∉ pend)
  down : ∀ j o, ops[j]? = some o → listed.getD j false = true → ∀ e ∈ o.after, Region.binds .any e = true → listed.getD e.on false = true
  pendL : ∀ j ∈ pend, L.testBit j = true ∧ j < ops.size ∧ rdOf P ops j = true
  nodup : pend.Nodup
  pairs : pend.Pairwise fun x y => (tbl.getD y 0).testBit x = true ∨ apartI ops x y = true
  hp : PendR P c0 ops tbl nt S L kept pend fr frv
  hplan : anyPlan P nt ops tbl fuelp L = some plan
  ji : JI P K plan frv S kept

theorem getD_lt {listed : Array Bool} {j : Nat} (h : j < listed.size) (b c : Bool) : listed.getD j b = listed.getD j c := by simp [h]

theorem down_set {listed : Array Bool} {j : Nat} {o : Oper} (ho : ops[j]? = some o) (hall : ∀ e ∈ o.after, Region.binds .any e = true → listed.getD e.on false = true)
    (hd : ∀ j o, ops[j]? = some o → listed.getD j false = true → ∀ e ∈ o.after, Region.binds .any e = true → listed.getD e.on false = true) :
    ∀ k o, ops[k]? = some o → (listed.setIfInBounds j true).getD k false = true → ∀ e ∈ o.after, Region.binds .any e = true → (listed.setIfInBounds j true).getD e.on false = true := by
  intro k ok hk hl e he hb
  by_cases hjk : j = k
  · subst hjk
    rw [ho] at hk
    injection hk with hk
    subst hk
    exact getD_set_true (hall e he hb)
  · rw [getD_set_ne false hjk] at hl
    exact getD_set_true (hd k ok hk hl e he hb)

theorem alt_head {S : St} {kept : Kept} {L : Nat} {next : Nat → Option Plan} {frv : Fr} {j : Nat} : ∀ (hs : List Nat) (plan : Plan), hs.foldr (altStep P nt ops tbl L next) (some .none) = some plan → JI P K plan frv S kept → j ∈ hs →
    ∃ o g eo rest, ops[j]? = some o ∧ gdOf ops o = some g ∧ cE P o.op = some eo ∧ next (L ||| 1 <<< j) = some rest ∧ dstOk nt o = true ∧ confOk P ops tbl L j = true ∧
      ((wantF frv g = true → JE P frv S (fun v S' => (∀ q ∈ keepOf (keepL P ops tbl L j) kept, q.2 S') ∧ JI P K rest (frv.putO o.dst v) S' (keepOf (keepL P ops tbl L j) kept)) eo) ∧
       (wantF frv g = false → JI P K rest (frv.putO o.dst undef) S kept))
  | [], _, _, _, h => by cases h
  | x :: hs, plan, hp, hj, hm => by
    simp only [List.foldr_cons] at hp
    unfold altStep at hp
    cases ho : ops[x]? with
    | none => simp [ho] at hp
    | some o =>
      simp only [ho] at hp
      split at hp
      · rename_i g eo rest other hg he hn hacc
        split at hp
        · rename_i hd
          simp only [Bool.and_eq_true] at hd
          injection hp with hp
          subst hp
          obtain ⟨h1, h2⟩ := hj
          rcases List.mem_cons.1 hm with rfl | hm
          · exact ⟨o, g, eo, rest, ho, hg, he, hn, hd.1, hd.2, h1⟩
          · exact alt_head hs other hacc h2 hm
        · simp at hp
      · simp at hp

theorem confOk_spec {L i x : Nat} (h : confOk P ops tbl L i = true) (hx : x < ops.size) (hL : L.testBit x = true) (hr : rdOf P ops x = true) : (tbl.getD i 0).testBit x = true ∨ apartI ops x i = true := by
  unfold confOk at h
  have := List.all_eq_true.1 h x (by simp [hx])
  simpa [hL, hr] using this


/-- Reads are taken as early as may be. -/
theorem Inv.adv : ∀ (fuelp L : Nat) (pend : List Nat) (plan : Plan) (fr frv : Fr) (S : St) (kept : Kept) (listed : Array Bool) (a : Act) (w : World),
    Inv P c0 nt ops tbl K fuelp L pend plan fr frv S kept listed a w →
    ∃ fuelp' L' pend' plan' frv' kept', Inv P c0 nt ops tbl K (fuelp' + 1) L' pend' plan' fr frv' S kept' listed a w ∧
      ((List.range ops.size).find? fun i => !L'.testBit i && rdOf P ops i && readyL ops L' i) = none := by
  intro fuelp
  induction fuelp with
  | zero => intro L pend plan fr frv S kept listed a w h; have := h.hplan; simp [anyPlan] at this
  | succ fuelp ih =>
    intro L pend plan fr frv S kept listed a w h
    cases hf : (List.range ops.size).find? fun i => !L.testBit i && rdOf P ops i && readyL ops L i with
    | none => exact ⟨fuelp, L, pend, plan, frv, kept, h, hf⟩
    | some i =>
      have hp := h.hplan
      simp only [anyPlan, hf] at hp
      have hi := List.find?_some hf
      have hin : i < ops.size := by simpa using List.mem_of_find?_eq_some hf
      simp only [Bool.and_eq_true, Bool.not_eq_true'] at hi
      obtain ⟨⟨hLi, hrd⟩, -⟩ := hi
      cases ho : ops[i]? with
      | none => simp [ho] at hp
      | some o =>
        simp only [ho] at hp
        split at hp
        · rename_i g ro rest hg hc hn
          split at hp
          · rename_i hd
            simp only [Bool.and_eq_true] at hd
            injection hp with hp
            subst hp
            have hnp : i ∉ pend := fun hm => by have := (h.pendL i hm).1; rw [hLi] at this; cases this
            have hLL : ∀ e, L.testBit e = true → (L ||| 1 <<< i).testBit e = true := fun e he => by rw [testBit_set, he]; rfl
            have hmask : ∀ j, j < ops.size → (listed.getD j true = true ↔ (L ||| 1 <<< i).testBit j = true ∧ j ∉ pend ++ [i]) := by
              intro j hj
              rw [h.mask j hj, testBit_set]
              by_cases hij : i = j
              · subst hij; simp [hLi]
              · have : j ≠ i := fun e => hij e.symm
                simp [hij, this]
            have hpl : ∀ j ∈ pend ++ [i], (L ||| 1 <<< i).testBit j = true ∧ j < ops.size ∧ rdOf P ops j = true := by
              intro j hj
              rcases List.mem_append.1 hj with hj | hj
              · obtain ⟨h1, h2, h3⟩ := h.pendL j hj
                exact ⟨hLL j h1, h2, h3⟩
              · simp at hj
                subst hj
                exact ⟨by rw [testBit_set]; simp, hin, hrd⟩
            have hnd : (pend ++ [i]).Nodup := by
              rw [List.nodup_append]
              exact ⟨h.nodup, by simp, fun x hx y hy hxy => by simp at hy; subst hy; subst hxy; exact hnp hx⟩
            have hpw : (pend ++ [i]).Pairwise fun x y => (tbl.getD y 0).testBit x = true ∨ apartI ops x y = true := by
              rw [List.pairwise_append]
              refine ⟨h.pairs, by simp, fun x hx y hy => ?_⟩
              simp at hy
              subst hy
              obtain ⟨h1, h2, h3⟩ := h.pendL x hx
              exact confOk_spec hd.2 h2 h1 h3
            have hji := h.ji
            obtain ⟨hj1, hj2⟩ := hji
            have step : ∀ (v : Value) (kept' : Kept), (∀ q ∈ kept, q ∈ kept') → Pend1 P c0 ops tbl nt S (L ||| 1 <<< i) kept' i o g v frv → JI P K rest (frv.putO o.dst v) S kept' →
                ∃ fuelp' L' pend' plan' frv' kept', Inv P c0 nt ops tbl K (fuelp' + 1) L' pend' plan' fr frv' S kept' listed a w ∧
                ((List.range ops.size).find? fun i => !L'.testBit i && rdOf P ops i && readyL ops L' i) = none := by
              intro v kept' hsub hp1 hj
              refine ih _ (pend ++ [i]) rest fr (frv.putO o.dst v) S kept' listed a w ⟨h.frel, h.rel, h.size, hmask, h.down, hpl, hnd, hpw, ?_, hn, hj⟩
              refine PendR.snoc hp1 pend fr (PendR.mono pend fr h.hp fun x _ o' g' u fr' hx => ?_)
              obtain ⟨b1, b2, b3, b4, b5⟩ := hx
              refine ⟨b1, b2, b3, b4, b5.imp (fun ⟨c1, c2, c3⟩ => ⟨c1, c2, fun hk S' hq => c3 (needK_mono hLL hk) S' fun q hqk => hq q (hsub q hqk)⟩) id⟩
            cases hw : wantF frv g with
            | true =>
              obtain ⟨v, hv, hj⟩ := hj1 hw
              refine step v _ ?_ ?_ hj
              · intro q hq
                split
                · simp [hq]
                · exact hq
              · refine ⟨ho, hg, noSel_R hc, hd.1, .inl ⟨hw, run_of_evR hc hv, fun hk S' hq => ?_⟩⟩
                cases hm : ro.mem with
                | true => exact run_of_evR hc (hq (i, fun S' => evR S' frv ro = some v) (by simp [hm, hk]) rfl)
                | false => exact run_of_evR hc (by rw [evR_pure hm S' S]; exact hv)
            | false => exact step undef kept (fun q hq => hq) ⟨ho, hg, noSel_R hc, hd.1, .inr ⟨hw, rfl⟩⟩ (hj2 hw)
          · simp at hp
        · simp at hp

theorem count_lt {listed : Array Bool} {n j : Nat} (hn : listed.size = n) (hj : j < n) (hl : listed.getD j true = false) :
    ((List.range n).filter fun k => !(listed.setIfInBounds j true).getD k true).length < ((List.range n).filter fun k => !listed.getD k true).length := by
  have key : ∀ l : List Nat, j ∈ l → (l.filter fun k => !(listed.setIfInBounds j true).getD k true).length < (l.filter fun k => !listed.getD k true).length ∧ True := by
    intro l
    have hle : ∀ l : List Nat, (l.filter fun k => !(listed.setIfInBounds j true).getD k true).length ≤ (l.filter fun k => !listed.getD k true).length := by
      intro l
      induction l with
      | nil => simp
      | cons x l ih =>
        by_cases hx : j = x
        · subst hx
          have h1 : (listed.setIfInBounds j true).getD j true = true := by simp [hn, hj]
          simp only [List.filter_cons, h1, hl]
          simp
          simpa using Nat.le_succ_of_le ih
        · simp only [List.filter_cons, getD_set_ne true hx]
          split <;> simp <;> simpa using ih
    induction l with
    | nil => intro h; cases h
    | cons x l ih =>
      intro hm
      refine ⟨?_, trivial⟩
      by_cases hx : j = x
      · subst hx
        have h1 : (listed.setIfInBounds j true).getD j true = true := by simp [hn, hj]
        have := hle l
        simp only [List.filter_cons, h1, hl]
        simp
        simpa using Nat.lt_succ_of_le this
      · have hm' : j ∈ l := by
          rcases List.mem_cons.1 hm with h | h
          · exact absurd h hx
          · exact h
        have := (ih hm').1
        simp only [List.filter_cons, getD_set_ne true hx]
        split <;> simp <;> simpa using this
  exact (key _ (by simp [hj])).1

theorem Inv.fin {fuelp L : Nat} {pend : List Nat} {plan : Plan} {fr frv : Fr} {S : St} {kept : Kept} {listed : Array Bool} {a : Act} {w : World}
    (hQ : ∀ a w fr S, FRel nt fr a → Rel c0 S w → K fr S → Q .normal a w)
    (h : Inv P c0 nt ops tbl K (fuelp + 1) L pend plan fr frv S kept listed a w) (hf : ((List.range ops.size).find? fun i => !L.testBit i && rdOf P ops i && readyL ops L i) = none)
    (hall : ∀ j, j < ops.size → listed.getD j true = true) : Q .normal a w := by
  have hpend : pend = [] := by
    cases pend with
    | nil => rfl
    | cons x l =>
      have h1 := (h.pendL x (by simp)).2.1
      have h2 := (h.mask x h1).1 (hall x h1)
      simp at h2
  subst hpend
  have hL : ((List.range ops.size).all fun i => L.testBit i) = true := by
    rw [List.all_eq_true]
    intro x hx
    have hx' : x < ops.size := by simpa using hx
    exact ((h.mask x hx').1 (hall x hx')).1
  have hp := h.hplan
  simp only [anyPlan, hf, hL, if_true] at hp
  injection hp with hp
  subst hp
  have := h.hp
  simp only [PendR] at this
  subst this
  exact hQ _ _ _ _ h.frel h.rel h.ji

theorem any_sound (ht : tblOk ops tbl = true) (hQ : ∀ a w fr S, FRel nt fr a → Rel c0 S w → K fr S → Q .normal a w) :
    ∀ (fuel : Nat) (fuelp L : Nat) (pend : List Nat) (plan : Plan) (fr frv : Fr) (S : St) (kept : Kept) (listed : Array Bool) (a : Act) (w : World),
      Inv P c0 nt ops tbl K fuelp L pend plan fr frv S kept listed a w → ((List.range ops.size).filter fun j => !listed.getD j true).length ≤ fuel → wpAny P .any ops Q fuel listed a w := by
  intro fuel
  induction fuel with
  | zero =>
    intro fuelp L pend plan fr frv S kept listed a w h hc
    obtain ⟨fuelp, L, pend, plan, frv, kept, h, hf⟩ := h.adv
    have hall : ∀ j, j < ops.size → listed.getD j true = true := by
      intro j hj
      cases hx : listed.getD j true with
      | true => rfl
      | false =>
        have : j ∈ (List.range ops.size).filter fun j => !listed.getD j true := by
          rw [List.mem_filter]
          exact ⟨by simp [hj], by simp only [hx]; rfl⟩
        have := List.length_pos_of_mem this
        omega
    refine ⟨?_, h.fin hQ hf hall⟩
    cases hr : Region.ready .any ops listed with
    | nil => rfl
    | cons x l =>
      have hx : x ∈ Region.ready .any ops listed := by rw [hr]; simp
      obtain ⟨h1, o, ho, -⟩ := mem_ready.1 hx
      rw [hall x (Array.getElem?_eq_some_iff.1 ho).1] at h1
      cases h1
  | succ fuel ih =>
    intro fuelp L pend plan fr frv S kept listed a w h hc
    obtain ⟨fuelp, L, pend, plan, frv, kept, h, hf⟩ := h.adv
    refine ⟨fun hr => h.fin hQ hf (ready_nil ht h.size hr), fun j hj => ?_⟩
    obtain ⟨hjl, o, ho, hall⟩ := mem_ready.1 hj
    have hjn : j < ops.size := (Array.getElem?_eq_some_iff.1 ho).1
    have hcl := closed ht h.down j o ho hall
    have hpre : ∀ x ∈ pend, (tbl.getD j 0).testBit x = false := by
      intro x hx
      cases hb : (tbl.getD j 0).testBit x with
      | false => rfl
      | true =>
        have h1 := hcl x hb
        have h2 := (h.pendL x hx).2.1
        rw [getD_lt (by rw [h.size]; exact h2) false true] at h1
        exact absurd hx ((h.mask x h2).1 h1).2
    have hcount : ((List.range ops.size).filter fun k => !(listed.setIfInBounds j true).getD k true).length ≤ fuel := by
      have := count_lt h.size hjn hjl
      omega
    have hdown := down_set ho hall h.down
    have hsz : (listed.setIfInBounds j true).size = ops.size := by simp [h.size]
    have hjset : (listed.setIfInBounds j true).getD j true = true := by simp [h.size, hjn]
    cases hLj : L.testBit j with
    | true =>
      have hjp : j ∈ pend := by
        by_cases hm : j ∈ pend
        · exact hm
        · have := (h.mask j hjn).2 ⟨hLj, hm⟩
          rw [hjl] at this
          cases this
      obtain ⟨p1, p2, rfl⟩ := List.append_of_mem hjp
      have hap : ∀ x ∈ p1, apartI ops x j = true := by
        intro x hx
        have := (List.pairwise_append.1 h.pairs).2.2 x hx j (by simp)
        rcases this with h1 | h1
        · rw [hpre x (by simp [hx])] at h1; cases h1
        · exact h1
      obtain ⟨o', g, v, hp1, hp2⟩ := h.hp.pull p1 fr hap
      obtain ⟨b1, b2, b3, b4, b5⟩ := hp1
      rw [ho] at b1
      injection b1 with b1
      subst b1
      have hnd := h.nodup
      have hnj : j ∉ p1 ++ p2 := by
        rw [List.nodup_append] at hnd
        obtain ⟨n1, n2, n3⟩ := hnd
        rw [List.nodup_cons] at n2
        simp only [List.mem_append, not_or]
        exact ⟨fun hm => n3 j hm j (by simp) rfl, n2.1⟩
      have hinv : ∀ u, u = v → Inv P c0 nt ops tbl K (fuelp + 1) L (p1 ++ p2) plan (fr.putO o.dst u) frv S kept (listed.setIfInBounds j true) (a.put o.dst u) w := by
        intro u hu
        subst hu
        refine ⟨h.frel.put _ (dst_lt b4) _, h.rel, hsz, fun k hk => ?_, hdown, fun x hx => h.pendL x ?_, ?_, ?_, hp2, h.hplan, h.ji⟩
        · by_cases hjk : j = k
          · subst hjk
            simp only [hjset, true_iff]
            exact ⟨hLj, hnj⟩
          · rw [getD_set_ne true hjk, h.mask k hk]
            have : k ≠ j := fun e => hjk e.symm
            simp [this]
        · simp only [List.mem_append, List.mem_cons] at hx ⊢
          rcases hx with hx | hx
          · exact .inl hx
          · exact .inr (.inr hx)
        · rw [List.nodup_append] at hnd ⊢
          obtain ⟨n1, n2, n3⟩ := hnd
          exact ⟨n1, (List.nodup_cons.1 n2).2, fun x hx y hy => n3 x hx y (by simp [hy])⟩
        · have := h.pairs
          rw [List.pairwise_append] at this ⊢
          obtain ⟨n1, n2, n3⟩ := this
          exact ⟨n1, (List.pairwise_cons.1 n2).2, fun x hx y hy => n3 x hx y (by simp [hy])⟩
      unfold wpOp
      simp only [ho, wanted_eq b2 h.frel]
      rcases b5 with ⟨c1, c2, c3⟩ | ⟨c1, c2⟩
      · rw [if_pos c1]
        refine .inl ?_
        unfold Oper.wp
        rw [h.frel.eval, c2 w h.rel]
        exact ih _ _ _ _ _ _ _ _ _ _ _ (hinv v rfl) hcount
      · rw [if_neg (by rw [c1]; simp)]
        exact ih _ _ _ _ _ _ _ _ _ _ _ (hinv undef c2.symm) hcount
    | false =>
      have hnp : j ∉ pend := fun hm => by have := (h.pendL j hm).1; rw [hLj] at this; cases this
      have hnall : ¬ ((List.range ops.size).all fun i => L.testBit i) = true := by
        intro hx
        have := List.all_eq_true.1 hx j (by simp [hjn])
        rw [hLj] at this
        cases this
      have hp := h.hplan
      simp only [anyPlan, hf] at hp
      rw [if_neg hnall] at hp
      have hrl : readyL ops L j = true := by
        unfold readyL
        simp only [ho, List.all_eq_true]
        intro e he
        cases hb : Region.binds .any e with
        | false => rfl
        | true =>
          have he' : e ∈ o.after := by simpa using he
          have hlt := (tblOk_spec ht ho).2 e he' hb
          have h1 := hall e he' hb
          rw [getD_lt (by rw [h.size]; omega) false true] at h1
          have := ((h.mask e.on (by omega)).1 h1).1
          simp [this]
      have hmem : j ∈ heads ops L := by
        unfold heads
        rw [List.mem_filter]
        exact ⟨by simp [hjn], by simp [hLj, hrl]⟩
      have hnr : rdOf P ops j = false := by
        cases hx : rdOf P ops j with
        | false => rfl
        | true =>
          have := List.find?_eq_none.1 hf j (by simp [hjn])
          simp [hLj, hx, hrl] at this
      obtain ⟨o', g, eo, rest, b1, hg, hcE, hn, hd, hconf, hj1, hj2⟩ := alt_head _ _ hp h.ji hmem
      rw [ho] at b1
      injection b1 with b1
      subst b1
      have hap : ∀ x ∈ pend, apartI ops x j = true := by
        intro x hx
        obtain ⟨h1, h2, h3⟩ := h.pendL x hx
        rcases confOk_spec hconf h2 h1 h3 with h4 | h4
        · rw [hpre x hx] at h4; cases h4
        · exact h4
      obtain ⟨e1, e2⟩ := h.hp.thru ho hg (noSel_E hcE) pend fr hap
      have hLL : ∀ e, L.testBit e = true → (L ||| 1 <<< j).testBit e = true := fun e he => by rw [testBit_set, he]; rfl
      have hmask : ∀ k, k < ops.size → ((listed.setIfInBounds j true).getD k true = true ↔ (L ||| 1 <<< j).testBit k = true ∧ k ∉ pend) := by
        intro k hk
        rw [testBit_set]
        by_cases hjk : j = k
        · subst hjk
          simp [hnp, h.size, hjn]
        · rw [getD_set_ne true hjk, h.mask k hk]
          simp [hjk]
      have hpl : ∀ x ∈ pend, (L ||| 1 <<< j).testBit x = true ∧ x < ops.size ∧ rdOf P ops x = true := fun x hx => by
        obtain ⟨h1, h2, h3⟩ := h.pendL x hx
        exact ⟨hLL x h1, h2, h3⟩
      unfold wpOp
      simp only [ho, wanted_eq hg h.frel]
      cases hw : wantF fr g with
      | true =>
        rw [if_pos rfl]
        refine .inl ?_
        unfold Oper.wp
        rw [h.frel.eval, ← e1]
        refine (sound_E hcE h.rel (hj1 (by rw [e2, hw]))).upon fun v S' w' hr2 hk => ?_
        refine ih _ _ _ _ _ _ _ _ _ _ _ ⟨h.frel.put _ (dst_lt hd) _, hr2, hsz, hmask, hdown, hpl, h.nodup, h.pairs, ?_, hn, hk.2⟩ hcount
        refine PendR.push ho pend fr h.hp hap fun x hx o' g' u fr' hx1 => ?_
        obtain ⟨b1, b2, b3, b4, b5⟩ := hx1
        obtain ⟨h1, h2, h3⟩ := h.pendL x hx
        have hxk : (keepL P ops tbl L j).contains x = true := by
          simp only [keepL, List.contains_eq_mem, List.mem_filter, List.mem_range, decide_eq_true_eq]
          exact ⟨h2, by simp [h1, h3]; simpa using hpre x hx⟩
        have hsub : ∀ q ∈ kept, q.1 = x → q ∈ keepOf (keepL P ops tbl L j) kept := fun q hq hqx => by
          unfold keepOf
          rw [List.mem_filter]
          exact ⟨hq, by rw [hqx]; exact hxk⟩
        have hneed : needK P ops tbl L x = true := by
          unfold needK
          rw [List.any_eq_true]
          exact ⟨j, by simp [hjn], by simp only [hLj, hnr, hpre x hx]; rfl⟩
        refine ⟨b1, b2, b3, b4, b5.imp (fun ⟨c1, c2, c3⟩ => ⟨c1, c3 hneed S' fun q hq hqx => hk.1 q (hsub q hq hqx), fun _ S'' hq => c3 hneed S'' fun q hqk hqx => hq q (hsub q hqk hqx) hqx⟩) id⟩
      | false =>
        rw [if_neg (by simp)]
        refine ih _ _ _ _ _ _ _ _ _ _ _ ⟨h.frel.put _ (dst_lt hd) _, h.rel, hsz, hmask, hdown, hpl, h.nodup, h.pairs, ?_, hn, hj2 (by rw [e2, hw])⟩ hcount
        refine PendR.push ho pend fr h.hp hap fun x hx o' g' u fr' hx1 => ?_
        obtain ⟨b1, b2, b3, b4, b5⟩ := hx1
        exact ⟨b1, b2, b3, b4, b5.imp (fun ⟨c1, c2, c3⟩ => ⟨c1, c2, fun hk S'' hq => c3 (needK_mono hLL hk) S'' hq⟩) id⟩

/-- A region by its plan. -/
theorem sound_region (hm : P.follows .mixedOrders = true) {id : Nat} {drawn : Bool} {plan : Plan} {fr : Fr} {S : St} {a : Act} {w : World} (hp : cRegion P nt ops drawn = some plan)
    (hj : JI P K plan fr S []) (hf : FRel nt fr a) (hr : Rel c0 S w) (hQ : ∀ a w fr S, FRel nt fr a → Rel c0 S w → K fr S → Q .normal a w) : (Code.region id ops drawn).wp P Q a w := by
  unfold cRegion at hp
  cases drawn with
  | false => exact wp_region (text_sound hQ _ plan fr S [] a w (by simpa using hp) hj hf hr)
  | true =>
    simp only [if_true] at hp
    split at hp
    · rename_i ht
      refine wp_region_any hm (any_sound ht hQ ops.size (ops.size + 1) 0 [] plan fr fr S [] _ a _ ⟨hf, hr.drew, by simp, fun j hj => ?_, fun j o ho hl => ?_, by simp, by simp, by simp, rfl, hp, hj⟩ ?_)
      · simp [hj]
      · exfalso
        simp only [Array.getD_eq_getD_getElem?, Array.getElem?_replicate] at hl
        split at hl <;> simp at hl
      · refine Nat.le_trans (List.length_filter_le _ _) (by simp)
    · simp at hp
end
end Go.Osj
