/- A small logic over the model: views of parts of memory ('St'), frames as functions, operations that only read ('RO'), and that they run as they say. -/
import Derived.Orders
import Derived.WalkKit
import Derived.WalkSpells
import Derived.WalkLawsBesides
namespace Go.Osj
open Go.RowKit

/-- What is known of a block: its first cells; a map's entries; an iterator. 'rw': it is the call's own, and may be written. -/
inductive AObj where
  | cells (rw : Bool) (cap : Nat) (cs : List Value)
  | map (rw : Bool) (ms : List MapEntry) (clock : Nat)
  | iter (m : Option Nat) (since : Nat) (seen : Array Nat) (last : Nat)
  | siter (s : ByteArray) (pos : Nat)

/-- A view of a part of memory: below n. -/
structure St where
  n : Nat
  obj : Nat → Option AObj

def St.put (S : St) (b : Nat) (o : AObj) : St := { n := max S.n (b + 1), obj := fun i => if i = b then some o else S.obj i }
theorem St.put_n (S : St) (b : Nat) (o : AObj) : (S.put b o).n = max S.n (b + 1) := rfl
theorem St.put_obj (S : St) (b : Nat) (o : AObj) (i : Nat) : (S.put b o).obj i = if i = b then some o else S.obj i := rfl
theorem St.put_same (S : St) (b : Nat) (o : AObj) : (S.put b o).obj b = some o := if_pos rfl
theorem St.put_other (S : St) (b : Nat) (o : AObj) {i : Nat} (h : i ≠ b) : (S.put b o).obj i = S.obj i := if_neg h

def kv (ms : List MapEntry) : List (Value × Value) := ms.map fun e => (e.key, e.val)
def Holds (B : Nat) (w : World) (b : Nat) : AObj → Prop
  | .cells rw cap cs => ∃ c e lo hi, w.heap[b]? = some (.cells c e (lo, hi)) ∧ cap ≤ c.size ∧ cs.length ≤ cap ∧ c.toList.take cs.length = cs ∧ (rw = true → B ≤ b ∧ ∀ i, i < c.size → ¬ (lo ≤ i ∧ i < hi))
  | .map rw ms clock => w.heap[b]? = some (.map ms.toArray clock) ∧ (rw = true → B ≤ b)
  | .iter m since seen last => w.heap[b]? = some (.mapIter m since seen last) ∧ B ≤ b
  | .siter s pos => w.heap[b]? = some (.stringIter s pos) ∧ B ≤ b

/-- The view holds in the world; below the blocks of 'c0' the world is as c0. -/
structure Rel (c0 : World) (S : St) (w : World) : Prop where
  below : Below c0.heap.size c0 w
  base : c0.heap.size ≤ S.n
  size : S.n ≤ w.heap.size
  obj : ∀ b o, S.obj b = some o → b < S.n ∧ Holds c0.heap.size w b o
  drawn : c0.drawn ≤ w.drawn

def St.cell (S : St) (a : Addr) : Option Value :=
  match a.spot, S.obj a.block with
  | none, some (.cells _ _ cs) => cs[a.off]?
  | _, _ => none

theorem take_get {c : Array Value} {cs : List Value} (h : c.toList.take cs.length = cs) {i : Nat} {v : Value} (hv : cs[i]? = some v) : c[i]? = some v := by
  have hi : i < cs.length := (List.getElem?_eq_some_iff.1 hv).1
  rw [← h, List.getElem?_take, if_pos hi] at hv
  simpa using hv

theorem Rel.cell {c0 w : World} {S : St} (h : Rel c0 S w) {a : Addr} {v : Value} (hc : S.cell a = some v) : w.cell? a = some v := by
  unfold St.cell at hc
  cases hs : a.spot with
  | some x => simp [hs] at hc
  | none =>
    cases ho : S.obj a.block with
    | none => simp [hs, ho] at hc
    | some o =>
      cases o with
      | cells rw cap cs =>
        simp only [hs, ho] at hc
        obtain ⟨_, c, e, lo, hi, hw, hl, _, ht, _⟩ := h.obj _ _ ho
        unfold World.cell?
        rw [hw]
        simp only [hs, Option.isSome_none, Bool.false_eq_true, if_false]
        exact take_get ht hc
      | map rw ms cl => simp [hs, ho] at hc
      | iter m a b c => simp [hs, ho] at hc
      | siter s p => simp [hs, ho] at hc

/-- n cells from an address on. -/
def St.loadN (S : St) (a : Addr) (n : Nat) : Option (List Value) :=
  match a.spot, S.obj a.block with
  | none, some (.cells _ _ cs) => if a.off + n ≤ cs.length then some ((cs.drop a.off).take n) else none
  | _, _ => none

theorem add_none (a : Addr) (h : a.spot = none) (j : Nat) : a.add j = ⟨a.block, a.off + j, none⟩ := by
  obtain ⟨b, o, s⟩ := a
  simp only at h
  subst h
  unfold Addr.add
  split
  · rename_i hj; subst hj; rfl
  · rfl

theorem Rel.loadN {c0 w : World} {S : St} (h : Rel c0 S w) {a : Addr} {n : Nat} {vs : List Value} (hc : S.loadN a n = some vs) :
    vs.length = n ∧ ∀ j v, vs[j]? = some v → w.cell? (a.add j) = some v := by
  unfold St.loadN at hc
  cases hs : a.spot with
  | some x => simp [hs] at hc
  | none =>
    cases ho : S.obj a.block with
    | none => simp [hs, ho] at hc
    | some o =>
      cases o with
      | map rw ms cl => simp [hs, ho] at hc
      | iter m a b c => simp [hs, ho] at hc
      | siter s p => simp [hs, ho] at hc
      | cells rw cap cs =>
        simp only [hs, ho] at hc
        split at hc
        · rename_i hle
          injection hc with hc
          subst hc
          refine ⟨by simp; omega, fun j v hv => ?_⟩
          rw [List.getElem?_take] at hv
          split at hv
          · rw [List.getElem?_drop] at hv
            rw [add_none a hs]
            exact h.cell (a := ⟨a.block, a.off + j, none⟩) (by simp only [St.cell, ho]; exact hv)
          · cases hv
        · cases hc

abbrev Fr := Nat → Value
def Fr.put (fr : Fr) (d : Nat) (v : Value) : Fr := fun i => if i = d then v else fr i
def Fr.putO (fr : Fr) (d : Option Nat) (v : Value) : Fr := match d with | some d => fr.put d v | none => fr
def ev (fr : Fr) : Operand → Value
  | .tmp t => fr t
  | .const v => v
  | .global g => .pointer (some ⟨g, 0, none⟩)
  | .func f => .func (.func f) #[] #[]

structure FRel (nt : Nat) (fr : Fr) (a : Act) : Prop where
  defers : a.defers = []
  size : a.tmps.size = nt
  get : ∀ s, a.tmps.getD s undef = fr s

theorem FRel.eval {nt : Nat} {fr : Fr} {a : Act} (h : FRel nt fr a) : a.eval = ev fr := by
  funext x
  cases x with
  | tmp t => exact h.get t
  | _ => rfl

theorem FRel.put {nt : Nat} {fr : Fr} {a : Act} (h : FRel nt fr a) (d : Option Nat) (hd : ∀ x, d = some x → x < nt) (v : Value) : FRel nt (fr.putO d v) (a.put d v) := by
  cases d with
  | none => exact h
  | some x =>
    refine ⟨h.defers, by simp [Act.put, h.size], fun s => ?_⟩
    simp only [Act.put, Fr.putO, Fr.put, Array.getD_eq_getD_getElem?, Array.getElem?_setIfInBounds]
    by_cases hs : s = x
    · subst hs
      have := hd s rfl
      simp [h.size, this]
    · have := h.get s
      rw [Array.getD_eq_getD_getElem?] at this
      simp [hs, Ne.symm hs, this]

/-! ### operations that only read -/
/-- the kind of a plain cell -/
inductive PK where
  | i (k : IntKind)
  | s
  | b
  deriving DecidableEq, Repr
/-- the kind of a type: pointer, slice, map, function, string -/
inductive NK where
  | ptr | sl | mp | fn | str
  deriving DecidableEq, Repr
inductive RO where
  | mv (x : Operand)
  | pick (c a b : Operand)
  | bin (op : BinOp) (x y : Operand)
  | eqS (ks : List PK) (agg neq : Bool) (x y : Operand)
  | eqNil (k : NK) (neq : Bool) (x y : Operand)
  | un (op : UnOp) (x : Operand)
  | build (z : List Value) (parts : List (Nat × Nat × Operand))
  | fld (off n : Nat) (agg : Bool) (x : Operand)
  | fldA (off : Nat) (x : Operand)
  | nilC (x : Operand)
  | idxA (esz : Nat) (x i : Operand)
  | arrA (len esz : Nat) (x i : Operand)
  | idxS (x i : Operand)
  | ld1 (x : Operand)
  | ldn (n : Nat) (x : Operand)
  | len (k : NK) (x : Operand)
  | look (ks : List PK) (agg : Bool) (z : Value) (ok : Bool) (m k : Operand)
  | ext (i : Nat) (x : Operand)
  | sl (esz : Nat) (x : Operand) (lo hi mx : Option Operand)
  | slS (x : Operand) (lo hi : Option Operand)
  | convI (k : IntKind) (x : Operand)
  | convIS (x : Operand)
  | mkI (t : TypeId) (x : Operand)
  | mkF (fn : Fn) (first captured : List Operand)
  | maxI (mx : Bool) (x y : Operand)
  | capS (x : Operand)
  | bs (x : Operand)

def binI (op : BinOp) (k : IntKind) (a b : Int) : Option Value :=
  match op with
  | .add => some (.int k (k.wrap (a + b)))
  | .sub => some (.int k (k.wrap (a - b)))
  | .mul => some (.int k (k.wrap (a * b)))
  | .quo => if b = 0 then none else some (.int k (k.wrap (a.tdiv b)))
  | .rem => if b = 0 then none else some (.int k (a.tmod b))
  | .and | .or | .xor | .andNot => some (.int k (bits op k a b))
  | .eql => some (.bool (decide (a = b)))
  | .neq => some (.bool (!decide (a = b)))
  | .lss => some (.bool (decide (a < b)))
  | .leq => some (.bool (decide (a ≤ b)))
  | .gtr => some (.bool (decide (b < a)))
  | .geq => some (.bool (decide (b ≤ a)))
  | _ => none
def binS (op : BinOp) (a b : ByteArray) : Option Value :=
  match op with
  | .add => if a.size + b.size ≤ 9223372036854775807 then some (.string (a ++ b)) else none
  | .eql => some (.bool (a == b))
  | .neq => some (.bool (!(a == b)))
  | .lss => some (.bool (Op.bytesLess a.toList b.toList))
  | .leq => some (.bool (Op.bytesLess a.toList b.toList || a == b))
  | .gtr => some (.bool (!(Op.bytesLess a.toList b.toList || a == b)))
  | .geq => some (.bool (!Op.bytesLess a.toList b.toList))
  | _ => none
def binV (op : BinOp) (x y : Value) : Option Value :=
  match x, y with
  | .int k a, .int k' b =>
    match op with
    | .shl => if b < 0 then none else some (.int k (k.wrap (a * 2 ^ (min b.toNat k.bits))))
    | .shr => if b < 0 then none else some (.int k (a.fdiv (2 ^ (min b.toNat k.bits))))
    | _ => if k = k' then binI op k a b else none
  | .string a, .string b => binS op a b
  | _, _ => none
/-- plain cells, held against each other -/
def eqC : List PK → List Value → List Value → Option Bool
  | [], [], [] => some true
  | .i k :: ks, .int k1 a :: xs, .int k2 b :: ys => if k1 = k ∧ k2 = k then (eqC ks xs ys).map (decide (a = b) && ·) else none
  | .s :: ks, .string a :: xs, .string b :: ys => (eqC ks xs ys).map ((a == b) && ·)
  | .b :: ks, .bool a :: xs, .bool b :: ys => (eqC ks xs ys).map ((a == b) && ·)
  | _, _, _ => none
def eqN (k : NK) (x y : Value) : Option Bool :=
  match k, x, y with
  | .ptr, .pointer none, .pointer b => some b.isNone
  | .ptr, .pointer (some _), .pointer none => some false
  | .sl, .slice none _ _, .slice b _ _ => some b.isNone
  | .sl, .slice (some _) _ _, .slice none _ _ => some false
  | .mp, .map none, .map b => some b.isNone
  | .mp, .map (some _), .map none => some false
  | .fn, .nilFunc, .nilFunc => some true
  | .fn, .nilFunc, .func _ _ _ | .fn, .func _ _ _, .nilFunc => some false
  | _, _, _ => none
def fillC : List Value → List (Nat × Nat × Value) → Option (List Value)
  | cs, [] => some cs
  | cs, (off, n, v) :: r =>
    if v.cells.size = n ∧ off + n ≤ cs.length then fillC (cs.take off ++ v.cells.toList ++ cs.drop (off + n)) r else none
/-- two plain values of these cells ('agg': of a struct's type) -/
def eqV (ks : List PK) (agg : Bool) (x y : Value) : Option Bool :=
  match agg, x, y with
  | true, .agg xs, .agg ys => eqC ks xs.toList ys.toList
  | true, _, _ => none
  | false, x, y => eqC ks [x] [y]
/-- is it a plain value of these cells? -/
def okV (ks : List PK) (agg : Bool) (x : Value) : Bool := (eqV ks agg x x).isSome
/-- where a key stands among a map's entries -/
def mfind (ks : List PK) (agg : Bool) (k : Value) : List (Value × Value) → Option (Option (Nat × Value))
  | [] => some none
  | (k', v) :: r =>
    match eqV ks agg k k' with
    | some true => some (some (0, v))
    | some false => (mfind ks agg k r).map (·.map fun p => (p.1 + 1, p.2))
    | none => none
def evI (fr : Fr) (x : Operand) : Option Int := match ev fr x with | .int _ n => some n | _ => none
def bnd (fr : Fr) (y : Nat) (d : Nat) : Option Operand → Option Nat
  | none => some d
  | some x => match ev fr x with | .int _ n => if 0 ≤ n ∧ n ≤ y then some n.toNat else none | _ => none

/-- the upper bound of a slice expression -/
def bndH (fr : Fr) (m len : Nat) (hi mx : Option Operand) : Option Nat :=
  match hi with
  | none => if mx.isSome then none else some len
  | some _ => bnd fr m len hi

def bndV (y : Nat) (d : Nat) : Option Value → Option Nat
  | none => some d
  | some (.int _ n) => if 0 ≤ n ∧ n ≤ y then some n.toNat else none
  | _ => none
def bndHV (m len : Nat) (hi mx : Option Value) : Option Nat :=
  match hi with
  | none => if mx.isSome then none else some len
  | some _ => bndV m len hi
/-- a slice of a slice -/
def slV (esz : Nat) (x : Value) (lo hi mx : Option Value) : Option Value :=
  match x with
  | .slice (some a) len cap =>
    (bndV cap cap mx).bind fun m => (bndHV m len hi mx).bind fun h => (bndV h 0 lo).bind fun l =>
      if m = l then some (.slice (some a) (h - l) (m - l)) else
      match a.spot with
      | none => some (.slice (some ⟨a.block, a.off + l * esz, none⟩) (h - l) (m - l))
      | _ => none
  | .slice none len cap =>
    if len = 0 ∧ cap = 0 then (bndV 0 0 mx).bind fun m => (bndHV m 0 hi mx).bind fun h => (bndV h 0 lo).map fun _ => .slice none 0 0 else none
  | _ => none

/-- cells of bytes -/
def bytesV : List Value → Option (List UInt8)
  | [] => some []
  | .int .u8 n :: r => (bytesV r).map (UInt8.ofNat n.toNat :: ·)
  | _ => none

def evR (S : St) (fr : Fr) : RO → Option Value
  | .mv x => some (ev fr x)
  | .pick c a b => match ev fr c with | .bool t => some (if t then ev fr a else ev fr b) | _ => none
  | .bin op x y => binV op (ev fr x) (ev fr y)
  | .eqS ks agg neq x y => (eqV ks agg (ev fr x) (ev fr y)).map fun b => .bool (if neq then !b else b)
  | .eqNil k neq x y => (eqN k (ev fr x) (ev fr y)).map fun b => .bool (if neq then !b else b)
  | .un op x => match op, ev fr x with
    | .not, .bool b => some (.bool !b)
    | .neg, .int k n => some (.int k (k.wrap (0 - n)))
    | .xor, .int k n => some (.int k (bits .xor k (if k.signed then -1 else k.max) n))
    | _, _ => none
  | .build z ps => (fillC z (ps.map fun p => (p.1, p.2.1, ev fr p.2.2))).map fun cs => .agg cs.toArray
  | .fld off n agg x => match ev fr x with
    | .agg cs => if agg then (if off + n ≤ cs.size then some (.agg (cs.extract off (off + n))) else none) else cs[off]?
    | _ => none
  | .fldA off x => match ev fr x with | .pointer (some a) => (match a.spot with | none => some (.pointer (some ⟨a.block, a.off + off, none⟩)) | _ => none) | _ => none
  | .nilC x => match ev fr x with | .pointer (some a) => some (.pointer (some a)) | .func (.func f) a b => some (.func (.func f) a b) | _ => none
  | .idxA esz x i => match ev fr x, ev fr i with
    | .slice (some a) len _, .int _ n => (match a.spot with | none => if 0 ≤ n ∧ n < len then some (.pointer (some ⟨a.block, a.off + n.toNat * esz, none⟩)) else none | _ => none)
    | _, _ => none
  | .arrA len esz x i => match ev fr x, ev fr i with
    | .pointer (some a), .int _ n => (match a.spot with | none => if 0 ≤ n ∧ n < len then some (.pointer (some ⟨a.block, a.off + n.toNat * esz, none⟩)) else none | _ => none)
    | _, _ => none
  | .idxS x i => match ev fr x, ev fr i with
    | .string s, .int _ n => if 0 ≤ n then (s[n.toNat]?).map fun b => .int .u8 b.toNat else none
    | _, _ => none
  | .ld1 x => match ev fr x with | .pointer (some a) => S.cell a | _ => none
  | .ldn n x => match ev fr x with | .pointer (some a) => (S.loadN a n).map fun cs => .agg cs.toArray | _ => none
  | .len nk x => match nk, ev fr x with
    | .str, .string s => some (.int .i64 s.size)
    | .sl, .slice _ n _ => some (.int .i64 n)
    | .mp, .map none => some (.int .i64 0)
    | .mp, .map (some m) => match S.obj m with | some (.map _ ms _) => some (.int .i64 ms.length) | _ => none
    | _, _ => none
  | .look ks agg z ok m k =>
    if okV ks agg (ev fr k) = true then
      ((match ev fr m with
       | .map none => some none
       | .map (some b) => (match S.obj b with | some (.map _ ms _) => mfind ks agg (ev fr k) (kv ms) | _ => none)
       | _ => none) : Option (Option (Nat × Value))).map fun o => if ok then .tuple #[(o.map Prod.snd).getD z, .bool o.isSome] else (o.map Prod.snd).getD z
    else none
  | .ext i x => match ev fr x with | .tuple vs => vs[i]? | _ => none
  | .sl esz x lo hi mx => slV esz (ev fr x) (lo.map (ev fr)) (hi.map (ev fr)) (mx.map (ev fr))
  | .slS x lo hi => match ev fr x with
    | .string s => match (match hi with | none => some s.size | some _ => bnd fr s.size 0 hi) with
      | some h => (bnd fr h 0 lo).map fun l => .string (s.extract l h)
      | none => none
    | _ => none
  | .convI k x => match ev fr x with | .int _ n => some (.int k (k.wrap n)) | _ => none
  | .convIS x => match ev fr x with | .int _ n => some (.string (Utf8.encode n)) | _ => none
  | .mkI t x => some (.iface t (ev fr x))
  | .mkF fn first captured => some (.func fn (first.map (ev fr)).toArray (captured.map (ev fr)).toArray)
  | .maxI mx x y => match ev fr x, ev fr y with
    | .int k a, .int k' b => if k = k' then some (.int k (if mx then max a b else min a b)) else none
    | _, _ => none
  | .capS x => match ev fr x with | .slice _ _ c => some (.int .i64 c) | _ => none
  | .bs x => match ev fr x with
    | .slice none _ _ => some (.string .empty)
    | .slice (some a) n _ => if n = 0 then some (.string .empty) else (S.loadN a n).bind fun cs => (bytesV cs).map fun bs => .string ⟨bs.toArray⟩
    | _ => none
end Go.Osj
