/- Operations that only read: what each is compiled to, and that it runs so in every world in which the view holds. -/
import Derived.Test.YtfadbihdmohdiaaGreatDoorOsjA
namespace Go.Osj
open Go.RowKit

def isAggT (P : Program) (t : TypeId) : Option Bool :=
  match P.underlying t with
  | some (.struct _) | some (.array _ _) => some true
  | some _ => some false
  | none => none

/-- the fields of a struct lie in a row, each plain; their cells -/
def plainFs (pt : TypeId → Option (List PK)) : List Field → List PK → Option (List PK)
  | [], ks => some ks
  | f :: fs, ks => if f.name ≠ "_" ∧ f.offset = ks.length then (pt f.type).bind fun n => plainFs pt fs (ks ++ n) else none
/-- a type all of whose cells are numbers, texts and bools, in a row; these cells -/
def plainT (P : Program) : Nat → TypeId → Option (List PK)
  | 0, _ => none
  | d + 1, t =>
    match P.info? t with
    | none => none
    | some i =>
      match P.underlying t with
      | some (.int k) => if i.size = 1 then some [.i k] else none
      | some .string => if i.size = 1 then some [.s] else none
      | some .bool => if i.size = 1 then some [.b] else none
      | some (.struct fs) => if P.stoodInHeld t = true then none else (plainFs (plainT P d) fs.toList []).bind fun n => if i.size = n.length then some n else none
      | _ => none

def cR (P : Program) : Op → Option RO
  | .move x | .assign x => some (.mv x)
  | .pick c a b => some (.pick c a b)
  | .load t x =>
    match isAggT P t, P.info? t with
    | some true, some i => some (.ldn i.size x)
    | some false, some _ => some (.ld1 x)
    | _, _ => none
  | .build t parts =>
    match P.info? t, P.underlying t with
    | some it, some (.struct fields) =>
      match it.zero, fields.toList.mapM (fun f => (P.info? f.type).map fun i => (f.offset, i.size)) with
      | some z, some places => (parts.toList.mapM fun (p : Nat × Operand) => (places[p.1]?).map fun q => (q.1, q.2, p.2)).map (.build z.cells.toList ·)
      | _, _ => none
    | _, _ => none
  | .field t x f =>
    match P.underlying t with
    | some (.struct fields) =>
      match fields[f]? with
      | some g => match isAggT P g.type, P.info? g.type with
        | some b, some i => some (.fld g.offset i.size b x)
        | _, _ => none
      | none => none
    | _ => none
  | .fieldAddr t x f =>
    match P.underlying t with
    | some (.struct fields) =>
      match fields[f]? with
      | some g => match P.info? g.type with
        | some i => if i.size = 0 then none else some (.fldA g.offset x)
        | _ => none
      | none => none
    | _ => none
  | .nilCheck x => some (.nilC x)
  | .indexAddr t x i =>
    match P.underlying t with
    | some (.slice e) => (P.info? e).map fun j => .idxA j.size x i
    | some (.array n e) => (P.info? e).map fun j => .arrA n j.size x i
    | _ => none
  | .index t x i => match P.underlying t with | some .string => some (.idxS x i) | _ => none
  | .binOp op t x y _ =>
    match P.underlying t with
    | some (.int _) | some .string => some (.bin op x y)
    | some .bool => (match op with | .eql => some (.eqS [.b] false false x y) | .neq => some (.eqS [.b] false true x y) | _ => none)
    | some (.struct _) =>
      match plainT P 30 t, P.eqGuardType P.depth t with
      | some n, false => (match op with | .eql => some (.eqS n true false x y) | .neq => some (.eqS n true true x y) | _ => none)
      | _, _ => none
    | some (.pointer _) => (match op with | .eql => some (.eqNil .ptr false x y) | .neq => some (.eqNil .ptr true x y) | _ => none)
    | some (.slice _) => (match op with | .eql => some (.eqNil .sl false x y) | .neq => some (.eqNil .sl true x y) | _ => none)
    | some (.map _ _) => (match op with | .eql => some (.eqNil .mp false x y) | .neq => some (.eqNil .mp true x y) | _ => none)
    | some (.func _ _ _) => (match op with | .eql => some (.eqNil .fn false x y) | .neq => some (.eqNil .fn true x y) | _ => none)
    | _ => none
  | .unOp op _ x => some (.un op x)
  | .convert src dst x =>
    match P.underlying src, P.underlying dst with
    | some (.int _), some (.int k) => some (.convI k x)
    | some (.int _), some .string => some (.convIS x)
    | some .string, some .string => none
    | some (.slice e), some .string => (match P.underlying e with | some (.int .u8) => some (.bs x) | _ => none)
    | _, _ => none
  | .makeInterface t x => match P.underlying t with | some (.interface _) => none | some _ => some (.mkI t x) | none => none
  | .makeFunc fn first captured => some (.mkF fn first.toList captured.toList)
  | .slice t x lo hi mx =>
    match P.underlying t with
    | some (.slice e) => (P.info? e).map fun j => .sl j.size x lo hi mx
    | some .string => if mx.isSome then none else some (.slS x lo hi)
    | _ => none
  | .lookup t m k ok =>
    match P.underlying t with
    | some (.map kt e) =>
      match plainT P 30 kt, isAggT P kt, (P.info? e).bind (·.zero) with
      | some n, some b, some z => some (.look n b z ok m k)
      | _, _, _ => none
    | _ => none
  | .extract x i => some (.ext i x)
  | .call c =>
    match c.callee, c.args.toList, c.argTypes.toList with
    | .builtin .cap, [x], [t] => (match P.underlying t with | some (.slice _) => some (.capS x) | _ => none)
    | .builtin .len, [x], [t] =>
      (match P.underlying t with
       | some .string => some (.len .str x)
       | some (.slice _) => some (.len .sl x)
       | some (.map _ _) => some (.len .mp x)
       | _ => none)
    | .builtin .max, [x, y], _ => some (.maxI true x y)
    | .builtin .min, [x, y], _ => some (.maxI false x y)
    | _, _, _ => none
  | _ => none

section
variable {P : Program} {c0 w : World} {S : St} {fr : Fr}

theorem run_sizeOf {P : Program} {t : TypeId} {i : TypeInfo} (h : P.info? t = some i) (w : World) : (sizeOf t).run P w = .ok i.size w := by simp [sizeOf, typeInfo, h]
theorem run_isAgg {P : Program} {t : TypeId} {b : Bool} (h : isAggT P t = some b) (w : World) : (isAgg t).run P w = .ok b w := by
  unfold isAggT at h
  cases hu : P.underlying t with
  | none => simp [hu] at h
  | some d => cases d <;> simp [hu] at h <;> subst h <;> simp [isAgg, run_underlying hu]

/-! ### equality of plain values -/
theorem eqC_append : ∀ {ks : List PK} {a b : List Value} (ks2 : List PK) (c d : List Value), a.length = ks.length → b.length = ks.length → eqC (ks ++ ks2) (a ++ c) (b ++ d) = (eqC ks a b).bind fun x => (eqC ks2 c d).map (x && ·)
  | [], [], [], ks2, c, d, _, _ => by simp [eqC]
  | [], _ :: _, _, _, _, _, h, _ => by simp at h
  | [], _, _ :: _, _, _, _, _, h => by simp at h
  | _ :: _, [], _, _, _, _, h, _ => by simp at h
  | _ :: _, _, [], _, _, _, _, h => by simp at h
  | k :: ks, x :: xs, y :: ys, ks2, c, d, h, h' => by
    have ih := eqC_append (ks := ks) (a := xs) (b := ys) ks2 c d (by simpa using h) (by simpa using h')
    cases k <;> cases x <;> cases y <;> simp only [List.cons_append, eqC, Option.bind_none]
    case i.int.int k0 k a k' b =>
      split
      · rw [ih]; cases eqC ks xs ys <;> cases eqC ks2 c d <;> simp [Bool.and_assoc]
      · rfl
    case b.bool.bool a b => rw [ih]; cases eqC ks xs ys <;> cases eqC ks2 c d <;> simp [Bool.and_assoc]
    case s.string.string a b => rw [ih]; cases eqC ks xs ys <;> cases eqC ks2 c d <;> simp [Bool.and_assoc]
theorem eqC_len : ∀ {ks : List PK} {a b : List Value} {x : Bool}, eqC ks a b = some x → a.length = ks.length ∧ b.length = ks.length
  | [], [], [], _, _ => by simp
  | [], [], _ :: _, _, h => by simp [eqC] at h
  | [], _ :: _, _, _, h => by simp [eqC] at h
  | k :: ks, [], _, _, h => by cases k <;> simp [eqC] at h
  | k :: ks, x :: _, [], _, h => by cases k <;> cases x <;> simp [eqC] at h
  | k :: ks, x :: xs, y :: ys, _, h => by
    have go : ∀ {z : Bool}, eqC ks xs ys = some z → (x :: xs).length = (k :: ks).length ∧ (y :: ys).length = (k :: ks).length := fun h => by
      have := eqC_len h; simp [this]
    cases k <;> cases x <;> cases y <;> simp only [eqC] at h <;> try (simp at h; done)
    all_goals (try split at h) <;> first | (simp at h; done) | (cases hh : eqC ks xs ys with
      | none => simp [hh] at h
      | some z => exact go hh)

/-- the value that lies in the cells cs, of type t -/
def ofCells (P : Program) (t : TypeId) (cs : List Value) : Value := if isAggT P t = some true then .agg cs.toArray else cs.getD 0 undef

theorem run_part {t : TypeId} {b : Bool} {i : TypeInfo} (hb : isAggT P t = some b) (hi : P.info? t = some i) (hb1 : b = false → i.size = 1) (xs : List Value) (off : Nat) (h : off + i.size ≤ xs.length) :
    (part t xs.toArray off).run P w = .ok (ofCells P t ((xs.drop off).take i.size)) w := by
  unfold part ofCells
  simp only [Sem.run_bind, run_isAgg hb, Result.andThen_ok, hb]
  cases b with
  | true =>
    simp only [if_true, Sem.run_bind, run_sizeOf hi, Result.andThen_ok, Sem.run_pure]
    congr 2
    apply Array.ext'
    simp
  | false =>
    have h1 := hb1 rfl
    have : xs.toArray[off]? = some ((xs.drop off).take i.size |>.getD 0 undef) := by
      rw [h1]
      have hlt : off < xs.length := by omega
      simp [List.getD, hlt]
    simp [this]

theorem plain_agg {d : Nat} {ks : List PK} {t : TypeId} (h : plainT P d t = some ks) : ∃ b i, isAggT P t = some b ∧ P.info? t = some i ∧ i.size = ks.length ∧ (b = false → i.size = 1) := by
  cases d with
  | zero => simp [plainT] at h
  | succ d =>
    unfold plainT at h
    cases hi : P.info? t with
    | none => simp [hi] at h
    | some i =>
      simp only [hi] at h
      unfold isAggT
      cases hu : P.underlying t with
      | none => simp [hu] at h
      | some u =>
        cases u <;> simp only [hu] at h <;> try (simp at h; done)
        case struct fs =>
          split at h
          · simp at h
          · cases hf : plainFs (plainT P d) fs.toList [] with
            | none => simp [hf] at h
            | some m =>
              simp only [hf, Option.bind_some] at h
              split at h
              · simp at h; subst h; exact ⟨true, i, rfl, rfl, by assumption, by simp⟩
              · simp at h
        all_goals
          split at h
          · simp at h; subst h; exact ⟨false, i, rfl, rfl, by simpa, fun _ => by assumption⟩
          · simp at h

theorem eqC_take {ks : List PK} {cx cy : List Value} {b : Bool} (k1 k2 : List PK) (hk : ks = k1 ++ k2) (h : eqC ks cx cy = some b) :
    ∃ x y, eqC k1 (cx.take k1.length) (cy.take k1.length) = some x ∧ eqC k2 (cx.drop k1.length) (cy.drop k1.length) = some y ∧ b = (x && y) := by
  subst hk
  obtain ⟨hx, hy⟩ := eqC_len h
  simp at hx hy
  have := eqC_append (ks := k1) (a := cx.take k1.length) (b := cy.take k1.length) k2 (cx.drop k1.length) (cy.drop k1.length) (by simp; omega) (by simp; omega)
  rw [List.take_append_drop, List.take_append_drop, h] at this
  cases h1 : eqC k1 (cx.take k1.length) (cy.take k1.length) with
  | none => simp [h1] at this
  | some x =>
    cases h2 : eqC k2 (cx.drop k1.length) (cy.drop k1.length) with
    | none => simp [h1, h2] at this
    | some y => simp [h1, h2] at this; exact ⟨x, y, rfl, rfl, this⟩

theorem plainFs_ge {pt : TypeId → Option (List PK)} : ∀ {fs : List Field} {off n : List PK}, plainFs pt fs off = some n → ∃ r, n = off ++ r
  | [], off, n, h => by simp [plainFs] at h; exact ⟨[], by simp [h]⟩
  | f :: fs, off, n, h => by
    simp only [plainFs] at h
    split at h
    · cases hp : pt f.type with
      | none => simp [hp] at h
      | some m => simp [hp] at h; obtain ⟨r, rfl⟩ := plainFs_ge h; exact ⟨m ++ r, by simp⟩
    · simp at h

/-- what is asked of a plain type at the operation '==' -/
theorem run_eqIn (d : Nat) : ∀ (D : Nat) (t : TypeId) (ks : List PK) (cx cy : List Value) (b : Bool) (w : World), d ≤ D → plainT P d t = some ks → eqC ks cx cy = some b →
    (Op.equalIn D t (ofCells P t cx) (ofCells P t cy)).run P w = .ok b w := by
  induction d with
  | zero => intro D t n cx cy b w _ h; simp [plainT] at h
  | succ d ih =>
    intro D t ks cx cy b w hD h hb
    obtain ⟨D, rfl⟩ : ∃ m, D = m + 1 := ⟨D - 1, by omega⟩
    obtain ⟨hx, hy⟩ := eqC_len hb
    unfold plainT at h
    cases hi : P.info? t with
    | none => simp [hi] at h
    | some i =>
      simp only [hi] at h
      cases hu : P.underlying t with
      | none => simp [hu] at h
      | some u =>
        cases u <;> simp only [hu] at h <;> try (simp at h; done)
        case struct fs =>
          have hag : isAggT P t = some true := by simp [isAggT, hu]
          split at h
          · simp at h
          · rename_i hs
            cases hf : plainFs (plainT P d) fs.toList [] with
            | none => simp [hf] at h
            | some m =>
              simp only [hf, Option.bind_some] at h
              split at h
              rotate_left
              · simp at h
              simp at h
              subst h
              simp only [ofCells, hag, if_true]
              have hfo : P.fieldsOf t = fs := by simp [Program.fieldsOf, hu]
              rw [run_equalIn_struct w D t _ _ (by rw [hfo]; exact hu) (by simpa using hs), hfo]
              have key : ∀ (l : List Field) (k1 k2 : List PK) (y : Bool) (w : World), m = k1 ++ k2 → plainFs (plainT P d) l k1 = some m → eqC k2 (cx.drop k1.length) (cy.drop k1.length) = some y → (Op.eqFields D cx.toArray cy.toArray l).run P w = .ok y w := by
                intro l
                induction l with
                | nil =>
                  intro k1 k2 y w hm h1 h2
                  simp only [plainFs, Option.some.injEq] at h1
                  subst h1
                  obtain rfl : k2 = [] := by simpa using hm
                  rw [List.drop_of_length_le (by omega), List.drop_of_length_le (by omega)] at h2
                  simp only [eqC, Option.some.injEq] at h2
                  subst h2
                  simp [Op.eqFields]
                | cons f l ihl =>
                  intro k1 k2 y w hm h1 h2
                  simp only [plainFs] at h1
                  split at h1
                  rotate_left
                  · simp at h1
                  rename_i hn
                  cases hp : plainT P d f.type with
                  | none => simp [hp] at h1
                  | some q =>
                    simp only [hp, Option.bind_some] at h1
                    obtain ⟨r, hr⟩ := plainFs_ge h1
                    obtain rfl : k2 = q ++ r := by rw [hm, List.append_assoc] at hr; exact List.append_cancel_left hr
                    obtain ⟨bf, jf, hbf, hjf, hsz, hb1⟩ := plain_agg hp
                    obtain ⟨x1, y1, e1, e2, rfl⟩ := eqC_take q r rfl h2
                    rw [List.drop_drop, List.drop_drop] at e2
                    have hlen : k1.length + q.length + r.length = m.length := by rw [hr]; simp; omega
                    have hpx := run_part (P := P) (w := w) hbf hjf hb1 cx k1.length (by omega)
                    have hpy := run_part (P := P) (w := w) hbf hjf hb1 cy k1.length (by omega)
                    have hq := ih D f.type q ((cx.drop k1.length).take q.length) ((cy.drop k1.length).take q.length) x1 w (by omega) hp e1
                    rw [hsz] at hpx hpy
                    rw [← hn.2] at hpx hpy hq
                    simp only [Op.eqFields, Sem.run_bind, Sem.run_ite, hpx, hpy, hq, Result.andThen_ok]
                    rw [if_pos hn.1]
                    cases x1 with
                    | false => simp
                    | true => simpa using ihl (k1 ++ q) r y1 w (by rw [hr]) h1 (by simpa using e2)
              exact key fs.toList [] m b w rfl hf (by simpa using hb)
        all_goals
          split at h
          rotate_left
          · simp at h
          simp at h
          subst h
          have hag : isAggT P t = some false := by simp [isAggT, hu]
          match cx, cy, hx, hy with
          | [x], [y], _, _ =>
            have e1 : ofCells P t [x] = x := by simp [ofCells, hag]
            have e2 : ofCells P t [y] = y := by simp [ofCells, hag]
            rw [e1, e2]
            cases x <;> cases y <;> simp only [eqC] at hb <;> try (simp at hb; done)
            all_goals first
              | (split at hb
                 · rename_i hk; obtain ⟨rfl, rfl⟩ := hk
                   simp at hb; subst hb
                   simp [Op.equalIn, run_underlying hu, BEq.beq]
                 · simp at hb)
              | (simp at hb; subst hb
                 simp [Op.equalIn, run_underlying hu])

theorem run_eqV {t : TypeId} {ks : List PK} {agg : Bool} {x y : Value} {b : Bool} (hp : plainT P 30 t = some ks) (hag : isAggT P t = some agg) (h : eqV ks agg x y = some b) (D : Nat) (hD : 30 ≤ D) (w : World) :
    (Op.equalIn D t x y).run P w = .ok b w := by
  cases agg with
  | true =>
    cases x <;> cases y <;> simp only [eqV] at h <;> try (simp at h; done)
    rename_i xs ys
    have := run_eqIn 30 D t ks xs.toList ys.toList b w hD hp h
    simpa [ofCells, hag] using this
  | false =>
    simp only [eqV] at h
    have := run_eqIn 30 D t ks [x] [y] b w hD hp h
    simpa [ofCells, hag] using this
end
end Go.Osj
