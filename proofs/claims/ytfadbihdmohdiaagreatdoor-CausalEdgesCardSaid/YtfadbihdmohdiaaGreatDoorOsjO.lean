/- Slices in a view: what one reads, one that a call owns, and appending to it. -/
import Derived.Test.YtfadbihdmohdiaaGreatDoorOsjN
namespace Go.Osj
open Go.RowKit

/-- how the values of a type lie in cells -/
structure Enc (α : Type) where
  enc : α → List Value
  k : Nat
  len : ∀ x, (enc x).length = k
  one : ∀ x, oneC (enc x) = true
  pos : 0 < k

section
variable {α β : Type} (E : Enc α)

def Enc.flat (xs : List α) : List Value := xs.flatMap E.enc
theorem Enc.flat_nil : E.flat [] = [] := rfl
theorem Enc.flat_cons (x : α) (xs : List α) : E.flat (x :: xs) = E.enc x ++ E.flat xs := rfl
theorem Enc.flat_append (xs ys : List α) : E.flat (xs ++ ys) = E.flat xs ++ E.flat ys := by simp [Enc.flat]
theorem Enc.flat_length (xs : List α) : (E.flat xs).length = xs.length * E.k := by
  induction xs with
  | nil => simp [Enc.flat]
  | cons x xs ih => rw [E.flat_cons, List.length_append, E.len, ih, List.length_cons, Nat.succ_mul]; omega
theorem Enc.flat_one (xs : List α) : oneC (E.flat xs) = true := by
  induction xs with
  | nil => rfl
  | cons x xs ih =>
    rw [E.flat_cons]
    have h := E.one x
    unfold oneC at *
    rw [List.all_append, h, ih]
    rfl
theorem Enc.flat_drop (xs : List α) (i : Nat) : (E.flat xs).drop (i * E.k) = E.flat (xs.drop i) := by
  induction i generalizing xs with
  | zero => simp
  | succ i ih =>
    cases xs with
    | nil => simp [Enc.flat]
    | cons x xs =>
      rw [E.flat_cons, List.drop_succ_cons, ← ih xs, Nat.succ_mul, Nat.add_comm, ← List.drop_drop]
      congr 1
      rw [← E.len x]
      exact List.drop_left
theorem Enc.flat_take (xs : List α) (i : Nat) : (E.flat xs).take (i * E.k) = E.flat (xs.take i) := by
  induction i generalizing xs with
  | zero => simp [Enc.flat]
  | succ i ih =>
    cases xs with
    | nil => simp [Enc.flat]
    | cons x xs =>
      rw [E.flat_cons, List.take_succ_cons, E.flat_cons, ← ih xs, Nat.succ_mul, Nat.add_comm]
      rw [← E.len x, List.take_append, List.take_of_length_le (by omega)]
      congr 2
      omega
theorem Enc.flat_at (xs : List α) (i : Nat) (x : α) (h : xs[i]? = some x) : ((E.flat xs).drop (i * E.k)).take E.k = E.enc x := by
  rw [E.flat_drop]
  have hd : xs.drop i = x :: xs.drop (i + 1) := by
    obtain ⟨hi, hx⟩ := List.getElem?_eq_some_iff.1 h
    rw [List.drop_eq_getElem_cons hi, hx]
  rw [hd, E.flat_cons, ← E.len x]
  exact List.take_left

/-- the value of one: an aggregate, or its only cell -/
theorem St.loadN_sub {S : St} {b off N k m : Nat} {cs : List Value} (h : S.loadN ⟨b, off, none⟩ N = some cs) (hk : k + m ≤ N) : S.loadN ⟨b, off + k, none⟩ m = some ((cs.drop k).take m) := by
  rw [St.loadN_def] at h ⊢
  cases ho : S.obj b with
  | none => simp [ho] at h
  | some o =>
    cases o with
    | cells rw cap c =>
      simp only [ho] at h ⊢
      split at h
      · rename_i hle
        injection h with h
        subst h
        rw [if_pos (by omega)]
        congr 1
        rw [List.drop_take, List.take_take, List.drop_drop]
        congr 1
        omega
      · simp at h
    | map _ _ _ => simp [ho] at h
    | iter _ _ _ _ => simp [ho] at h
    | siter _ _ => simp [ho] at h
theorem St.loadN_len {S : St} {b off N : Nat} {cs : List Value} (h : S.loadN ⟨b, off, none⟩ N = some cs) : cs.length = N := by
  rw [St.loadN_def] at h
  cases ho : S.obj b with
  | none => simp [ho] at h
  | some o =>
    cases o with
    | cells rw cap c =>
      simp only [ho] at h
      split at h
      · injection h with h
        subst h
        simp
        omega
      · simp at h
    | map _ _ _ => simp [ho] at h
    | iter _ _ _ _ => simp [ho] at h
    | siter _ _ => simp [ho] at h
theorem St.cell_sub {S : St} {b off N k : Nat} {cs : List Value} (h : S.loadN ⟨b, off, none⟩ N = some cs) (hk : k < N) : S.cell ⟨b, off + k, none⟩ = cs[k]? := by
  rw [St.loadN_def] at h
  rw [St.cell_def]
  cases ho : S.obj b with
  | none => simp [ho] at h
  | some o =>
    cases o with
    | cells rw cap c =>
      simp only [ho] at h ⊢
      split at h
      · injection h with h
        subst h
        rw [List.getElem?_take, if_pos hk, List.getElem?_drop]
      · simp at h
    | map _ _ _ => simp [ho] at h
    | iter _ _ _ _ => simp [ho] at h
    | siter _ _ => simp [ho] at h

/-- what every slice's base is like -/
def okB (base : Option Addr) (cap : Nat) : Prop := match base with | none => cap = 0 | some a => cap = 0 ∨ a.spot = none
/-- a slice that may be read: these elements -/
def SlT (S : St) (v : Value) (xs : List α) : Prop :=
  ∃ base cap, v = .slice base xs.length cap ∧ xs.length ≤ cap ∧ okB base cap ∧ (xs ≠ [] → ∃ b off, base = some ⟨b, off, none⟩ ∧ b < S.n ∧ S.loadN ⟨b, off, none⟩ (xs.length * E.k) = some (E.flat xs))

theorem SlT.congr {S S' : St} {v : Value} {xs : List α} (h : SlT E S v xs) (hn : S.n ≤ S'.n) (ho : ∀ b off l c, v = .slice (some ⟨b, off, none⟩) l c → b < S.n → S'.obj b = S.obj b) : SlT E S' v xs := by
  obtain ⟨base, cap, rfl, hc, hk, h⟩ := h
  refine ⟨base, cap, rfl, hc, hk, fun hx => ?_⟩
  obtain ⟨b, off, rfl, hb, hl⟩ := h hx
  refine ⟨b, off, rfl, by omega, ?_⟩
  rw [St.loadN_def, ho b off _ _ rfl hb, ← St.loadN_def]
  exact hl
theorem SlT.ext {S S' : St} {v : Value} {xs : List α} (h : SlT E S v xs) (he : S.Ext S') : SlT E S' v xs := h.congr E he.n fun b _ _ _ _ hb => he.obj b hb

/-- an element's place, read -/
theorem SlT.at {S : St} {base : Option Addr} {n cap : Nat} {xs : List α} (h : SlT E S (.slice base n cap) xs) {i : Nat} {x : α} (hi : xs[i]? = some x) :
    ∃ b off, base = some ⟨b, off, none⟩ ∧ b < S.n ∧ S.loadN ⟨b, off + i * E.k, none⟩ E.k = some (E.enc x) ∧ ∀ j, j < E.k → S.cell ⟨b, off + i * E.k + j, none⟩ = (E.enc x)[j]? := by
  obtain ⟨base', cap', he, -, -, h⟩ := h
  injection he with h1 h2 h3
  subst h1
  have hlt := (List.getElem?_eq_some_iff.1 hi).1
  obtain ⟨b, off, rfl, hb, hl⟩ := h (by intro e; subst e; simp at hi)
  have hle : i * E.k + E.k ≤ xs.length * E.k := by rw [← Nat.succ_mul]; exact Nat.mul_le_mul_right _ hlt
  have h4 := St.loadN_sub hl (k := i * E.k) (m := E.k) hle
  rw [E.flat_at xs i x hi] at h4
  exact ⟨b, off, rfl, hb, h4, fun j hj => St.cell_sub h4 hj⟩

theorem SlT.len {S : St} {v : Value} {xs : List α} (h : SlT E S v xs) : ∃ base cap, v = .slice base xs.length cap := let ⟨b, c, h, _⟩ := h; ⟨b, c, h⟩

/-- a slice of the call's own, in a block from B on: these elements, and room behind them -/
def OwnT (B : Nat) (S : St) (v : Value) (xs : List α) : Prop :=
  (xs = [] ∧ v = .slice none 0 0) ∨ ∃ b c, v = .slice (some ⟨b, 0, none⟩) xs.length c ∧ B ≤ b ∧ b < S.n ∧ xs.length ≤ c ∧ S.obj b = some (.cells true (c * E.k) (E.flat xs))

theorem OwnT.sl {B : Nat} {S : St} {v : Value} {xs : List α} (h : OwnT E B S v xs) : SlT E S v xs := by
  rcases h with ⟨rfl, rfl⟩ | ⟨b, c, rfl, _, hb, hc, ho⟩
  · exact ⟨none, 0, rfl, Nat.le_refl _, rfl, fun h => absurd rfl h⟩
  · refine ⟨_, c, rfl, hc, .inr rfl, fun _ => ⟨b, 0, rfl, hb, ?_⟩⟩
    rw [St.loadN_def, ho]
    simp only [E.flat_length, Nat.zero_add, Nat.le_refl, if_true, List.drop_zero, Option.some.injEq]
    rw [List.take_of_length_le (by rw [E.flat_length]; omega)]

theorem OwnT.nil (B : Nat) (S : St) : OwnT E B S (.slice none 0 0) ([] : List α) := .inl ⟨rfl, rfl⟩
theorem OwnT.mk {B : Nat} {S : St} {b c : Nat} {xs : List α} (hB : B ≤ b) (hb : b < S.n) (hc : xs.length ≤ c) (h : S.obj b = some (.cells true (c * E.k) (E.flat xs))) : OwnT E B S (.slice (some ⟨b, 0, none⟩) xs.length c) xs :=
  .inr ⟨b, c, rfl, hB, hb, hc, h⟩
theorem OwnT.mono {B B' : Nat} {S : St} {v : Value} {xs : List α} (h : OwnT E B S v xs) (hB : B' ≤ B) : OwnT E B' S v xs :=
  h.imp id fun ⟨b, c, h1, h2, h3⟩ => ⟨b, c, h1, by omega, h3⟩
theorem OwnT.congr {B : Nat} {S S' : St} {v : Value} {xs : List α} (h : OwnT E B S v xs) (hn : S.n ≤ S'.n) (ho : ∀ b l c, v = .slice (some ⟨b, 0, none⟩) l c → b < S.n → S'.obj b = S.obj b) : OwnT E B S' v xs := by
  rcases h with h | ⟨b, c, rfl, hB, hb, hc, h⟩
  · exact .inl h
  · exact .inr ⟨b, c, rfl, hB, by omega, hc, by rw [ho b _ _ rfl hb]; exact h⟩
theorem OwnT.ext {B : Nat} {S S' : St} {v : Value} {xs : List α} (h : OwnT E B S v xs) (he : S.Ext S') : OwnT E B S' v xs := h.congr E he.n fun b _ _ _ hb => he.obj b hb

/-- the block of a slice -/
def blkOf : Value → Option Nat
  | .slice (some a) _ _ => some a.block
  | .map (some b) => some b
  | .pointer (some a) => some a.block
  | _ => none

/-- nothing has changed but the block of v, and new blocks -/
structure St.But (v : Value) (S S' : St) : Prop where
  n : S.n ≤ S'.n
  obj : ∀ i, i < S.n → blkOf v ≠ some i → S'.obj i = S.obj i

theorem St.write_own {S : St} {b cap : Nat} {cs vs : List Value} (ho : S.obj b = some (.cells true cap cs)) (off : Nat) (h1 : off ≤ cs.length) (h2 : off + vs.length ≤ cap) :
    S.write ⟨b, off, none⟩ vs = some (S.put b (.cells true cap (wrote cs off vs))) := by
  unfold St.write
  simp [ho, h1, h2]
theorem wrote_end (cs vs : List Value) : wrote cs cs.length vs = cs ++ vs := by simp [wrote]

theorem SlT.news {S : St} {v : Value} {ys : List α} (hy : SlT E S v ys) : S.loadX E.k v = some (ys.length, E.flat ys) := by
  obtain ⟨bx, cx, rfl, -, -, hy⟩ := hy
  have hnews : S.loadSl E.k bx ys.length = some (E.flat ys) := by
    unfold St.loadSl
    split
    · rename_i h0
      have : ys = [] := by
        rcases Nat.mul_eq_zero.1 h0 with h | h
        · exact List.eq_nil_of_length_eq_zero h
        · have := E.pos; omega
      subst this
      rfl
    · rename_i h0
      obtain ⟨b, off, rfl, _, hl⟩ := hy (by intro e; subst e; simp at h0)
      exact hl
  simp only [St.loadX, hnews, Option.map_some]

/-- Appending to a slice of the call's own. -/
theorem wE_appX {P : Program} {fr : Fr} {B : Nat} {S : St} {k : KV} {s x : Operand} {sv : Value} {bytes : Nat} {xs ys : List α} (ho : OwnT E B S sv xs) (hy : S.loadX E.k (ev fr x) = some (ys.length, E.flat ys)) (hsv : ev fr s = sv) (hB : B ≤ S.n)
    (hb : (xs.length + ys.length) * bytes ≤ 140737488355328) (h63 : xs.length + ys.length ≤ 9223372036854775807)
    (hk : ∀ v S', OwnT E B S' v (xs ++ ys) → St.But sv S S' → (blkOf v = blkOf sv ∨ ∃ b, blkOf v = some b ∧ S.n ≤ b) → k.run v S') : @wE P (.app E.k bytes s x) fr S k := by
  subst hsv
  unfold wE
  simp only [JE]
  rcases ho with ⟨rfl, hs⟩ | ⟨b, c, hs, hBb, hbn, hcl, ho⟩
  · rw [hs]
    refine ⟨_, _, hy, fun hle => ?_, fun hlt => ?_⟩
    · have : ys = [] := List.eq_nil_of_length_eq_zero (by omega)
      subst this
      exact hk _ _ (.inl ⟨rfl, rfl⟩) ⟨Nat.le_refl _, fun _ _ _ => rfl⟩ (.inl (by rw [hs]; rfl))
    · refine ⟨[], by simp [St.loadSl], by simpa using hb, by simpa using h63, fun b' c' hb' hc' => ?_⟩
      refine hk _ _ ?_ ⟨by rw [St.put_n]; omega, fun i hi _ => St.put_other _ _ _ (by omega)⟩ (.inr ⟨b', rfl, hb'⟩)
      refine .inr ⟨b', c', by simp, by omega, St.lt_put_self _ _ _, by simpa using hc', ?_⟩
      rw [St.put_same]
      simp
  · rw [hs]
    refine ⟨_, _, hy, fun hle => ?_, fun hlt => ?_⟩
    · dsimp only
      split
      · rename_i h0
        have : ys = [] := by
          rcases Nat.mul_eq_zero.1 h0 with h | h
          · exact List.eq_nil_of_length_eq_zero h
          · have := E.pos; omega
        subst this
        refine hk _ _ (.inr ⟨b, c, by simp, hBb, hbn, by simpa using hcl, by simpa using ho⟩) ⟨Nat.le_refl _, fun _ _ _ => rfl⟩ (.inl (by rw [hs]; rfl))
      · refine ⟨E.flat_one ys, rfl, S.put b (.cells true (c * E.k) (wrote (E.flat xs) (xs.length * E.k) (E.flat ys))), ?_, ?_⟩
        · simp only [Nat.zero_add]
          refine St.write_own ho _ (by rw [E.flat_length]; exact Nat.le_refl _) ?_
          rw [E.flat_length, ← Nat.add_mul]
          exact Nat.mul_le_mul_right _ hle
        · refine hk _ _ ?_ ⟨by rw [St.put_n]; omega, fun i hi hne => St.put_other _ _ _ (fun e => hne (by rw [hs, e]; rfl))⟩ (.inl (by rw [hs]; rfl))
          refine .inr ⟨b, c, by simp, hBb, St.lt_put_self _ _ _, by simpa using hle, ?_⟩
          rw [St.put_same]
          congr 2
          have : xs.length * E.k = (E.flat xs).length := (E.flat_length xs).symm
          rw [this, wrote_end, E.flat_append]
    · have hold : S.loadSl E.k (some ⟨b, 0, none⟩) xs.length = some (E.flat xs) := by
        unfold St.loadSl
        split
        · rename_i h0
          have : xs = [] := by
            rcases Nat.mul_eq_zero.1 h0 with h | h
            · exact List.eq_nil_of_length_eq_zero h
            · have := E.pos; omega
          subst this
          rfl
        · dsimp only
          rw [St.loadN_def, ho]
          simp only [E.flat_length, Nat.zero_add, Nat.le_refl, if_true, List.drop_zero, Option.some.injEq]
          rw [List.take_of_length_le (by rw [E.flat_length]; omega)]
      refine ⟨E.flat xs, hold, hb, h63, fun b' c' hb' hc' => ?_⟩
      refine hk _ _ ?_ ⟨by rw [St.put_n]; omega, fun i hi _ => St.put_other _ _ _ (by omega)⟩ (.inr ⟨b', rfl, hb'⟩)
      refine .inr ⟨b', c', by simp, by omega, St.lt_put_self _ _ _, by simpa using hc', ?_⟩
      rw [St.put_same, E.flat_append]
theorem wE_app {P : Program} {fr : Fr} {B : Nat} {S : St} {k : KV} {s x : Operand} {sv xv : Value} {bytes : Nat} {xs ys : List α} (ho : OwnT E B S sv xs) (hy : SlT E S xv ys) (hsv : ev fr s = sv) (hxv : ev fr x = xv) (hB : B ≤ S.n)
    (hb : (xs.length + ys.length) * bytes ≤ 140737488355328) (h63 : xs.length + ys.length ≤ 9223372036854775807)
    (hk : ∀ v S', OwnT E B S' v (xs ++ ys) → St.But sv S S' → (blkOf v = blkOf sv ∨ ∃ b, blkOf v = some b ∧ S.n ≤ b) → k.run v S') : @wE P (.app E.k bytes s x) fr S k :=
  wE_appX E ho (by rw [hxv]; exact hy.news E) hsv hB hb h63 hk
end

/-! ### stores -/
theorem St.put_put (S : St) (b : Nat) (o o' : AObj) : (S.put b o).put b o' = S.put b o' := by
  unfold St.put
  congr 1
  · dsimp only
    omega
  · funext i
    dsimp only
    split <;> rfl
/-- a store of a value of n cells -/
def wst (x v : Value) (n : Nat) (S : St) [k : KV] : Prop :=
  match x with
  | .pointer (some a) => v.cells.size = n ∧ oneC v.cells.toList = true ∧ ∃ S', S.write a v.cells.toList = some S' ∧ k.run undef S'
  | _ => False
@[go_sem] theorem wE_st {P : Program} {fr : Fr} {S : St} {n : Nat} {x v : Operand} [k : KV] : wE P (.st n x v) fr S = wst (ev fr x) (ev fr v) n S := by
  unfold wE wst
  simp only [JE]
  cases ev fr x <;> rfl
theorem wst_of {S : St} {b off cap n : Nat} {cs : List Value} {v : Value} {k : KV} (ho : S.obj b = some (.cells true cap cs)) (h1 : v.cells.size = n) (h2 : oneC v.cells.toList = true) (h3 : off ≤ cs.length) (h4 : off + n ≤ cap)
    (hk : k.run undef (S.put b (.cells true cap (wrote cs off v.cells.toList)))) : @wst (.pointer (some ⟨b, off, none⟩)) v n S k :=
  ⟨h1, h2, _, St.write_own ho off h3 (by simpa [h1] using h4), hk⟩
@[go_sem] theorem wst_same {S : St} {b off cap n : Nat} {cs : List Value} {v : Value} [k : KV] :
    wst (.pointer (some ⟨b, off, none⟩)) v n (S.put b (.cells true cap cs)) =
      (v.cells.size = n ∧ oneC v.cells.toList = true ∧ off ≤ cs.length ∧ off + v.cells.toList.length ≤ cap ∧ k.run undef (S.put b (.cells true cap (wrote cs off v.cells.toList)))) := by
  apply propext
  constructor
  · rintro ⟨h1, h2, S', hs, hk⟩
    simp only [St.write, St.put_same] at hs
    split at hs
    · rename_i hle
      injection hs with hs
      subst hs
      rw [St.put_put] at hk
      exact ⟨h1, h2, hle.1, hle.2, hk⟩
    · simp at hs
  · rintro ⟨h1, h2, h3, h4, hk⟩
    refine ⟨h1, h2, _, ?_, hk⟩
    rw [St.write_own (St.put_same _ _ _) off h3 h4, St.put_put]
attribute [go_sem] oneC List.all_cons List.all_nil Value.oneCell' Bool.and_true wrote

theorem vb_dec {p q : Prop} {_ : Decidable p} {_ : Decidable q} (h : p ↔ q) : Value.bool (decide p) = Value.bool (decide q) := by rw [decide_eq_decide.2 h]
theorem vb_true {q : Prop} {_ : Decidable q} (h : q) : Value.bool true = Value.bool (decide q) := by rw [decide_eq_true h]
theorem vb_false {q : Prop} {_ : Decidable q} (h : ¬ q) : Value.bool false = Value.bool (decide q) := by rw [decide_eq_false h]
theorem vb_not {p q : Prop} {_ : Decidable p} {_ : Decidable q} (h : ¬ p ↔ q) : Value.bool (!decide p) = Value.bool (decide q) := by
  rw [← decide_not]
  exact vb_dec h
theorem take_snoc {α : Type} {xs : List α} {i : Nat} {x : α} (h : xs[i]? = some x) : xs.take (i + 1) = xs.take i ++ [x] := by rw [List.take_add_one, h]; rfl
theorem int_succ (i : Nat) : ((i : Int) + 1) = ((i + 1 : Nat) : Int) := rfl
theorem St.Ext.but {S S1 S2 : St} {v : Value} (h : S.Ext S1) (hb : St.But v S1 S2) (hv : ∀ i, blkOf v = some i → S.n ≤ i) : S.Ext S2 :=
  ⟨Nat.le_trans h.n hb.n, fun i hi => by
    have := h.n
    rw [hb.obj i (by omega) (fun e => by have := hv i e; omega)]
    exact h.obj i hi⟩
theorem St.But.ext {S S1 S2 : St} {v : Value} (hb : St.But v S1 S2) (h : S.Ext S1) : St.But v S S2 :=
  ⟨Nat.le_trans h.n hb.n, fun i hi hne => by
    have := h.n
    rw [hb.obj i (by omega) hne]
    exact h.obj i hi⟩
theorem SlT.lit {α : Type} (E : Enc α) {S : St} {y cap c : Nat} {rw : Bool} {xs : List α} (hc : xs.length ≤ c := by first | exact Nat.le_refl _ | (simp; done) | (simp; omega)) : SlT E (S.put y (.cells rw cap (E.flat xs))) (.slice (some ⟨y, 0, none⟩) xs.length c) xs := by
  refine ⟨_, c, rfl, hc, .inr rfl, fun _ => ⟨y, 0, rfl, St.lt_put_self _ _ _, ?_⟩⟩
  rw [St.loadN_same, E.flat_length, if_pos (by omega), drop_zero', List.take_of_length_le (by rw [E.flat_length]; omega)]
theorem OwnT.but {α : Type} (E : Enc α) {B : Nat} {S S' : St} {v u : Value} {xs : List α} (h : OwnT E B S v xs) (hb : St.But u S S') (hne : ∀ q, blkOf v = some q → blkOf u ≠ some q) : OwnT E B S' v xs :=
  h.congr E hb.n fun b l c hv hlt => hb.obj b hlt (hne b (by rw [hv]; rfl))
theorem SlT.but {α : Type} (E : Enc α) {S S' : St} {v u : Value} {xs : List α} (h : SlT E S v xs) (hb : St.But u S S') (hne : ∀ q, blkOf v = some q → blkOf u ≠ some q) : SlT E S' v xs :=
  h.congr E hb.n fun b _ l c hv hlt => hb.obj b hlt (hne b (by rw [hv]; rfl))
theorem OwnT.blk {α : Type} (E : Enc α) {B : Nat} {S : St} {v : Value} {xs : List α} (h : OwnT E B S v xs) : ∀ q, blkOf v = some q → B ≤ q ∧ q < S.n := by
  intro q hq
  rcases h with ⟨_, rfl⟩ | ⟨b, c, rfl, hB, hb, _⟩
  · simp [blkOf] at hq
  · simp [blkOf] at hq
    subst hq
    exact ⟨hB, hb⟩
theorem OwnT.fresh {α : Type} (E : Enc α) {B : Nat} {S : St} {v : Value} {xs : List α} (h : OwnT E B S v xs) : ∀ j, blkOf v = some j → B ≤ j := fun j hj => (h.blk E j hj).1
theorem St.Ext.loadN {S S' : St} (h : S.Ext S') {b : Nat} (hb : b < S.n) (off n : Nat) : S'.loadN ⟨b, off, none⟩ n = S.loadN ⟨b, off, none⟩ n := by
  rw [St.loadN_def, St.loadN_def, h.obj b hb]
theorem St.Ext.cell {S S' : St} (h : S.Ext S') {b : Nat} (hb : b < S.n) (off : Nat) : S'.cell ⟨b, off, none⟩ = S.cell ⟨b, off, none⟩ := by
  rw [St.cell_def, St.cell_def, h.obj b hb]
@[go_sem] theorem eqV_bool (a b : Bool) : eqV [.b] false (.bool a) (.bool b) = some (a == b) := by cases a <;> cases b <;> rfl
/-! ### less may be told -/
theorem J_weak {P : Program} {f : FuncId} {args : List Value} {S : St} {Q : Value → St → Prop} (h : J P f args S fun v S' => ∃ S'', (∀ c0 w, Rel c0 S' w → Rel c0 S'' w) ∧ Q v S'') : J P f args S Q :=
  fun c0 w hr => (h c0 w hr).mono fun _ _ ⟨v, _, he, hr', S'', hw, hq⟩ => ⟨v, S'', he, hw _ _ hr', hq⟩
theorem Rel.cut {c0 w : World} {S : St} (h : Rel c0 S w) {b cap : Nat} {rw : Bool} {cs : List Value} (ho : S.obj b = some (.cells rw cap cs)) (n : Nat) : Rel c0 (S.put b (.cells rw cap (cs.take n))) w := by
  have hb := h.obj b _ ho
  refine ⟨h.below, ?_, ?_, fun i o hi => ?_, h.drawn⟩
  · have := h.base
    rw [St.put_n]
    omega
  · have := h.size
    rw [St.put_n]
    omega
  · rw [St.put_n]
    by_cases hib : i = b
    · subst hib
      rw [St.put_same] at hi
      injection hi with hi
      subst hi
      obtain ⟨h1, c, e, lo, hi', h2, h3, h4, h5, h6⟩ := hb
      refine ⟨by omega, c, e, lo, hi', h2, h3, ?_, ?_, h6⟩
      · simp; omega
      · have hl : (cs.take n).length = min n cs.length := List.length_take
        rw [hl]
        conv => rhs; rw [← h5]
        rw [List.take_take]
    · rw [St.put_other _ _ _ hib] at hi
      obtain ⟨h1, h2⟩ := h.obj i o hi
      exact ⟨by omega, h2⟩
/-! ### slices of slices -/
theorem bndV_int {y d n : Nat} {k : IntKind} {i : Int} (hi : i = n) (h : n ≤ y) : bndV y d (some (.int k i)) = some n := by
  subst hi
  simp only [bndV]
  rw [if_pos ⟨by omega, by omega⟩]
  simp
theorem SlT.slice {α : Type} (E : Enc α) {S : St} {v : Value} {xs : List α} (h : SlT E S v xs) {l k : Nat} {lo hi : Option Value} (hl : l ≤ k) (hk : k ≤ xs.length) (hlo : bndV k 0 lo = some l) (hhi : ∀ m, xs.length ≤ m → bndHV m xs.length hi none = some k) :
    ∃ u, slV E.k v lo hi none = some u ∧ SlT E S u ((xs.take k).drop l) := by
  have hlen : ((xs.take k).drop l).length = k - l := by simp; omega
  obtain ⟨base, cap, rfl, hc, hok, h⟩ := h
  cases base with
  | none =>
    simp only [okB] at hok
    subst hok
    have hx : xs = [] := List.eq_nil_of_length_eq_zero (by omega)
    subst hx
    have hk0 : k = 0 := by simpa using hk
    subst hk0
    have hl0 : l = 0 := by omega
    subst hl0
    refine ⟨.slice none 0 0, ?_, none, 0, rfl, Nat.le_refl _, rfl, fun h => absurd rfl h⟩
    have h0 := hhi 0 (Nat.le_refl _)
    simp only [List.length_nil] at h0 ⊢
    simp only [slV, and_self, if_true, show bndV 0 0 none = some 0 from rfl, Option.bind_some, h0, hlo, Option.map_some]
  | some a =>
    simp only [slV, show bndV cap cap none = some cap from rfl, Option.bind_some, hhi cap hc, hlo]
    by_cases hml : cap = l
    · rw [if_pos hml]
      refine ⟨_, rfl, some a, cap - l, by rw [hlen], by rw [hlen]; omega, ?_, fun hne => ?_⟩
      · simp only [okB]; omega
      · exact absurd (List.eq_nil_of_length_eq_zero (by rw [hlen]; omega)) hne
    · rw [if_neg hml]
      simp only [okB] at hok
      have hsp : a.spot = none := by
        rcases hok with h | h
        · omega
        · exact h
      rw [hsp]
      refine ⟨_, rfl, some ⟨a.block, a.off + l * E.k, none⟩, cap - l, by rw [hlen], by rw [hlen]; omega, .inr rfl, fun hne => ?_⟩
      obtain ⟨b, off, he, hb, hld⟩ := h (by intro e; subst e; exact hne (by simp))
      injection he with he
      subst he
      refine ⟨b, off + l * E.k, rfl, hb, ?_⟩
      have hle : l * E.k + ((xs.take k).drop l).length * E.k ≤ xs.length * E.k := by
        rw [hlen, ← Nat.add_mul]
        exact Nat.mul_le_mul_right _ (by omega)
      rw [St.loadN_sub hld hle]
      congr 1
      rw [E.flat_drop, E.flat_take, hlen, List.drop_take]
theorem SlT.to {α : Type} (E : Enc α) {S : St} {v : Value} {xs : List α} (h : SlT E S v xs) {k : Nat} {q : IntKind} {i : Int} (hi : i = k) (hk : k ≤ xs.length) : ∃ u, slV E.k v none (some (.int q i)) none = some u ∧ SlT E S u (xs.take k) := by
  simpa using h.slice E (l := 0) (k := k) (lo := none) (hi := some (.int q i)) (Nat.zero_le _) hk rfl fun m hm => by simp only [bndHV]; exact bndV_int hi (by omega)
theorem SlT.from {α : Type} (E : Enc α) {S : St} {v : Value} {xs : List α} (h : SlT E S v xs) {l : Nat} {q : IntKind} {i : Int} (hi : i = l) (hl : l ≤ xs.length) : ∃ u, slV E.k v (some (.int q i)) none none = some u ∧ SlT E S u (xs.drop l) := by
  simpa using h.slice E (l := l) (k := xs.length) (lo := some (.int q i)) (hi := none) hl (Nat.le_refl _) (bndV_int hi hl) fun m hm => rfl
/-! ### nothing but a value -/
theorem Rel.back {c0 w0 w : World} {S S' : St} (h0 : Rel c0 S w0) (he : S.Ext S') (h : Rel c0 S' w) : Rel c0 S w :=
  ⟨h.below, h0.base, Nat.le_trans he.n h.size, fun b o hb => by
    have h1 := (h0.obj b o hb).1
    exact ⟨h1, (h.obj b o (by rw [he.obj b h1]; exact hb)).2⟩, h.drawn⟩
theorem J.back {P : Program} {f : FuncId} {args : List Value} {S : St} {A : Value → Prop} (h : J P f args S fun v S' => A v ∧ S.Ext S') : J P f args S fun v S' => A v ∧ S = S' :=
  fun c0 w hr => (h c0 w hr).mono fun _ _ ⟨v, _, he, hr', ha, hx⟩ => ⟨v, S, he, hr.back hx hr', ha, rfl⟩
attribute [go_sem] Int.toNat_natCast beq_self_eq_true wrap64 undef Nat.zero_add Nat.add_zero Int.zero_add Int.add_zero Int.sub_zero St.loadN_other St.cell_other
end Go.Osj
